-- Written by a program of this session (mkprint.py): a printed walk over given contracts.
import Derived.Test.YtckpgbkbbdifmaaPMergeTellsx0
import Derived.Test.YtckpgbkbbdifmaaPMergeTellsx1
import Derived.Test.YtckpgbkbbdifmaaPMergeTellsx2
namespace Go.Proofs.Ytckpgbkbbdifmaa.PMergeTells
open Go.RowKit Go.Proofs.YtckpgbkbbdifmaaW.PrintWords Go.Proofs.YtckpgbkbbdifmaaW.PrintLast Go.Proofs.YtckpgbkbbdifmaaW.PrintMore
attribute [local go_sem] max2_int min2_int max_two min_two max_three min_three max_four min_four   -- for this text's walks alone
set_option linter.unusedVariables false
set_option linter.unusedSimpArgs false

end Go.Proofs.Ytckpgbkbbdifmaa.PMergeTells
