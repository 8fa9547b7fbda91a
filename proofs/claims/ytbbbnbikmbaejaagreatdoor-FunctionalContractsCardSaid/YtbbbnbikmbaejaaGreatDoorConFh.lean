/- Closed facts of the row; no conditions. -/
import Derived.Test.YtbbbnbikmbaejaaGreatDoorCards
import Derived.JoinedOf
import Derived.ProofKit
import Derived.OpenShut
import Derived.SevenTiedAt
import Derived.KernelRfl
set_option linter.all false
namespace Go.Proofs.YtbbbnbikmbaejaaGreatDoor
open Go
set_option maxRecDepth 100000
theorem zXu:Tryz.pinned.checked.prog.funcNamed Rows.functionalContractsRow.func=some 3:=by kernel_rfl
theorem zXv:Tryz.f3.isInstance Tryz.pinned.checked.prog Rows.functionalContractsRow.origin Rows.functionalContractsRow.targs:=of_decide_eq_true (by kernel_rfl)
theorem zXw:Tryz.f3.isWrapper Tryz.pinned.checked.prog Rows.functionalContractsRow.wrapper Rows.functionalContractsRow.mainSum:=by unfold Func.isWrapper;first|(rw [if_pos (by decide +kernel)];kernel_rfl)|(rw [if_neg (by decide +kernel)];exact⟨rfl,rfl⟩)
theorem zXx:Rows.functionalContractsRow.wfByText (OpenSpec.ofChange Rows.functionalContractsSpec)=true:=by kernel_rfl
end Go.Proofs.YtbbbnbikmbaejaaGreatDoor
