/- Closed facts of the row; no conditions. -/
import Derived.Test.YtnkoaepelgbhfaaGreatDoorCards
import Derived.JoinedOf
import Derived.ProofKit
import Derived.OpenShut
import Derived.SevenTiedAt
import Derived.KernelRfl
set_option linter.all false
namespace Go.Proofs.YtnkoaepelgbhfaaGreatDoor
open Go
set_option maxRecDepth 100000
theorem Et:(Rows.extractPutRow.wf (OpenSpec.ofChange Rows.extractPutSpec))=true:=by kernel_rfl
theorem Ft:(laidOutB Tryz.pinned.checked.prog)=true:=by kernel_rfl
theorem Gt:(mapsRowed Tryz.pinned.checked.prog)=true:=by kernel_rfl
theorem Ht:(Tryz.f3.params.all (Tryz.pinned.checked.prog.readableRec ·))=true:=by kernel_rfl
theorem It:(namedTie Tryz.pinned.checked.prog Rows.extractPutRow.named Rows.extractPutSpec.vars)=true:=by kernel_rfl
theorem Kt:((Rows.extractPutRow.stops == []))=true:=by kernel_rfl
theorem Lt:((Tryz.pinned.checked.prog.stops == []))=true:=by kernel_rfl
theorem Mt:((Rows.extractPutRow.knobs == []))=true:=by kernel_rfl
theorem Nt:((Tryz.pinned.checked.prog.stopKnobs == []))=true:=by kernel_rfl
theorem Ot:((Rows.extractPutRow.inPlace == Tryz.pinned.checked.prog.inPlace 3))=true:=by kernel_rfl
theorem Pt:((Rows.extractPutRow.unfollowed == Tryz.pinned.checked.prog.unfollowed 3))=true:=by kernel_rfl
theorem Qt:((Rows.extractPutRow.recurses == Tryz.pinned.checked.prog.recurses 3))=true:=by kernel_rfl
end Go.Proofs.YtnkoaepelgbhfaaGreatDoor
