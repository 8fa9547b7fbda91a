/- Closed facts of the row; no conditions. -/
import Derived.Test.YtmkajedkflhbgaaGreatDoorCards
import Derived.JoinedOf
import Derived.ProofKit
import Derived.OpenShut
import Derived.SevenTiedAt
import Derived.KernelRfl
set_option linter.all false
namespace Go.Proofs.YtmkajedkflhbgaaGreatDoor
open Go
set_option maxRecDepth 100000
theorem Ev:(Rows.extractInlineRow.wf (OpenSpec.ofChange Rows.extractInlineSpec))=true:=by kernel_rfl
theorem Fv:(laidOutB Tryz.pinned.checked.prog)=true:=by kernel_rfl
theorem Gv:(mapsRowed Tryz.pinned.checked.prog)=true:=by kernel_rfl
theorem Hv:(Tryz.f3.params.all (Tryz.pinned.checked.prog.readableRec ·))=true:=by kernel_rfl
theorem Iv:(namedTie Tryz.pinned.checked.prog Rows.extractInlineRow.named Rows.extractInlineSpec.vars)=true:=by kernel_rfl
theorem Jv:((Rows.extractInlineRow.stops == []))=true:=by kernel_rfl
theorem Kv:((Tryz.pinned.checked.prog.stops == []))=true:=by kernel_rfl
theorem Lv:((Rows.extractInlineRow.knobs == []))=true:=by kernel_rfl
theorem Mv:((Tryz.pinned.checked.prog.stopKnobs == []))=true:=by kernel_rfl
theorem Nv:((Rows.extractInlineRow.inPlace == Tryz.pinned.checked.prog.inPlace 3))=true:=by kernel_rfl
theorem Ov:((Rows.extractInlineRow.unfollowed == Tryz.pinned.checked.prog.unfollowed 3))=true:=by kernel_rfl
theorem Pv:((Rows.extractInlineRow.recurses == Tryz.pinned.checked.prog.recurses 3))=true:=by kernel_rfl
end Go.Proofs.YtmkajedkflhbgaaGreatDoor
