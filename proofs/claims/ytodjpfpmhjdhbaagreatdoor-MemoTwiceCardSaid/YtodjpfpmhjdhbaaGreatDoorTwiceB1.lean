/- Types; no conditions. -/
import Derived.Test.YtodjpfpmhjdhbaaGreatDoorTwiceA13
import Derived.Test.YtodjpfpmhjdhbaaGreatDoorProg
import Derived.KernelRfl
set_option linter.all false
namespace Go.Proofs.YtodjpfpmhjdhbaaGreatDoor
open Go.Lg
set_option maxHeartbeats 4000000
set_option maxRecDepth 10000
def tt:Nat→Option TI
 | 1=>some ⟨.func,1,8,.nilFunc,[.nilfn]⟩
 | 2=>some ⟨.other,1,8,(.int .i64 0),[.int 0]⟩
 | 3=>some ⟨.other,1,8,(.int .i64 0),[.int 0]⟩
 | 4=>some ⟨.bool,1,1,(.bool false),[.bool false]⟩
 | 20=>some ⟨.iface,1,16,.nilIface,[.nilif]⟩
 | 22=>some ⟨.slice 3,1,24,(.slice none 0 0),[.slice []]⟩
 | 25=>some ⟨.slice 27,1,24,(.slice none 0 0),[.slice []]⟩
 | 26=>some ⟨.struct [(0,1),(1,1)],2,32,(.agg #[(.int .i64 0),(.slice none 0 0)]),[.int 0,.slice []]⟩
 | 27=>some ⟨.struct [(0,1),(1,1)],2,32,(.agg #[(.int .i64 0),(.slice none 0 0)]),[.int 0,.slice []]⟩
 | 28=>some ⟨.slice 30,1,24,(.slice none 0 0),[.slice []]⟩
 | 29=>some ⟨.struct [(0,1),(1,1),(2,2),(4,1)],5,72,(.agg #[(.int .i64 0),(.int .i64 0),(.int .i64 0),(.slice none 0 0),(.slice none 0 0)]),[.int 0,.int 0,.int 0,.slice [],.slice []]⟩
 | 30=>some ⟨.struct [(0,1),(1,1),(2,2),(4,1)],5,72,(.agg #[(.int .i64 0),(.int .i64 0),(.int .i64 0),(.slice none 0 0),(.slice none 0 0)]),[.int 0,.int 0,.int 0,.slice [],.slice []]⟩
 | 33=>some ⟨.pointer,1,8,(.pointer none),[.nil]⟩
 | 35=>some ⟨.slice 70,1,24,(.slice none 0 0),[.slice []]⟩
 | 36=>some ⟨.other,1,8,(.int .i64 0),[.int 0]⟩
 | 39=>some ⟨.slice 41,1,24,(.slice none 0 0),[.slice []]⟩
 | 40=>some ⟨.struct [(0,1),(1,1),(2,1),(3,1)],4,64,(.agg #[(.int .i64 0),(.int .i64 0),(.slice none 0 0),(.slice none 0 0)]),[.int 0,.int 0,.slice [],.slice []]⟩
 | 41=>some ⟨.struct [(0,1),(1,1),(2,1),(3,1)],4,64,(.agg #[(.int .i64 0),(.int .i64 0),(.slice none 0 0),(.slice none 0 0)]),[.int 0,.int 0,.nils,.nils]⟩
 | 45=>some ⟨.slice 47,1,24,(.slice none 0 0),[.slice []]⟩
 | 46=>some ⟨.struct [(0,1),(1,1),(2,1),(3,1),(4,1)],5,72,(.agg #[(.int .i64 0),(.int .i64 0),(.int .i64 0),(.slice none 0 0),(.slice none 0 0)]),[.int 0,.int 0,.int 0,.slice [],.slice []]⟩
 | 47=>some ⟨.struct [(0,1),(1,1),(2,1),(3,1),(4,1)],5,72,(.agg #[(.int .i64 0),(.int .i64 0),(.int .i64 0),(.slice none 0 0),(.slice none 0 0)]),[.int 0,.int 0,.int 0,.nils,.nils]⟩
 | 69=>some ⟨.struct [(0,1),(1,1)],2,16,(.agg #[(.int .i64 0),(.int .i64 0)]),[.int 0,.int 0]⟩
 | 70=>some ⟨.struct [(0,1),(1,1)],2,16,(.agg #[(.int .i64 0),(.int .i64 0)]),[.int 0,.int 0]⟩
 | 75=>some ⟨.struct [(0,1),(1,1)],2,32,(.agg #[(.slice none 0 0),(.int .i64 0)]),[.slice [],.int 0]⟩
 | 76=>some ⟨.struct [(0,1),(1,1)],2,32,(.agg #[(.slice none 0 0),(.int .i64 0)]),[.slice [],.int 0]⟩
 | 78=>some ⟨.pointer,1,8,(.pointer none),[.nil]⟩
 | 79=>some ⟨.struct [(0,1),(1,1),(2,1)],3,72,(.agg #[(.slice none 0 0),(.slice none 0 0),(.slice none 0 0)]),[.slice [],.slice [],.slice []]⟩
 | 80=>some ⟨.struct [(0,1),(1,1),(2,1)],3,72,(.agg #[(.slice none 0 0),(.slice none 0 0),(.slice none 0 0)]),[.nils,.nils,.nils]⟩
 | 84=>some ⟨.pointer,1,8,(.pointer none),[.nil]⟩
 | 85=>some ⟨.func,1,8,.nilFunc,[.nilfn]⟩
 | 86=>some ⟨.func,1,8,.nilFunc,[.nilfn]⟩
 | 87=>some ⟨.slice 132,1,24,(.slice none 0 0),[.slice []]⟩
 | 88=>some ⟨.slice 206,1,24,(.slice none 0 0),[.slice []]⟩
 | 89=>some ⟨.pointer,1,8,(.pointer none),[.nil]⟩
 | 90=>some ⟨.struct [(0,1),(1,1),(2,1),(3,1),(4,1),(5,1),(6,1),(7,1),(8,1)],9,120,(.agg #[(.slice none 0 0),(.int .i64 0),(.int .i64 0),.nilFunc,.nilFunc,(.slice none 0 0),(.slice none 0 0),(.int .i64 0),(.pointer none)]),[.slice [],.int 0,.int 0,.nilfn,.nilfn,.slice [],.slice [],.int 0,.nil]⟩
 | 91=>some ⟨.struct [(0,1),(1,1),(2,1),(3,1),(4,1),(5,1),(6,1),(7,1),(8,1)],9,120,(.agg #[(.slice none 0 0),(.int .i64 0),(.int .i64 0),.nilFunc,.nilFunc,(.slice none 0 0),(.slice none 0 0),(.int .i64 0),(.pointer none)]),[.nils,.int 0,.int 0,.nilfn,.nilfn,.nils,.nils,.int 0,.nil]⟩
 | 94=>some ⟨.pointer,1,8,(.pointer none),[.nil]⟩
 | 104=>some ⟨.pointer,1,8,(.pointer none),[.nil]⟩
 | 105=>some ⟨.struct [(0,1),(1,1),(2,1)],3,24,(.agg #[(.int .i64 0),(.int .i64 0),(.bool false)]),[.int 0,.int 0,.bool false]⟩
 | 106=>some ⟨.struct [(0,1),(1,1),(2,1)],3,24,(.agg #[(.int .i64 0),(.int .i64 0),(.bool false)]),[.int 0,.int 0,.bool false]⟩
 | 107=>some ⟨.slice 109,1,24,(.slice none 0 0),[.slice []]⟩
 | 108=>some ⟨.struct [(0,1),(1,1),(2,1),(3,5),(8,1)],9,152,(.agg #[(.int .i64 0),(.slice none 0 0),(.slice none 0 0),(.int .i64 0),(.int .i64 0),(.int .i64 0),(.slice none 0 0),(.slice none 0 0),(.slice none 0 0)]),[.int 0,.slice [],.slice [],.int 0,.int 0,.int 0,.slice [],.slice [],.slice []]⟩
 | 109=>some ⟨.struct [(0,1),(1,1),(2,1),(3,5),(8,1)],9,152,(.agg #[(.int .i64 0),(.slice none 0 0),(.slice none 0 0),(.int .i64 0),(.int .i64 0),(.int .i64 0),(.slice none 0 0),(.slice none 0 0),(.slice none 0 0)]),[.int 0,.slice [],.slice [],.int 0,.int 0,.int 0,.slice [],.slice [],.slice []]⟩
 | 118=>some ⟨.pointer,1,8,(.pointer none),[.nil]⟩
 | 121=>some ⟨.imap 228 3 3,1,8,(.map none),[.nilm]⟩
 | 122=>some ⟨.map 132 3,1,8,(.map none),[.nilm]⟩
 | 123=>some ⟨.map 163 3,1,8,(.map none),[.nilm]⟩
 | 124=>some ⟨.map 89 3,1,8,(.map none),[.nilm]⟩
 | 125=>some ⟨.imap 188 132 2,1,8,(.map none),[.nilm]⟩
 | 126=>some ⟨.struct [(0,1),(1,1),(2,1),(3,1),(4,1),(5,1)],6,48,(.agg #[(.map none),(.map none),(.map none),(.map none),(.map none),(.int .i64 0)]),[.nilm,.nilm,.nilm,.nilm,.nilm,.int 0]⟩
 | 127=>some ⟨.struct [(0,1),(1,1),(2,1),(3,1),(4,1),(5,1)],6,48,(.agg #[(.map none),(.map none),(.map none),(.map none),(.map none),(.int .i64 0)]),[.nilm,.nilm,.nilm,.nilm,.nilm,.int 0]⟩
 | 131=>some ⟨.func,1,8,.nilFunc,[.nilfn]⟩
 | 132=>some ⟨.pointer,1,8,(.pointer none),[.nil]⟩
 | 152=>some ⟨.pointer,1,8,(.pointer none),[.nil]⟩
 | 153=>some ⟨.slice 186,1,24,(.slice none 0 0),[.slice []]⟩
 | 154=>some ⟨.struct [(0,1),(1,1),(2,1),(3,1),(4,1),(5,1),(6,1)],7,88,(.agg #[(.slice none 0 0),(.int .i64 0),(.int .i64 0),(.int .i64 0),(.bool false),(.slice none 0 0),(.int .i64 0)]),[.slice [],.int 0,.int 0,.int 0,.bool false,.slice [],.int 0]⟩
 | 155=>some ⟨.struct [(0,1),(1,1),(2,1),(3,1),(4,1),(5,1),(6,1)],7,88,(.agg #[(.slice none 0 0),(.int .i64 0),(.int .i64 0),(.int .i64 0),(.bool false),(.slice none 0 0),(.int .i64 0)]),[.nils,.int 0,.int 0,.int 0,.bool false,.nils,.int 0]⟩
 | 161=>some ⟨.map 132 47,1,8,(.map none),[.nilm]⟩
 | 163=>some ⟨.pointer,1,8,(.pointer none),[.nil]⟩
 | 164=>some ⟨.array 2 132,2,16,(.agg #[(.pointer none),(.pointer none)]),[.nil,.nil]⟩
 | 165=>some ⟨.struct [(0,1),(1,1),(2,1),(3,2),(5,1),(6,1),(7,1),(8,1)],9,72,(.agg #[(.int .i64 0),(.int .i64 0),(.pointer none),(.pointer none),(.pointer none),(.int .i64 0),(.pointer none),(.int .i64 0),(.bool false)]),[.int 0,.int 0,.nil,.nil,.nil,.int 0,.nil,.int 0,.bool false]⟩
 | 166=>some ⟨.struct [(0,1),(1,1),(2,1),(3,2),(5,1),(6,1),(7,1),(8,1)],9,72,(.agg #[(.int .i64 0),(.int .i64 0),(.pointer none),(.pointer none),(.pointer none),(.int .i64 0),(.pointer none),(.int .i64 0),(.bool false)]),[.int 0,.int 0,.nil,.nil,.nil,.int 0,.nil,.int 0,.bool false]⟩
 | 167=>some ⟨.struct [(0,1),(1,1),(2,1)],3,24,(.agg #[(.int .i64 0),(.int .i64 0),(.pointer none)]),[.int 0,.int 0,.nil]⟩
 | 168=>some ⟨.struct [(0,1),(1,1),(2,1)],3,24,(.agg #[(.int .i64 0),(.int .i64 0),(.pointer none)]),[.int 0,.int 0,.nil]⟩
 | 170=>some ⟨.struct [(0,1),(1,1),(2,1),(3,1),(4,1)],5,40,(.agg #[(.pointer none),(.int .i64 0),(.int .i64 0),(.bool false),(.pointer none)]),[.nil,.int 0,.int 0,.bool false,.nil]⟩
 | 171=>some ⟨.struct [(0,1),(1,1),(2,1),(3,1),(4,1)],5,40,(.agg #[(.pointer none),(.int .i64 0),(.int .i64 0),(.bool false),(.pointer none)]),[.nil,.int 0,.int 0,.bool false,.nil]⟩
 | 178=>some ⟨.struct [(0,1)],1,8,(.agg #[(.int .i64 0)]),[.int 0]⟩
 | 179=>some ⟨.struct [(0,1)],1,8,(.agg #[(.int .i64 0)]),[.int 0]⟩
 | 182=>some ⟨.func,1,8,.nilFunc,[.nilfn]⟩
 | 185=>some ⟨.struct [(0,5),(5,5),(10,5)],15,216,(.agg #[(.int .i64 0),(.int .i64 0),(.int .i64 0),(.slice none 0 0),(.slice none 0 0),(.int .i64 0),(.int .i64 0),(.int .i64 0),(.slice none 0 0),(.slice none 0 0),(.int .i64 0),(.int .i64 0),(.int .i64 0),(.slice none 0 0),(.slice none 0 0)]),[.int 0,.int 0,.int 0,.slice [],.slice [],.int 0,.int 0,.int 0,.slice [],.slice [],.int 0,.int 0,.int 0,.slice [],.slice []]⟩
 | 186=>some ⟨.struct [(0,5),(5,5),(10,5)],15,216,(.agg #[(.int .i64 0),(.int .i64 0),(.int .i64 0),(.slice none 0 0),(.slice none 0 0),(.int .i64 0),(.int .i64 0),(.int .i64 0),(.slice none 0 0),(.slice none 0 0),(.int .i64 0),(.int .i64 0),(.int .i64 0),(.slice none 0 0),(.slice none 0 0)]),[.int 0,.int 0,.int 0,.slice [],.slice [],.int 0,.int 0,.int 0,.slice [],.slice [],.int 0,.int 0,.int 0,.slice [],.slice []]⟩
 | 188=>some ⟨.array 2 3,2,16,(.agg #[(.int .i64 0),(.int .i64 0)]),[.int 0,.int 0]⟩
 | 190=>some ⟨.struct [(0,1),(1,1)],2,16,(.agg #[(.int .i64 0),(.int .i64 0)]),[.int 0,.int 0]⟩
 | 191=>some ⟨.struct [(0,1),(1,1)],2,16,(.agg #[(.int .i64 0),(.int .i64 0)]),[.int 0,.int 0]⟩
 | 192=>some ⟨.array 14 191,28,224,(.agg #[(.int .i64 0),(.int .i64 0),(.int .i64 0),(.int .i64 0),(.int .i64 0),(.int .i64 0),(.int .i64 0),(.int .i64 0),(.int .i64 0),(.int .i64 0),(.int .i64 0),(.int .i64 0),(.int .i64 0),(.int .i64 0),(.int .i64 0),(.int .i64 0),(.int .i64 0),(.int .i64 0),(.int .i64 0),(.int .i64 0),(.int .i64 0),(.int .i64 0),(.int .i64 0),(.int .i64 0),(.int .i64 0),(.int .i64 0),(.int .i64 0),(.int .i64 0)]),[.int 0,.int 0,.int 0,.int 0,.int 0,.int 0,.int 0,.int 0,.int 0,.int 0,.int 0,.int 0,.int 0,.int 0,.int 0,.int 0,.int 0,.int 0,.int 0,.int 0,.int 0,.int 0,.int 0,.int 0,.int 0,.int 0,.int 0,.int 0]⟩
 | 198=>some ⟨.pointer,1,8,(.pointer none),[.nil]⟩
 | 202=>some ⟨.slice 87,1,24,(.slice none 0 0),[.slice []]⟩
 | 203=>some ⟨.struct [(0,1),(1,1),(2,1),(3,1),(4,1),(5,1)],6,80,(.agg #[(.pointer none),(.int .i64 0),(.slice none 0 0),(.int .i64 0),(.pointer none),(.slice none 0 0)]),[.nil,.int 0,.slice [],.int 0,.nil,.slice []]⟩
 | 204=>some ⟨.struct [(0,1),(1,1),(2,1),(3,1),(4,1),(5,1)],6,80,(.agg #[(.pointer none),(.int .i64 0),(.slice none 0 0),(.int .i64 0),(.pointer none),(.slice none 0 0)]),[.nil,.int 0,.nils,.int 0,.nil,.nils]⟩
 | 205=>some ⟨.struct [(0,1),(1,1),(2,1),(3,1),(4,1)],5,40,(.agg #[(.int .i64 0),(.pointer none),(.pointer none),(.pointer none),(.pointer none)]),[.int 0,.nil,.nil,.nil,.nil]⟩
 | 206=>some ⟨.struct [(0,1),(1,1),(2,1),(3,1),(4,1)],5,40,(.agg #[(.int .i64 0),(.pointer none),(.pointer none),(.pointer none),(.pointer none)]),[.int 0,.nil,.nil,.nil,.nil]⟩
 | 220=>some ⟨.slice 163,1,24,(.slice none 0 0),[.slice []]⟩
 | 227=>some ⟨.struct [(0,1),(1,1),(2,1)],3,24,(.agg #[(.int .i64 0),(.int .i64 0),(.int .i64 0)]),[.int 0,.int 0,.int 0]⟩
 | 228=>some ⟨.struct [(0,1),(1,1),(2,1)],3,24,(.agg #[(.int .i64 0),(.int .i64 0),(.int .i64 0)]),[.int 0,.int 0,.int 0]⟩
 | _=>none
def opsP:List PV:=[.int 0,.int 0,.int 0,.int 1,.int 0,.int 2,.int 2,.int 3,.int 0,.int 4,.int 1,.int 5,.int 3,.int 6,.int 0,.int 7,.int 2,.int 8,.int 3,.int 9,.int 2,.int 10,.int 1,.int 11,.int 1,.int 12,.int 0,.int 13]
def gl:Nat→Option (List PV)
 | 0=>some opsP
 | _=>none
theorem gl0:gl 0=some opsP:=rfl
theorem mixed:Tryz.prog.follows .mixedOrders=true:=by kernel_rfl
theorem ti1:TIOK Tryz.prog 1 ⟨.func,1,8,.nilFunc,[.nilfn]⟩ :=
 TIOK.mk' (by kernel_rfl) Tryz.underlying1 ⟨_,_,_,rfl⟩ rfl (by simp [RepL,RepP,Value.cells,maxLen]) rfl (.inr (by kernel_rfl))
theorem ti2:TIOK Tryz.prog 2 ⟨.other,1,8,(.int .i64 0),[.int 0]⟩ :=
 TIOK.mk' (by kernel_rfl) Tryz.underlying2 trivial rfl (by simp [RepL,RepP,Value.cells,maxLen]) rfl (.inr (by kernel_rfl))
theorem ti3:TIOK Tryz.prog 3 ⟨.other,1,8,(.int .i64 0),[.int 0]⟩ :=
 TIOK.mk' (by kernel_rfl) Tryz.underlying3 trivial rfl (by simp [RepL,RepP,Value.cells,maxLen]) rfl (.inr (by kernel_rfl))
theorem ti4:TIOK Tryz.prog 4 ⟨.bool,1,1,(.bool false),[.bool false]⟩ :=
 TIOK.mk' (by kernel_rfl) Tryz.underlying4 rfl rfl (by simp [RepL,RepP,Value.cells,maxLen]) rfl (.inr (by kernel_rfl))
theorem ti20:TIOK Tryz.prog 20 ⟨.iface,1,16,.nilIface,[.nilif]⟩ :=
 TIOK.mk' (by kernel_rfl) Tryz.underlying20 ⟨_,rfl⟩ rfl (by simp [RepL,RepP,Value.cells,maxLen]) rfl (.inl rfl)
theorem ti22:TIOK Tryz.prog 22 ⟨.slice 3,1,24,(.slice none 0 0),[.slice []]⟩ :=
 TIOK.mk' (by kernel_rfl) Tryz.underlying22 rfl rfl (by simp [RepL,RepP,Value.cells,maxLen]) rfl (.inr (by kernel_rfl))
theorem ti25:TIOK Tryz.prog 25 ⟨.slice 27,1,24,(.slice none 0 0),[.slice []]⟩ :=
 TIOK.mk' (by kernel_rfl) Tryz.underlying25 rfl rfl (by simp [RepL,RepP,Value.cells,maxLen]) rfl (.inr (by kernel_rfl))
theorem ti26:TIOK Tryz.prog 26 ⟨.struct [(0,1),(1,1)],2,32,(.agg #[(.int .i64 0),(.slice none 0 0)]),[.int 0,.slice []]⟩ :=
 TIOK.mk' (by kernel_rfl) Tryz.underlying26 ⟨_,rfl,by kernel_rfl⟩ rfl (by simp [RepL,RepP,Value.cells,maxLen]) rfl (.inr (by kernel_rfl))
theorem ti27:TIOK Tryz.prog 27 ⟨.struct [(0,1),(1,1)],2,32,(.agg #[(.int .i64 0),(.slice none 0 0)]),[.int 0,.slice []]⟩ :=
 TIOK.mk' (by kernel_rfl) Tryz.underlying27 ⟨_,rfl,by kernel_rfl⟩ rfl (by simp [RepL,RepP,Value.cells,maxLen]) rfl (.inr (by kernel_rfl))
theorem ti28:TIOK Tryz.prog 28 ⟨.slice 30,1,24,(.slice none 0 0),[.slice []]⟩ :=
 TIOK.mk' (by kernel_rfl) Tryz.underlying28 rfl rfl (by simp [RepL,RepP,Value.cells,maxLen]) rfl (.inr (by kernel_rfl))
theorem ti29:TIOK Tryz.prog 29 ⟨.struct [(0,1),(1,1),(2,2),(4,1)],5,72,(.agg #[(.int .i64 0),(.int .i64 0),(.int .i64 0),(.slice none 0 0),(.slice none 0 0)]),[.int 0,.int 0,.int 0,.slice [],.slice []]⟩ :=
 TIOK.mk' (by kernel_rfl) Tryz.underlying29 ⟨_,rfl,by kernel_rfl⟩ rfl (by simp [RepL,RepP,Value.cells,maxLen]) rfl (.inr (by kernel_rfl))
theorem ti30:TIOK Tryz.prog 30 ⟨.struct [(0,1),(1,1),(2,2),(4,1)],5,72,(.agg #[(.int .i64 0),(.int .i64 0),(.int .i64 0),(.slice none 0 0),(.slice none 0 0)]),[.int 0,.int 0,.int 0,.slice [],.slice []]⟩ :=
 TIOK.mk' (by kernel_rfl) Tryz.underlying30 ⟨_,rfl,by kernel_rfl⟩ rfl (by simp [RepL,RepP,Value.cells,maxLen]) rfl (.inr (by kernel_rfl))
theorem ti33:TIOK Tryz.prog 33 ⟨.pointer,1,8,(.pointer none),[.nil]⟩ :=
 TIOK.mk' (by kernel_rfl) Tryz.underlying33 ⟨_,rfl⟩ rfl (by simp [RepL,RepP,Value.cells,maxLen]) rfl (.inr (by kernel_rfl))
theorem ti35:TIOK Tryz.prog 35 ⟨.slice 70,1,24,(.slice none 0 0),[.slice []]⟩ :=
 TIOK.mk' (by kernel_rfl) Tryz.underlying35 rfl rfl (by simp [RepL,RepP,Value.cells,maxLen]) rfl (.inr (by kernel_rfl))
theorem ti36:TIOK Tryz.prog 36 ⟨.other,1,8,(.int .i64 0),[.int 0]⟩ :=
 TIOK.mk' (by kernel_rfl) Tryz.underlying36 trivial rfl (by simp [RepL,RepP,Value.cells,maxLen]) rfl (.inr (by kernel_rfl))
theorem ti39:TIOK Tryz.prog 39 ⟨.slice 41,1,24,(.slice none 0 0),[.slice []]⟩ :=
 TIOK.mk' (by kernel_rfl) Tryz.underlying39 rfl rfl (by simp [RepL,RepP,Value.cells,maxLen]) rfl (.inr (by kernel_rfl))
theorem ti40:TIOK Tryz.prog 40 ⟨.struct [(0,1),(1,1),(2,1),(3,1)],4,64,(.agg #[(.int .i64 0),(.int .i64 0),(.slice none 0 0),(.slice none 0 0)]),[.int 0,.int 0,.slice [],.slice []]⟩ :=
 TIOK.mk' (by kernel_rfl) Tryz.underlying40 ⟨_,rfl,by kernel_rfl⟩ rfl (by simp [RepL,RepP,Value.cells,maxLen]) rfl (.inr (by kernel_rfl))
theorem ti41:TIOK Tryz.prog 41 ⟨.struct [(0,1),(1,1),(2,1),(3,1)],4,64,(.agg #[(.int .i64 0),(.int .i64 0),(.slice none 0 0),(.slice none 0 0)]),[.int 0,.int 0,.nils,.nils]⟩ :=
 TIOK.mk' (by kernel_rfl) Tryz.underlying41 ⟨_,rfl,by kernel_rfl⟩ rfl (by simp [RepL,RepP,Value.cells,maxLen]) rfl (.inr (by kernel_rfl))
theorem ti45:TIOK Tryz.prog 45 ⟨.slice 47,1,24,(.slice none 0 0),[.slice []]⟩ :=
 TIOK.mk' (by kernel_rfl) Tryz.underlying45 rfl rfl (by simp [RepL,RepP,Value.cells,maxLen]) rfl (.inr (by kernel_rfl))
theorem ti46:TIOK Tryz.prog 46 ⟨.struct [(0,1),(1,1),(2,1),(3,1),(4,1)],5,72,(.agg #[(.int .i64 0),(.int .i64 0),(.int .i64 0),(.slice none 0 0),(.slice none 0 0)]),[.int 0,.int 0,.int 0,.slice [],.slice []]⟩ :=
 TIOK.mk' (by kernel_rfl) Tryz.underlying46 ⟨_,rfl,by kernel_rfl⟩ rfl (by simp [RepL,RepP,Value.cells,maxLen]) rfl (.inr (by kernel_rfl))
theorem ti47:TIOK Tryz.prog 47 ⟨.struct [(0,1),(1,1),(2,1),(3,1),(4,1)],5,72,(.agg #[(.int .i64 0),(.int .i64 0),(.int .i64 0),(.slice none 0 0),(.slice none 0 0)]),[.int 0,.int 0,.int 0,.nils,.nils]⟩ :=
 TIOK.mk' (by kernel_rfl) Tryz.underlying47 ⟨_,rfl,by kernel_rfl⟩ rfl (by simp [RepL,RepP,Value.cells,maxLen]) rfl (.inr (by kernel_rfl))
theorem ti69:TIOK Tryz.prog 69 ⟨.struct [(0,1),(1,1)],2,16,(.agg #[(.int .i64 0),(.int .i64 0)]),[.int 0,.int 0]⟩ :=
 TIOK.mk' (by kernel_rfl) Tryz.underlying69 ⟨_,rfl,by kernel_rfl⟩ rfl (by simp [RepL,RepP,Value.cells,maxLen]) rfl (.inr (by kernel_rfl))
theorem ti70:TIOK Tryz.prog 70 ⟨.struct [(0,1),(1,1)],2,16,(.agg #[(.int .i64 0),(.int .i64 0)]),[.int 0,.int 0]⟩ :=
 TIOK.mk' (by kernel_rfl) Tryz.underlying70 ⟨_,rfl,by kernel_rfl⟩ rfl (by simp [RepL,RepP,Value.cells,maxLen]) rfl (.inr (by kernel_rfl))
theorem ti75:TIOK Tryz.prog 75 ⟨.struct [(0,1),(1,1)],2,32,(.agg #[(.slice none 0 0),(.int .i64 0)]),[.slice [],.int 0]⟩ :=
 TIOK.mk' (by kernel_rfl) Tryz.underlying75 ⟨_,rfl,by kernel_rfl⟩ rfl (by simp [RepL,RepP,Value.cells,maxLen]) rfl (.inr (by kernel_rfl))
theorem ti76:TIOK Tryz.prog 76 ⟨.struct [(0,1),(1,1)],2,32,(.agg #[(.slice none 0 0),(.int .i64 0)]),[.slice [],.int 0]⟩ :=
 TIOK.mk' (by kernel_rfl) Tryz.underlying76 ⟨_,rfl,by kernel_rfl⟩ rfl (by simp [RepL,RepP,Value.cells,maxLen]) rfl (.inr (by kernel_rfl))
theorem ti78:TIOK Tryz.prog 78 ⟨.pointer,1,8,(.pointer none),[.nil]⟩ :=
 TIOK.mk' (by kernel_rfl) Tryz.underlying78 ⟨_,rfl⟩ rfl (by simp [RepL,RepP,Value.cells,maxLen]) rfl (.inr (by kernel_rfl))
theorem ti79:TIOK Tryz.prog 79 ⟨.struct [(0,1),(1,1),(2,1)],3,72,(.agg #[(.slice none 0 0),(.slice none 0 0),(.slice none 0 0)]),[.slice [],.slice [],.slice []]⟩ :=
 TIOK.mk' (by kernel_rfl) Tryz.underlying79 ⟨_,rfl,by kernel_rfl⟩ rfl (by simp [RepL,RepP,Value.cells,maxLen]) rfl (.inr (by kernel_rfl))
theorem ti80:TIOK Tryz.prog 80 ⟨.struct [(0,1),(1,1),(2,1)],3,72,(.agg #[(.slice none 0 0),(.slice none 0 0),(.slice none 0 0)]),[.nils,.nils,.nils]⟩ :=
 TIOK.mk' (by kernel_rfl) Tryz.underlying80 ⟨_,rfl,by kernel_rfl⟩ rfl (by simp [RepL,RepP,Value.cells,maxLen]) rfl (.inr (by kernel_rfl))
theorem ti84:TIOK Tryz.prog 84 ⟨.pointer,1,8,(.pointer none),[.nil]⟩ :=
 TIOK.mk' (by kernel_rfl) Tryz.underlying84 ⟨_,rfl⟩ rfl (by simp [RepL,RepP,Value.cells,maxLen]) rfl (.inr (by kernel_rfl))
theorem ti85:TIOK Tryz.prog 85 ⟨.func,1,8,.nilFunc,[.nilfn]⟩ :=
 TIOK.mk' (by kernel_rfl) Tryz.underlying85 ⟨_,_,_,rfl⟩ rfl (by simp [RepL,RepP,Value.cells,maxLen]) rfl (.inr (by kernel_rfl))
theorem ti86:TIOK Tryz.prog 86 ⟨.func,1,8,.nilFunc,[.nilfn]⟩ :=
 TIOK.mk' (by kernel_rfl) Tryz.underlying86 ⟨_,_,_,rfl⟩ rfl (by simp [RepL,RepP,Value.cells,maxLen]) rfl (.inr (by kernel_rfl))
theorem ti87:TIOK Tryz.prog 87 ⟨.slice 132,1,24,(.slice none 0 0),[.slice []]⟩ :=
 TIOK.mk' (by kernel_rfl) Tryz.underlying87 rfl rfl (by simp [RepL,RepP,Value.cells,maxLen]) rfl (.inr (by kernel_rfl))
theorem ti88:TIOK Tryz.prog 88 ⟨.slice 206,1,24,(.slice none 0 0),[.slice []]⟩ :=
 TIOK.mk' (by kernel_rfl) Tryz.underlying88 rfl rfl (by simp [RepL,RepP,Value.cells,maxLen]) rfl (.inr (by kernel_rfl))
theorem ti89:TIOK Tryz.prog 89 ⟨.pointer,1,8,(.pointer none),[.nil]⟩ :=
 TIOK.mk' (by kernel_rfl) Tryz.underlying89 ⟨_,rfl⟩ rfl (by simp [RepL,RepP,Value.cells,maxLen]) rfl (.inr (by kernel_rfl))
theorem ti90:TIOK Tryz.prog 90 ⟨.struct [(0,1),(1,1),(2,1),(3,1),(4,1),(5,1),(6,1),(7,1),(8,1)],9,120,(.agg #[(.slice none 0 0),(.int .i64 0),(.int .i64 0),.nilFunc,.nilFunc,(.slice none 0 0),(.slice none 0 0),(.int .i64 0),(.pointer none)]),[.slice [],.int 0,.int 0,.nilfn,.nilfn,.slice [],.slice [],.int 0,.nil]⟩ :=
 TIOK.mk' (by kernel_rfl) Tryz.underlying90 ⟨_,rfl,by kernel_rfl⟩ rfl (by simp [RepL,RepP,Value.cells,maxLen]) rfl (.inr (by kernel_rfl))
theorem ti91:TIOK Tryz.prog 91 ⟨.struct [(0,1),(1,1),(2,1),(3,1),(4,1),(5,1),(6,1),(7,1),(8,1)],9,120,(.agg #[(.slice none 0 0),(.int .i64 0),(.int .i64 0),.nilFunc,.nilFunc,(.slice none 0 0),(.slice none 0 0),(.int .i64 0),(.pointer none)]),[.nils,.int 0,.int 0,.nilfn,.nilfn,.nils,.nils,.int 0,.nil]⟩ :=
 TIOK.mk' (by kernel_rfl) Tryz.underlying91 ⟨_,rfl,by kernel_rfl⟩ rfl (by simp [RepL,RepP,Value.cells,maxLen]) rfl (.inr (by kernel_rfl))
theorem ti94:TIOK Tryz.prog 94 ⟨.pointer,1,8,(.pointer none),[.nil]⟩ :=
 TIOK.mk' (by kernel_rfl) Tryz.underlying94 ⟨_,rfl⟩ rfl (by simp [RepL,RepP,Value.cells,maxLen]) rfl (.inr (by kernel_rfl))
theorem ti104:TIOK Tryz.prog 104 ⟨.pointer,1,8,(.pointer none),[.nil]⟩ :=
 TIOK.mk' (by kernel_rfl) Tryz.underlying104 ⟨_,rfl⟩ rfl (by simp [RepL,RepP,Value.cells,maxLen]) rfl (.inr (by kernel_rfl))
theorem ti105:TIOK Tryz.prog 105 ⟨.struct [(0,1),(1,1),(2,1)],3,24,(.agg #[(.int .i64 0),(.int .i64 0),(.bool false)]),[.int 0,.int 0,.bool false]⟩ :=
 TIOK.mk' (by kernel_rfl) Tryz.underlying105 ⟨_,rfl,by kernel_rfl⟩ rfl (by simp [RepL,RepP,Value.cells,maxLen]) rfl (.inr (by kernel_rfl))
theorem ti106:TIOK Tryz.prog 106 ⟨.struct [(0,1),(1,1),(2,1)],3,24,(.agg #[(.int .i64 0),(.int .i64 0),(.bool false)]),[.int 0,.int 0,.bool false]⟩ :=
 TIOK.mk' (by kernel_rfl) Tryz.underlying106 ⟨_,rfl,by kernel_rfl⟩ rfl (by simp [RepL,RepP,Value.cells,maxLen]) rfl (.inr (by kernel_rfl))
theorem ti107:TIOK Tryz.prog 107 ⟨.slice 109,1,24,(.slice none 0 0),[.slice []]⟩ :=
 TIOK.mk' (by kernel_rfl) Tryz.underlying107 rfl rfl (by simp [RepL,RepP,Value.cells,maxLen]) rfl (.inr (by kernel_rfl))
theorem ti108:TIOK Tryz.prog 108 ⟨.struct [(0,1),(1,1),(2,1),(3,5),(8,1)],9,152,(.agg #[(.int .i64 0),(.slice none 0 0),(.slice none 0 0),(.int .i64 0),(.int .i64 0),(.int .i64 0),(.slice none 0 0),(.slice none 0 0),(.slice none 0 0)]),[.int 0,.slice [],.slice [],.int 0,.int 0,.int 0,.slice [],.slice [],.slice []]⟩ :=
 TIOK.mk' (by kernel_rfl) Tryz.underlying108 ⟨_,rfl,by kernel_rfl⟩ rfl (by simp [RepL,RepP,Value.cells,maxLen]) rfl (.inr (by kernel_rfl))
theorem ti109:TIOK Tryz.prog 109 ⟨.struct [(0,1),(1,1),(2,1),(3,5),(8,1)],9,152,(.agg #[(.int .i64 0),(.slice none 0 0),(.slice none 0 0),(.int .i64 0),(.int .i64 0),(.int .i64 0),(.slice none 0 0),(.slice none 0 0),(.slice none 0 0)]),[.int 0,.slice [],.slice [],.int 0,.int 0,.int 0,.slice [],.slice [],.slice []]⟩ :=
 TIOK.mk' (by kernel_rfl) Tryz.underlying109 ⟨_,rfl,by kernel_rfl⟩ rfl (by simp [RepL,RepP,Value.cells,maxLen]) rfl (.inr (by kernel_rfl))
theorem ti118:TIOK Tryz.prog 118 ⟨.pointer,1,8,(.pointer none),[.nil]⟩ :=
 TIOK.mk' (by kernel_rfl) Tryz.underlying118 ⟨_,rfl⟩ rfl (by simp [RepL,RepP,Value.cells,maxLen]) rfl (.inr (by kernel_rfl))
theorem key228:KeyOK Tryz.prog 228 3:=KeyOK.struct Tryz.underlying228 (by kernel_rfl) (by simp [Tryz.underlying3]) rfl rfl
theorem ti121:TIOK Tryz.prog 121 ⟨.imap 228 3 3,1,8,(.map none),[.nilm]⟩ :=
 TIOK.mk' (by kernel_rfl) Tryz.underlying121 ⟨rfl,key228⟩ rfl (by simp [RepL,RepP,Value.cells,maxLen]) rfl (.inr (by kernel_rfl))
theorem ti122:TIOK Tryz.prog 122 ⟨.map 132 3,1,8,(.map none),[.nilm]⟩ :=
 TIOK.mk' (by kernel_rfl) Tryz.underlying122 ⟨rfl,_,Tryz.underlying132,by kernel_rfl⟩ rfl (by simp [RepL,RepP,Value.cells,maxLen]) rfl (.inr (by kernel_rfl))
theorem ti123:TIOK Tryz.prog 123 ⟨.map 163 3,1,8,(.map none),[.nilm]⟩ :=
 TIOK.mk' (by kernel_rfl) Tryz.underlying123 ⟨rfl,_,Tryz.underlying163,by kernel_rfl⟩ rfl (by simp [RepL,RepP,Value.cells,maxLen]) rfl (.inr (by kernel_rfl))
theorem ti124:TIOK Tryz.prog 124 ⟨.map 89 3,1,8,(.map none),[.nilm]⟩ :=
 TIOK.mk' (by kernel_rfl) Tryz.underlying124 ⟨rfl,_,Tryz.underlying89,by kernel_rfl⟩ rfl (by simp [RepL,RepP,Value.cells,maxLen]) rfl (.inr (by kernel_rfl))
theorem key188:KeyOK Tryz.prog 188 2:=by
 obtain⟨i,hi,_⟩:=ti3.info
 exact KeyOK.array Tryz.underlying188 Tryz.underlying3 hi (by kernel_rfl)
theorem ti125:TIOK Tryz.prog 125 ⟨.imap 188 132 2,1,8,(.map none),[.nilm]⟩ :=
 TIOK.mk' (by kernel_rfl) Tryz.underlying125 ⟨rfl,key188⟩ rfl (by simp [RepL,RepP,Value.cells,maxLen]) rfl (.inr (by kernel_rfl))
theorem ti126:TIOK Tryz.prog 126 ⟨.struct [(0,1),(1,1),(2,1),(3,1),(4,1),(5,1)],6,48,(.agg #[(.map none),(.map none),(.map none),(.map none),(.map none),(.int .i64 0)]),[.nilm,.nilm,.nilm,.nilm,.nilm,.int 0]⟩ :=
 TIOK.mk' (by kernel_rfl) Tryz.underlying126 ⟨_,rfl,by kernel_rfl⟩ rfl (by simp [RepL,RepP,Value.cells,maxLen]) rfl (.inr (by kernel_rfl))
theorem ti127:TIOK Tryz.prog 127 ⟨.struct [(0,1),(1,1),(2,1),(3,1),(4,1),(5,1)],6,48,(.agg #[(.map none),(.map none),(.map none),(.map none),(.map none),(.int .i64 0)]),[.nilm,.nilm,.nilm,.nilm,.nilm,.int 0]⟩ :=
 TIOK.mk' (by kernel_rfl) Tryz.underlying127 ⟨_,rfl,by kernel_rfl⟩ rfl (by simp [RepL,RepP,Value.cells,maxLen]) rfl (.inr (by kernel_rfl))
theorem ti131:TIOK Tryz.prog 131 ⟨.func,1,8,.nilFunc,[.nilfn]⟩ :=
 TIOK.mk' (by kernel_rfl) Tryz.underlying131 ⟨_,_,_,rfl⟩ rfl (by simp [RepL,RepP,Value.cells,maxLen]) rfl (.inr (by kernel_rfl))
theorem ti132:TIOK Tryz.prog 132 ⟨.pointer,1,8,(.pointer none),[.nil]⟩ :=
 TIOK.mk' (by kernel_rfl) Tryz.underlying132 ⟨_,rfl⟩ rfl (by simp [RepL,RepP,Value.cells,maxLen]) rfl (.inr (by kernel_rfl))
theorem ti152:TIOK Tryz.prog 152 ⟨.pointer,1,8,(.pointer none),[.nil]⟩ :=
 TIOK.mk' (by kernel_rfl) Tryz.underlying152 ⟨_,rfl⟩ rfl (by simp [RepL,RepP,Value.cells,maxLen]) rfl (.inr (by kernel_rfl))
theorem ti153:TIOK Tryz.prog 153 ⟨.slice 186,1,24,(.slice none 0 0),[.slice []]⟩ :=
 TIOK.mk' (by kernel_rfl) Tryz.underlying153 rfl rfl (by simp [RepL,RepP,Value.cells,maxLen]) rfl (.inr (by kernel_rfl))
theorem ti154:TIOK Tryz.prog 154 ⟨.struct [(0,1),(1,1),(2,1),(3,1),(4,1),(5,1),(6,1)],7,88,(.agg #[(.slice none 0 0),(.int .i64 0),(.int .i64 0),(.int .i64 0),(.bool false),(.slice none 0 0),(.int .i64 0)]),[.slice [],.int 0,.int 0,.int 0,.bool false,.slice [],.int 0]⟩ :=
 TIOK.mk' (by kernel_rfl) Tryz.underlying154 ⟨_,rfl,by kernel_rfl⟩ rfl (by simp [RepL,RepP,Value.cells,maxLen]) rfl (.inr (by kernel_rfl))
theorem ti155:TIOK Tryz.prog 155 ⟨.struct [(0,1),(1,1),(2,1),(3,1),(4,1),(5,1),(6,1)],7,88,(.agg #[(.slice none 0 0),(.int .i64 0),(.int .i64 0),(.int .i64 0),(.bool false),(.slice none 0 0),(.int .i64 0)]),[.nils,.int 0,.int 0,.int 0,.bool false,.nils,.int 0]⟩ :=
 TIOK.mk' (by kernel_rfl) Tryz.underlying155 ⟨_,rfl,by kernel_rfl⟩ rfl (by simp [RepL,RepP,Value.cells,maxLen]) rfl (.inr (by kernel_rfl))
theorem ti161:TIOK Tryz.prog 161 ⟨.map 132 47,1,8,(.map none),[.nilm]⟩ :=
 TIOK.mk' (by kernel_rfl) Tryz.underlying161 ⟨rfl,_,Tryz.underlying132,by kernel_rfl⟩ rfl (by simp [RepL,RepP,Value.cells,maxLen]) rfl (.inr (by kernel_rfl))
theorem ti163:TIOK Tryz.prog 163 ⟨.pointer,1,8,(.pointer none),[.nil]⟩ :=
 TIOK.mk' (by kernel_rfl) Tryz.underlying163 ⟨_,rfl⟩ rfl (by simp [RepL,RepP,Value.cells,maxLen]) rfl (.inr (by kernel_rfl))
theorem ti164:TIOK Tryz.prog 164 ⟨.array 2 132,2,16,(.agg #[(.pointer none),(.pointer none)]),[.nil,.nil]⟩ :=
 TIOK.mk' (by kernel_rfl) Tryz.underlying164 rfl rfl (by simp [RepL,RepP,Value.cells,maxLen]) rfl (.inr (by kernel_rfl))
theorem ti165:TIOK Tryz.prog 165 ⟨.struct [(0,1),(1,1),(2,1),(3,2),(5,1),(6,1),(7,1),(8,1)],9,72,(.agg #[(.int .i64 0),(.int .i64 0),(.pointer none),(.pointer none),(.pointer none),(.int .i64 0),(.pointer none),(.int .i64 0),(.bool false)]),[.int 0,.int 0,.nil,.nil,.nil,.int 0,.nil,.int 0,.bool false]⟩ :=
 TIOK.mk' (by kernel_rfl) Tryz.underlying165 ⟨_,rfl,by kernel_rfl⟩ rfl (by simp [RepL,RepP,Value.cells,maxLen]) rfl (.inr (by kernel_rfl))
theorem ti166:TIOK Tryz.prog 166 ⟨.struct [(0,1),(1,1),(2,1),(3,2),(5,1),(6,1),(7,1),(8,1)],9,72,(.agg #[(.int .i64 0),(.int .i64 0),(.pointer none),(.pointer none),(.pointer none),(.int .i64 0),(.pointer none),(.int .i64 0),(.bool false)]),[.int 0,.int 0,.nil,.nil,.nil,.int 0,.nil,.int 0,.bool false]⟩ :=
 TIOK.mk' (by kernel_rfl) Tryz.underlying166 ⟨_,rfl,by kernel_rfl⟩ rfl (by simp [RepL,RepP,Value.cells,maxLen]) rfl (.inr (by kernel_rfl))
theorem ti167:TIOK Tryz.prog 167 ⟨.struct [(0,1),(1,1),(2,1)],3,24,(.agg #[(.int .i64 0),(.int .i64 0),(.pointer none)]),[.int 0,.int 0,.nil]⟩ :=
 TIOK.mk' (by kernel_rfl) Tryz.underlying167 ⟨_,rfl,by kernel_rfl⟩ rfl (by simp [RepL,RepP,Value.cells,maxLen]) rfl (.inr (by kernel_rfl))
theorem ti168:TIOK Tryz.prog 168 ⟨.struct [(0,1),(1,1),(2,1)],3,24,(.agg #[(.int .i64 0),(.int .i64 0),(.pointer none)]),[.int 0,.int 0,.nil]⟩ :=
 TIOK.mk' (by kernel_rfl) Tryz.underlying168 ⟨_,rfl,by kernel_rfl⟩ rfl (by simp [RepL,RepP,Value.cells,maxLen]) rfl (.inr (by kernel_rfl))
theorem ti170:TIOK Tryz.prog 170 ⟨.struct [(0,1),(1,1),(2,1),(3,1),(4,1)],5,40,(.agg #[(.pointer none),(.int .i64 0),(.int .i64 0),(.bool false),(.pointer none)]),[.nil,.int 0,.int 0,.bool false,.nil]⟩ :=
 TIOK.mk' (by kernel_rfl) Tryz.underlying170 ⟨_,rfl,by kernel_rfl⟩ rfl (by simp [RepL,RepP,Value.cells,maxLen]) rfl (.inr (by kernel_rfl))
theorem ti171:TIOK Tryz.prog 171 ⟨.struct [(0,1),(1,1),(2,1),(3,1),(4,1)],5,40,(.agg #[(.pointer none),(.int .i64 0),(.int .i64 0),(.bool false),(.pointer none)]),[.nil,.int 0,.int 0,.bool false,.nil]⟩ :=
 TIOK.mk' (by kernel_rfl) Tryz.underlying171 ⟨_,rfl,by kernel_rfl⟩ rfl (by simp [RepL,RepP,Value.cells,maxLen]) rfl (.inr (by kernel_rfl))
theorem ti178:TIOK Tryz.prog 178 ⟨.struct [(0,1)],1,8,(.agg #[(.int .i64 0)]),[.int 0]⟩ :=
 TIOK.mk' (by kernel_rfl) Tryz.underlying178 ⟨_,rfl,by kernel_rfl⟩ rfl (by simp [RepL,RepP,Value.cells,maxLen]) rfl (.inr (by kernel_rfl))
theorem ti179:TIOK Tryz.prog 179 ⟨.struct [(0,1)],1,8,(.agg #[(.int .i64 0)]),[.int 0]⟩ :=
 TIOK.mk' (by kernel_rfl) Tryz.underlying179 ⟨_,rfl,by kernel_rfl⟩ rfl (by simp [RepL,RepP,Value.cells,maxLen]) rfl (.inr (by kernel_rfl))
theorem ti182:TIOK Tryz.prog 182 ⟨.func,1,8,.nilFunc,[.nilfn]⟩ :=
 TIOK.mk' (by kernel_rfl) Tryz.underlying182 ⟨_,_,_,rfl⟩ rfl (by simp [RepL,RepP,Value.cells,maxLen]) rfl (.inr (by kernel_rfl))
theorem ti185:TIOK Tryz.prog 185 ⟨.struct [(0,5),(5,5),(10,5)],15,216,(.agg #[(.int .i64 0),(.int .i64 0),(.int .i64 0),(.slice none 0 0),(.slice none 0 0),(.int .i64 0),(.int .i64 0),(.int .i64 0),(.slice none 0 0),(.slice none 0 0),(.int .i64 0),(.int .i64 0),(.int .i64 0),(.slice none 0 0),(.slice none 0 0)]),[.int 0,.int 0,.int 0,.slice [],.slice [],.int 0,.int 0,.int 0,.slice [],.slice [],.int 0,.int 0,.int 0,.slice [],.slice []]⟩ :=
 TIOK.mk' (by kernel_rfl) Tryz.underlying185 ⟨_,rfl,by kernel_rfl⟩ rfl (by simp [RepL,RepP,Value.cells,maxLen]) rfl (.inr (by kernel_rfl))
theorem ti186:TIOK Tryz.prog 186 ⟨.struct [(0,5),(5,5),(10,5)],15,216,(.agg #[(.int .i64 0),(.int .i64 0),(.int .i64 0),(.slice none 0 0),(.slice none 0 0),(.int .i64 0),(.int .i64 0),(.int .i64 0),(.slice none 0 0),(.slice none 0 0),(.int .i64 0),(.int .i64 0),(.int .i64 0),(.slice none 0 0),(.slice none 0 0)]),[.int 0,.int 0,.int 0,.slice [],.slice [],.int 0,.int 0,.int 0,.slice [],.slice [],.int 0,.int 0,.int 0,.slice [],.slice []]⟩ :=
 TIOK.mk' (by kernel_rfl) Tryz.underlying186 ⟨_,rfl,by kernel_rfl⟩ rfl (by simp [RepL,RepP,Value.cells,maxLen]) rfl (.inr (by kernel_rfl))
theorem ti188:TIOK Tryz.prog 188 ⟨.array 2 3,2,16,(.agg #[(.int .i64 0),(.int .i64 0)]),[.int 0,.int 0]⟩ :=
 TIOK.mk' (by kernel_rfl) Tryz.underlying188 rfl rfl (by simp [RepL,RepP,Value.cells,maxLen]) rfl (.inr (by kernel_rfl))
theorem ti190:TIOK Tryz.prog 190 ⟨.struct [(0,1),(1,1)],2,16,(.agg #[(.int .i64 0),(.int .i64 0)]),[.int 0,.int 0]⟩ :=
 TIOK.mk' (by kernel_rfl) Tryz.underlying190 ⟨_,rfl,by kernel_rfl⟩ rfl (by simp [RepL,RepP,Value.cells,maxLen]) rfl (.inr (by kernel_rfl))
theorem ti191:TIOK Tryz.prog 191 ⟨.struct [(0,1),(1,1)],2,16,(.agg #[(.int .i64 0),(.int .i64 0)]),[.int 0,.int 0]⟩ :=
 TIOK.mk' (by kernel_rfl) Tryz.underlying191 ⟨_,rfl,by kernel_rfl⟩ rfl (by simp [RepL,RepP,Value.cells,maxLen]) rfl (.inr (by kernel_rfl))
theorem ti192:TIOK Tryz.prog 192 ⟨.array 14 191,28,224,(.agg #[(.int .i64 0),(.int .i64 0),(.int .i64 0),(.int .i64 0),(.int .i64 0),(.int .i64 0),(.int .i64 0),(.int .i64 0),(.int .i64 0),(.int .i64 0),(.int .i64 0),(.int .i64 0),(.int .i64 0),(.int .i64 0),(.int .i64 0),(.int .i64 0),(.int .i64 0),(.int .i64 0),(.int .i64 0),(.int .i64 0),(.int .i64 0),(.int .i64 0),(.int .i64 0),(.int .i64 0),(.int .i64 0),(.int .i64 0),(.int .i64 0),(.int .i64 0)]),[.int 0,.int 0,.int 0,.int 0,.int 0,.int 0,.int 0,.int 0,.int 0,.int 0,.int 0,.int 0,.int 0,.int 0,.int 0,.int 0,.int 0,.int 0,.int 0,.int 0,.int 0,.int 0,.int 0,.int 0,.int 0,.int 0,.int 0,.int 0]⟩ :=
 TIOK.mk' (by kernel_rfl) Tryz.underlying192 rfl rfl (by simp [RepL,RepP,Value.cells,maxLen]) rfl (.inr (by kernel_rfl))
theorem ti198:TIOK Tryz.prog 198 ⟨.pointer,1,8,(.pointer none),[.nil]⟩ :=
 TIOK.mk' (by kernel_rfl) Tryz.underlying198 ⟨_,rfl⟩ rfl (by simp [RepL,RepP,Value.cells,maxLen]) rfl (.inr (by kernel_rfl))
theorem ti202:TIOK Tryz.prog 202 ⟨.slice 87,1,24,(.slice none 0 0),[.slice []]⟩ :=
 TIOK.mk' (by kernel_rfl) Tryz.underlying202 rfl rfl (by simp [RepL,RepP,Value.cells,maxLen]) rfl (.inr (by kernel_rfl))
theorem ti203:TIOK Tryz.prog 203 ⟨.struct [(0,1),(1,1),(2,1),(3,1),(4,1),(5,1)],6,80,(.agg #[(.pointer none),(.int .i64 0),(.slice none 0 0),(.int .i64 0),(.pointer none),(.slice none 0 0)]),[.nil,.int 0,.slice [],.int 0,.nil,.slice []]⟩ :=
 TIOK.mk' (by kernel_rfl) Tryz.underlying203 ⟨_,rfl,by kernel_rfl⟩ rfl (by simp [RepL,RepP,Value.cells,maxLen]) rfl (.inr (by kernel_rfl))
theorem ti204:TIOK Tryz.prog 204 ⟨.struct [(0,1),(1,1),(2,1),(3,1),(4,1),(5,1)],6,80,(.agg #[(.pointer none),(.int .i64 0),(.slice none 0 0),(.int .i64 0),(.pointer none),(.slice none 0 0)]),[.nil,.int 0,.nils,.int 0,.nil,.nils]⟩ :=
 TIOK.mk' (by kernel_rfl) Tryz.underlying204 ⟨_,rfl,by kernel_rfl⟩ rfl (by simp [RepL,RepP,Value.cells,maxLen]) rfl (.inr (by kernel_rfl))
theorem ti205:TIOK Tryz.prog 205 ⟨.struct [(0,1),(1,1),(2,1),(3,1),(4,1)],5,40,(.agg #[(.int .i64 0),(.pointer none),(.pointer none),(.pointer none),(.pointer none)]),[.int 0,.nil,.nil,.nil,.nil]⟩ :=
 TIOK.mk' (by kernel_rfl) Tryz.underlying205 ⟨_,rfl,by kernel_rfl⟩ rfl (by simp [RepL,RepP,Value.cells,maxLen]) rfl (.inr (by kernel_rfl))
theorem ti206:TIOK Tryz.prog 206 ⟨.struct [(0,1),(1,1),(2,1),(3,1),(4,1)],5,40,(.agg #[(.int .i64 0),(.pointer none),(.pointer none),(.pointer none),(.pointer none)]),[.int 0,.nil,.nil,.nil,.nil]⟩ :=
 TIOK.mk' (by kernel_rfl) Tryz.underlying206 ⟨_,rfl,by kernel_rfl⟩ rfl (by simp [RepL,RepP,Value.cells,maxLen]) rfl (.inr (by kernel_rfl))
theorem ti220:TIOK Tryz.prog 220 ⟨.slice 163,1,24,(.slice none 0 0),[.slice []]⟩ :=
 TIOK.mk' (by kernel_rfl) Tryz.underlying220 rfl rfl (by simp [RepL,RepP,Value.cells,maxLen]) rfl (.inr (by kernel_rfl))
theorem ti227:TIOK Tryz.prog 227 ⟨.struct [(0,1),(1,1),(2,1)],3,24,(.agg #[(.int .i64 0),(.int .i64 0),(.int .i64 0)]),[.int 0,.int 0,.int 0]⟩ :=
 TIOK.mk' (by kernel_rfl) Tryz.underlying227 ⟨_,rfl,by kernel_rfl⟩ rfl (by simp [RepL,RepP,Value.cells,maxLen]) rfl (.inr (by kernel_rfl))
theorem ti228:TIOK Tryz.prog 228 ⟨.struct [(0,1),(1,1),(2,1)],3,24,(.agg #[(.int .i64 0),(.int .i64 0),(.int .i64 0)]),[.int 0,.int 0,.int 0]⟩ :=
 TIOK.mk' (by kernel_rfl) Tryz.underlying228 ⟨_,rfl,by kernel_rfl⟩ rfl (by simp [RepL,RepP,Value.cells,maxLen]) rfl (.inr (by kernel_rfl))
theorem tt1:tt 1=some ⟨.func,1,8,.nilFunc,[.nilfn]⟩:=rfl
theorem tt2:tt 2=some ⟨.other,1,8,(.int .i64 0),[.int 0]⟩:=rfl
theorem tt3:tt 3=some ⟨.other,1,8,(.int .i64 0),[.int 0]⟩:=rfl
theorem tt4:tt 4=some ⟨.bool,1,1,(.bool false),[.bool false]⟩:=rfl
theorem tt20:tt 20=some ⟨.iface,1,16,.nilIface,[.nilif]⟩:=rfl
theorem tt22:tt 22=some ⟨.slice 3,1,24,(.slice none 0 0),[.slice []]⟩:=rfl
theorem tt25:tt 25=some ⟨.slice 27,1,24,(.slice none 0 0),[.slice []]⟩:=rfl
theorem tt26:tt 26=some ⟨.struct [(0,1),(1,1)],2,32,(.agg #[(.int .i64 0),(.slice none 0 0)]),[.int 0,.slice []]⟩:=rfl
theorem tt27:tt 27=some ⟨.struct [(0,1),(1,1)],2,32,(.agg #[(.int .i64 0),(.slice none 0 0)]),[.int 0,.slice []]⟩:=rfl
theorem tt28:tt 28=some ⟨.slice 30,1,24,(.slice none 0 0),[.slice []]⟩:=rfl
theorem tt29:tt 29=some ⟨.struct [(0,1),(1,1),(2,2),(4,1)],5,72,(.agg #[(.int .i64 0),(.int .i64 0),(.int .i64 0),(.slice none 0 0),(.slice none 0 0)]),[.int 0,.int 0,.int 0,.slice [],.slice []]⟩:=rfl
theorem tt30:tt 30=some ⟨.struct [(0,1),(1,1),(2,2),(4,1)],5,72,(.agg #[(.int .i64 0),(.int .i64 0),(.int .i64 0),(.slice none 0 0),(.slice none 0 0)]),[.int 0,.int 0,.int 0,.slice [],.slice []]⟩:=rfl
theorem tt33:tt 33=some ⟨.pointer,1,8,(.pointer none),[.nil]⟩:=rfl
theorem tt35:tt 35=some ⟨.slice 70,1,24,(.slice none 0 0),[.slice []]⟩:=rfl
theorem tt36:tt 36=some ⟨.other,1,8,(.int .i64 0),[.int 0]⟩:=rfl
theorem tt39:tt 39=some ⟨.slice 41,1,24,(.slice none 0 0),[.slice []]⟩:=rfl
theorem tt40:tt 40=some ⟨.struct [(0,1),(1,1),(2,1),(3,1)],4,64,(.agg #[(.int .i64 0),(.int .i64 0),(.slice none 0 0),(.slice none 0 0)]),[.int 0,.int 0,.slice [],.slice []]⟩:=rfl
theorem tt41:tt 41=some ⟨.struct [(0,1),(1,1),(2,1),(3,1)],4,64,(.agg #[(.int .i64 0),(.int .i64 0),(.slice none 0 0),(.slice none 0 0)]),[.int 0,.int 0,.nils,.nils]⟩:=rfl
theorem tt45:tt 45=some ⟨.slice 47,1,24,(.slice none 0 0),[.slice []]⟩:=rfl
theorem tt46:tt 46=some ⟨.struct [(0,1),(1,1),(2,1),(3,1),(4,1)],5,72,(.agg #[(.int .i64 0),(.int .i64 0),(.int .i64 0),(.slice none 0 0),(.slice none 0 0)]),[.int 0,.int 0,.int 0,.slice [],.slice []]⟩:=rfl
theorem tt47:tt 47=some ⟨.struct [(0,1),(1,1),(2,1),(3,1),(4,1)],5,72,(.agg #[(.int .i64 0),(.int .i64 0),(.int .i64 0),(.slice none 0 0),(.slice none 0 0)]),[.int 0,.int 0,.int 0,.nils,.nils]⟩:=rfl
theorem tt69:tt 69=some ⟨.struct [(0,1),(1,1)],2,16,(.agg #[(.int .i64 0),(.int .i64 0)]),[.int 0,.int 0]⟩:=rfl
theorem tt70:tt 70=some ⟨.struct [(0,1),(1,1)],2,16,(.agg #[(.int .i64 0),(.int .i64 0)]),[.int 0,.int 0]⟩:=rfl
theorem tt75:tt 75=some ⟨.struct [(0,1),(1,1)],2,32,(.agg #[(.slice none 0 0),(.int .i64 0)]),[.slice [],.int 0]⟩:=rfl
theorem tt76:tt 76=some ⟨.struct [(0,1),(1,1)],2,32,(.agg #[(.slice none 0 0),(.int .i64 0)]),[.slice [],.int 0]⟩:=rfl
theorem tt78:tt 78=some ⟨.pointer,1,8,(.pointer none),[.nil]⟩:=rfl
theorem tt79:tt 79=some ⟨.struct [(0,1),(1,1),(2,1)],3,72,(.agg #[(.slice none 0 0),(.slice none 0 0),(.slice none 0 0)]),[.slice [],.slice [],.slice []]⟩:=rfl
theorem tt80:tt 80=some ⟨.struct [(0,1),(1,1),(2,1)],3,72,(.agg #[(.slice none 0 0),(.slice none 0 0),(.slice none 0 0)]),[.nils,.nils,.nils]⟩:=rfl
theorem tt84:tt 84=some ⟨.pointer,1,8,(.pointer none),[.nil]⟩:=rfl
theorem tt85:tt 85=some ⟨.func,1,8,.nilFunc,[.nilfn]⟩:=rfl
theorem tt86:tt 86=some ⟨.func,1,8,.nilFunc,[.nilfn]⟩:=rfl
theorem tt87:tt 87=some ⟨.slice 132,1,24,(.slice none 0 0),[.slice []]⟩:=rfl
theorem tt88:tt 88=some ⟨.slice 206,1,24,(.slice none 0 0),[.slice []]⟩:=rfl
theorem tt89:tt 89=some ⟨.pointer,1,8,(.pointer none),[.nil]⟩:=rfl
theorem tt90:tt 90=some ⟨.struct [(0,1),(1,1),(2,1),(3,1),(4,1),(5,1),(6,1),(7,1),(8,1)],9,120,(.agg #[(.slice none 0 0),(.int .i64 0),(.int .i64 0),.nilFunc,.nilFunc,(.slice none 0 0),(.slice none 0 0),(.int .i64 0),(.pointer none)]),[.slice [],.int 0,.int 0,.nilfn,.nilfn,.slice [],.slice [],.int 0,.nil]⟩:=rfl
theorem tt91:tt 91=some ⟨.struct [(0,1),(1,1),(2,1),(3,1),(4,1),(5,1),(6,1),(7,1),(8,1)],9,120,(.agg #[(.slice none 0 0),(.int .i64 0),(.int .i64 0),.nilFunc,.nilFunc,(.slice none 0 0),(.slice none 0 0),(.int .i64 0),(.pointer none)]),[.nils,.int 0,.int 0,.nilfn,.nilfn,.nils,.nils,.int 0,.nil]⟩:=rfl
theorem tt94:tt 94=some ⟨.pointer,1,8,(.pointer none),[.nil]⟩:=rfl
theorem tt104:tt 104=some ⟨.pointer,1,8,(.pointer none),[.nil]⟩:=rfl
theorem tt105:tt 105=some ⟨.struct [(0,1),(1,1),(2,1)],3,24,(.agg #[(.int .i64 0),(.int .i64 0),(.bool false)]),[.int 0,.int 0,.bool false]⟩:=rfl
theorem tt106:tt 106=some ⟨.struct [(0,1),(1,1),(2,1)],3,24,(.agg #[(.int .i64 0),(.int .i64 0),(.bool false)]),[.int 0,.int 0,.bool false]⟩:=rfl
theorem tt107:tt 107=some ⟨.slice 109,1,24,(.slice none 0 0),[.slice []]⟩:=rfl
theorem tt108:tt 108=some ⟨.struct [(0,1),(1,1),(2,1),(3,5),(8,1)],9,152,(.agg #[(.int .i64 0),(.slice none 0 0),(.slice none 0 0),(.int .i64 0),(.int .i64 0),(.int .i64 0),(.slice none 0 0),(.slice none 0 0),(.slice none 0 0)]),[.int 0,.slice [],.slice [],.int 0,.int 0,.int 0,.slice [],.slice [],.slice []]⟩:=rfl
theorem tt109:tt 109=some ⟨.struct [(0,1),(1,1),(2,1),(3,5),(8,1)],9,152,(.agg #[(.int .i64 0),(.slice none 0 0),(.slice none 0 0),(.int .i64 0),(.int .i64 0),(.int .i64 0),(.slice none 0 0),(.slice none 0 0),(.slice none 0 0)]),[.int 0,.slice [],.slice [],.int 0,.int 0,.int 0,.slice [],.slice [],.slice []]⟩:=rfl
theorem tt118:tt 118=some ⟨.pointer,1,8,(.pointer none),[.nil]⟩:=rfl
theorem tt121:tt 121=some ⟨.imap 228 3 3,1,8,(.map none),[.nilm]⟩:=rfl
theorem tt122:tt 122=some ⟨.map 132 3,1,8,(.map none),[.nilm]⟩:=rfl
theorem tt123:tt 123=some ⟨.map 163 3,1,8,(.map none),[.nilm]⟩:=rfl
theorem tt124:tt 124=some ⟨.map 89 3,1,8,(.map none),[.nilm]⟩:=rfl
theorem tt125:tt 125=some ⟨.imap 188 132 2,1,8,(.map none),[.nilm]⟩:=rfl
theorem tt126:tt 126=some ⟨.struct [(0,1),(1,1),(2,1),(3,1),(4,1),(5,1)],6,48,(.agg #[(.map none),(.map none),(.map none),(.map none),(.map none),(.int .i64 0)]),[.nilm,.nilm,.nilm,.nilm,.nilm,.int 0]⟩:=rfl
theorem tt127:tt 127=some ⟨.struct [(0,1),(1,1),(2,1),(3,1),(4,1),(5,1)],6,48,(.agg #[(.map none),(.map none),(.map none),(.map none),(.map none),(.int .i64 0)]),[.nilm,.nilm,.nilm,.nilm,.nilm,.int 0]⟩:=rfl
theorem tt131:tt 131=some ⟨.func,1,8,.nilFunc,[.nilfn]⟩:=rfl
theorem tt132:tt 132=some ⟨.pointer,1,8,(.pointer none),[.nil]⟩:=rfl
theorem tt152:tt 152=some ⟨.pointer,1,8,(.pointer none),[.nil]⟩:=rfl
theorem tt153:tt 153=some ⟨.slice 186,1,24,(.slice none 0 0),[.slice []]⟩:=rfl
theorem tt154:tt 154=some ⟨.struct [(0,1),(1,1),(2,1),(3,1),(4,1),(5,1),(6,1)],7,88,(.agg #[(.slice none 0 0),(.int .i64 0),(.int .i64 0),(.int .i64 0),(.bool false),(.slice none 0 0),(.int .i64 0)]),[.slice [],.int 0,.int 0,.int 0,.bool false,.slice [],.int 0]⟩:=rfl
theorem tt155:tt 155=some ⟨.struct [(0,1),(1,1),(2,1),(3,1),(4,1),(5,1),(6,1)],7,88,(.agg #[(.slice none 0 0),(.int .i64 0),(.int .i64 0),(.int .i64 0),(.bool false),(.slice none 0 0),(.int .i64 0)]),[.nils,.int 0,.int 0,.int 0,.bool false,.nils,.int 0]⟩:=rfl
theorem tt161:tt 161=some ⟨.map 132 47,1,8,(.map none),[.nilm]⟩:=rfl
theorem tt163:tt 163=some ⟨.pointer,1,8,(.pointer none),[.nil]⟩:=rfl
theorem tt164:tt 164=some ⟨.array 2 132,2,16,(.agg #[(.pointer none),(.pointer none)]),[.nil,.nil]⟩:=rfl
theorem tt165:tt 165=some ⟨.struct [(0,1),(1,1),(2,1),(3,2),(5,1),(6,1),(7,1),(8,1)],9,72,(.agg #[(.int .i64 0),(.int .i64 0),(.pointer none),(.pointer none),(.pointer none),(.int .i64 0),(.pointer none),(.int .i64 0),(.bool false)]),[.int 0,.int 0,.nil,.nil,.nil,.int 0,.nil,.int 0,.bool false]⟩:=rfl
theorem tt166:tt 166=some ⟨.struct [(0,1),(1,1),(2,1),(3,2),(5,1),(6,1),(7,1),(8,1)],9,72,(.agg #[(.int .i64 0),(.int .i64 0),(.pointer none),(.pointer none),(.pointer none),(.int .i64 0),(.pointer none),(.int .i64 0),(.bool false)]),[.int 0,.int 0,.nil,.nil,.nil,.int 0,.nil,.int 0,.bool false]⟩:=rfl
theorem tt167:tt 167=some ⟨.struct [(0,1),(1,1),(2,1)],3,24,(.agg #[(.int .i64 0),(.int .i64 0),(.pointer none)]),[.int 0,.int 0,.nil]⟩:=rfl
theorem tt168:tt 168=some ⟨.struct [(0,1),(1,1),(2,1)],3,24,(.agg #[(.int .i64 0),(.int .i64 0),(.pointer none)]),[.int 0,.int 0,.nil]⟩:=rfl
theorem tt170:tt 170=some ⟨.struct [(0,1),(1,1),(2,1),(3,1),(4,1)],5,40,(.agg #[(.pointer none),(.int .i64 0),(.int .i64 0),(.bool false),(.pointer none)]),[.nil,.int 0,.int 0,.bool false,.nil]⟩:=rfl
theorem tt171:tt 171=some ⟨.struct [(0,1),(1,1),(2,1),(3,1),(4,1)],5,40,(.agg #[(.pointer none),(.int .i64 0),(.int .i64 0),(.bool false),(.pointer none)]),[.nil,.int 0,.int 0,.bool false,.nil]⟩:=rfl
theorem tt178:tt 178=some ⟨.struct [(0,1)],1,8,(.agg #[(.int .i64 0)]),[.int 0]⟩:=rfl
theorem tt179:tt 179=some ⟨.struct [(0,1)],1,8,(.agg #[(.int .i64 0)]),[.int 0]⟩:=rfl
theorem tt182:tt 182=some ⟨.func,1,8,.nilFunc,[.nilfn]⟩:=rfl
theorem tt185:tt 185=some ⟨.struct [(0,5),(5,5),(10,5)],15,216,(.agg #[(.int .i64 0),(.int .i64 0),(.int .i64 0),(.slice none 0 0),(.slice none 0 0),(.int .i64 0),(.int .i64 0),(.int .i64 0),(.slice none 0 0),(.slice none 0 0),(.int .i64 0),(.int .i64 0),(.int .i64 0),(.slice none 0 0),(.slice none 0 0)]),[.int 0,.int 0,.int 0,.slice [],.slice [],.int 0,.int 0,.int 0,.slice [],.slice [],.int 0,.int 0,.int 0,.slice [],.slice []]⟩:=rfl
theorem tt186:tt 186=some ⟨.struct [(0,5),(5,5),(10,5)],15,216,(.agg #[(.int .i64 0),(.int .i64 0),(.int .i64 0),(.slice none 0 0),(.slice none 0 0),(.int .i64 0),(.int .i64 0),(.int .i64 0),(.slice none 0 0),(.slice none 0 0),(.int .i64 0),(.int .i64 0),(.int .i64 0),(.slice none 0 0),(.slice none 0 0)]),[.int 0,.int 0,.int 0,.slice [],.slice [],.int 0,.int 0,.int 0,.slice [],.slice [],.int 0,.int 0,.int 0,.slice [],.slice []]⟩:=rfl
theorem tt188:tt 188=some ⟨.array 2 3,2,16,(.agg #[(.int .i64 0),(.int .i64 0)]),[.int 0,.int 0]⟩:=rfl
theorem tt190:tt 190=some ⟨.struct [(0,1),(1,1)],2,16,(.agg #[(.int .i64 0),(.int .i64 0)]),[.int 0,.int 0]⟩:=rfl
theorem tt191:tt 191=some ⟨.struct [(0,1),(1,1)],2,16,(.agg #[(.int .i64 0),(.int .i64 0)]),[.int 0,.int 0]⟩:=rfl
theorem tt192:tt 192=some ⟨.array 14 191,28,224,(.agg #[(.int .i64 0),(.int .i64 0),(.int .i64 0),(.int .i64 0),(.int .i64 0),(.int .i64 0),(.int .i64 0),(.int .i64 0),(.int .i64 0),(.int .i64 0),(.int .i64 0),(.int .i64 0),(.int .i64 0),(.int .i64 0),(.int .i64 0),(.int .i64 0),(.int .i64 0),(.int .i64 0),(.int .i64 0),(.int .i64 0),(.int .i64 0),(.int .i64 0),(.int .i64 0),(.int .i64 0),(.int .i64 0),(.int .i64 0),(.int .i64 0),(.int .i64 0)]),[.int 0,.int 0,.int 0,.int 0,.int 0,.int 0,.int 0,.int 0,.int 0,.int 0,.int 0,.int 0,.int 0,.int 0,.int 0,.int 0,.int 0,.int 0,.int 0,.int 0,.int 0,.int 0,.int 0,.int 0,.int 0,.int 0,.int 0,.int 0]⟩:=rfl
theorem tt198:tt 198=some ⟨.pointer,1,8,(.pointer none),[.nil]⟩:=rfl
theorem tt202:tt 202=some ⟨.slice 87,1,24,(.slice none 0 0),[.slice []]⟩:=rfl
theorem tt203:tt 203=some ⟨.struct [(0,1),(1,1),(2,1),(3,1),(4,1),(5,1)],6,80,(.agg #[(.pointer none),(.int .i64 0),(.slice none 0 0),(.int .i64 0),(.pointer none),(.slice none 0 0)]),[.nil,.int 0,.slice [],.int 0,.nil,.slice []]⟩:=rfl
theorem tt204:tt 204=some ⟨.struct [(0,1),(1,1),(2,1),(3,1),(4,1),(5,1)],6,80,(.agg #[(.pointer none),(.int .i64 0),(.slice none 0 0),(.int .i64 0),(.pointer none),(.slice none 0 0)]),[.nil,.int 0,.nils,.int 0,.nil,.nils]⟩:=rfl
theorem tt205:tt 205=some ⟨.struct [(0,1),(1,1),(2,1),(3,1),(4,1)],5,40,(.agg #[(.int .i64 0),(.pointer none),(.pointer none),(.pointer none),(.pointer none)]),[.int 0,.nil,.nil,.nil,.nil]⟩:=rfl
theorem tt206:tt 206=some ⟨.struct [(0,1),(1,1),(2,1),(3,1),(4,1)],5,40,(.agg #[(.int .i64 0),(.pointer none),(.pointer none),(.pointer none),(.pointer none)]),[.int 0,.nil,.nil,.nil,.nil]⟩:=rfl
theorem tt220:tt 220=some ⟨.slice 163,1,24,(.slice none 0 0),[.slice []]⟩:=rfl
theorem tt227:tt 227=some ⟨.struct [(0,1),(1,1),(2,1)],3,24,(.agg #[(.int .i64 0),(.int .i64 0),(.int .i64 0)]),[.int 0,.int 0,.int 0]⟩:=rfl
theorem tt228:tt 228=some ⟨.struct [(0,1),(1,1),(2,1)],3,24,(.agg #[(.int .i64 0),(.int .i64 0),(.int .i64 0)]),[.int 0,.int 0,.int 0]⟩:=rfl
theorem ttOK:TOK Tryz.prog tt:=by
 intro t ti h
 unfold tt at h
 split at h
 ·cases h;exact ti1
 ·cases h;exact ti2
 ·cases h;exact ti3
 ·cases h;exact ti4
 ·cases h;exact ti20
 ·cases h;exact ti22
 ·cases h;exact ti25
 ·cases h;exact ti26
 ·cases h;exact ti27
 ·cases h;exact ti28
 ·cases h;exact ti29
 ·cases h;exact ti30
 ·cases h;exact ti33
 ·cases h;exact ti35
 ·cases h;exact ti36
 ·cases h;exact ti39
 ·cases h;exact ti40
 ·cases h;exact ti41
 ·cases h;exact ti45
 ·cases h;exact ti46
 ·cases h;exact ti47
 ·cases h;exact ti69
 ·cases h;exact ti70
 ·cases h;exact ti75
 ·cases h;exact ti76
 ·cases h;exact ti78
 ·cases h;exact ti79
 ·cases h;exact ti80
 ·cases h;exact ti84
 ·cases h;exact ti85
 ·cases h;exact ti86
 ·cases h;exact ti87
 ·cases h;exact ti88
 ·cases h;exact ti89
 ·cases h;exact ti90
 ·cases h;exact ti91
 ·cases h;exact ti94
 ·cases h;exact ti104
 ·cases h;exact ti105
 ·cases h;exact ti106
 ·cases h;exact ti107
 ·cases h;exact ti108
 ·cases h;exact ti109
 ·cases h;exact ti118
 ·cases h;exact ti121
 ·cases h;exact ti122
 ·cases h;exact ti123
 ·cases h;exact ti124
 ·cases h;exact ti125
 ·cases h;exact ti126
 ·cases h;exact ti127
 ·cases h;exact ti131
 ·cases h;exact ti132
 ·cases h;exact ti152
 ·cases h;exact ti153
 ·cases h;exact ti154
 ·cases h;exact ti155
 ·cases h;exact ti161
 ·cases h;exact ti163
 ·cases h;exact ti164
 ·cases h;exact ti165
 ·cases h;exact ti166
 ·cases h;exact ti167
 ·cases h;exact ti168
 ·cases h;exact ti170
 ·cases h;exact ti171
 ·cases h;exact ti178
 ·cases h;exact ti179
 ·cases h;exact ti182
 ·cases h;exact ti185
 ·cases h;exact ti186
 ·cases h;exact ti188
 ·cases h;exact ti190
 ·cases h;exact ti191
 ·cases h;exact ti192
 ·cases h;exact ti198
 ·cases h;exact ti202
 ·cases h;exact ti203
 ·cases h;exact ti204
 ·cases h;exact ti205
 ·cases h;exact ti206
 ·cases h;exact ti220
 ·cases h;exact ti227
 ·cases h;exact ti228
 ·cases h
noncomputable def XX (nm:List (Nat × Note)) (nt:Nat) (given:List Nat):Env1:=⟨Tryz.prog,tt,gl,nm,nt,given,ttOK,mixed⟩
section
variable {nm:List (Nat × Note)} {nt:Nat} {given:List Nat}
theorem XX_T:(XX nm nt given).T=tt:=rfl
theorem XX_gl:(XX nm nt given).gl=gl:=rfl
theorem XX_nm:(XX nm nt given).nm=nm:=rfl
theorem XX_nt:(XX nm nt given).nt=nt:=rfl
theorem XX_given:(XX nm nt given).given=given:=rfl
theorem sg1 {p:Prop} (h:p:=by simp only [↓evalSeq,↓evalR_some,↓evalO_call,↓evalO_none,↓evalO_some,↓evalG_tt,↓evalG_ff,↓evalG_tf,↓evalG_ft,↓evalG_sk,isCall,↓cond_true,↓cond_false,gv,stepOp,stepMove,stepLoad,stepStore,stepIndex,stepLen,stepAppend,stepSlice,stepBin,stepInt,stepEq,srcOf,addrOff,TK.isIface,stepRow,stepUpdate,stepUpdateI,stepLookI,stepLenM,intsOf,oneZ,zeroPV,placesA,PV.nonint,List.any_cons,List.any_nil,Bool.or_true,Bool.true_or,Bool.or_false,Bool.false_or,rdP,rdV,TI.isAgg,boolR,mkAgg,mkSlice,unL,unE,V.un,vc_int,vo_int,po_int,vc_bool,vo_bool,po_bool,vc_nil,vo_nil,po_nil,vc_nils,vo_nils,po_nils,vc_nilfn,vo_nilfn,po_nilfn,vc_nilm,vo_nilm,po_nilm,vc_nilif,vo_nilif,po_nilif,vc_ptr,vo_ptr,po_ptr,vc_slice,vo_slice,po_slice,vc_iface,vo_iface,po_iface,vc_loc,vo_loc,vc_eloc,vo_eloc,vc_arr,vo_arr,vc_map,vo_map,vc_vsl,vo_vsl,vc_fn,vo_fn,vc_agg,vc_aggv,pc_int,pc_bool,pc_nil,pc_nils,pc_nilfn,pc_nilm,pc_nilif,pc_ptr,pc_slice,pc_iface,pc_agg,fillV,sliceParts,putL,St.val,getS,getO,setO,delO,updAll,updO,St.eff,R.eff,R.of,R.ofIf,Env1.note,cst,putS,dstOK,freshL,zipArgs,pvL,skipE,↓reduceIte,Nat.reduceEqDiff,Nat.reduceLT,Nat.reduceLeDiff,Nat.reduceAdd,Nat.reduceSub,Nat.reduceMul,Int.reduceToNat,Int.toNat_natCast,and_true,true_and,false_and,and_self,forall_const,true_implies,implies_true,not_false_eq_true,not_true_eq_false,List.mem_cons,List.not_mem_nil,or_false,or_self,false_or,List.length_cons,List.length_nil,List.map_cons,List.map_nil,List.nil_append,List.cons_append,List.append_nil,List.take_zero,List.take_succ_cons,List.drop_zero,List.drop_succ_cons,List.take_nil,List.drop_nil,List.getElem?_cons_zero,List.getElem?_cons_succ,List.getElem?_nil,Option.map_some,Option.map_none,Bool.not_true,Bool.not_false,List.all_cons,List.all_nil,Bool.and_self,Bool.true_and,Bool.and_true,reduceCtorEq,Option.some.injEq,List.getD_cons_zero,List.getD_cons_succ,decide_true,decide_false,Nat.succ_ne_self,Nat.zero_add,Nat.add_zero,pvE_take,pvE_get,pvE_app,pvE_len,pvE_all,pvE_one,unE_pvE,List.forall_mem_cons,List.mem_singleton,forall_eq,List.mem_nil_iff,false_implies,XX_T,XX_gl,gl0,XX_nm,XX_nt,noteD,noteOf,tt1,tt2,tt3,tt4,tt20,tt22,tt25,tt26,tt27,tt28,tt29,tt30,tt33,tt35,tt36,tt39,tt40,tt41,tt45,tt46,tt47,tt69,tt70,tt75,tt76,tt78,tt79,tt80,tt84,tt85,tt86,tt87,tt88,tt89,tt90,tt91,tt94,tt104,tt105,tt106,tt107,tt108,tt109,tt118,tt121,tt122,tt123,tt124,tt125,tt126,tt127,tt131,tt132,tt152,tt153,tt154,tt155,tt161,tt163,tt164,tt165,tt166,tt167,tt168,tt170,tt171,tt178,tt179,tt182,tt185,tt186,tt188,tt190,tt191,tt192,tt198,tt202,tt203,tt204,tt205,tt206,tt220,tt227,tt228,Int.cast_ofNat_Int,Int.reduceEq,Int.reduceNe,Int.reduceLT,Int.reduceLE,Int.reduceAdd,Int.reduceSub,Int.reduceMul,Int.reduceNeg,Int.reduceTMod,eq_self,ne_eq, *];rfl):p:=h
theorem sg2 {p:Prop} (h:p:=by first|(simp only [↓evalSeq,↓evalR_some,↓evalO_call,↓evalO_none,↓evalO_some,↓evalG_tt,↓evalG_ff,↓evalG_tf,↓evalG_ft,↓evalG_sk,isCall,↓cond_true,↓cond_false,gv,stepOp,stepMove,stepLoad,stepStore,stepIndex,stepLen,stepAppend,stepSlice,stepBin,stepInt,stepEq,srcOf,addrOff,TK.isIface,stepRow,stepUpdate,stepUpdateI,stepLookI,stepLenM,intsOf,oneZ,zeroPV,placesA,PV.nonint,List.any_cons,List.any_nil,Bool.or_true,Bool.true_or,Bool.or_false,Bool.false_or,rdP,rdV,TI.isAgg,boolR,mkAgg,mkSlice,unL,unE,V.un,vc_int,vo_int,po_int,vc_bool,vo_bool,po_bool,vc_nil,vo_nil,po_nil,vc_nils,vo_nils,po_nils,vc_nilfn,vo_nilfn,po_nilfn,vc_nilm,vo_nilm,po_nilm,vc_nilif,vo_nilif,po_nilif,vc_ptr,vo_ptr,po_ptr,vc_slice,vo_slice,po_slice,vc_iface,vo_iface,po_iface,vc_loc,vo_loc,vc_eloc,vo_eloc,vc_arr,vo_arr,vc_map,vo_map,vc_vsl,vo_vsl,vc_fn,vo_fn,vc_agg,vc_aggv,pc_int,pc_bool,pc_nil,pc_nils,pc_nilfn,pc_nilm,pc_nilif,pc_ptr,pc_slice,pc_iface,pc_agg,fillV,sliceParts,putL,St.val,getS,getO,setO,delO,updAll,updO,St.eff,R.eff,R.of,R.ofIf,Env1.note,cst,putS,dstOK,freshL,zipArgs,pvL,skipE,↓reduceIte,Nat.reduceEqDiff,Nat.reduceLT,Nat.reduceLeDiff,Nat.reduceAdd,Nat.reduceSub,Nat.reduceMul,Int.reduceToNat,Int.toNat_natCast,and_true,true_and,false_and,and_self,forall_const,true_implies,implies_true,not_false_eq_true,not_true_eq_false,List.mem_cons,List.not_mem_nil,or_false,or_self,false_or,List.length_cons,List.length_nil,List.map_cons,List.map_nil,List.nil_append,List.cons_append,List.append_nil,List.take_zero,List.take_succ_cons,List.drop_zero,List.drop_succ_cons,List.take_nil,List.drop_nil,List.getElem?_cons_zero,List.getElem?_cons_succ,List.getElem?_nil,Option.map_some,Option.map_none,Bool.not_true,Bool.not_false,List.all_cons,List.all_nil,Bool.and_self,Bool.true_and,Bool.and_true,reduceCtorEq,Option.some.injEq,List.getD_cons_zero,List.getD_cons_succ,decide_true,decide_false,Nat.succ_ne_self,Nat.zero_add,Nat.add_zero,pvE_take,pvE_get,pvE_app,pvE_len,pvE_all,pvE_one,unE_pvE,List.forall_mem_cons,List.mem_singleton,forall_eq,List.mem_nil_iff,false_implies,XX_T,XX_gl,gl0,XX_nm,XX_nt,noteD,noteOf,tt1,tt2,tt3,tt4,tt20,tt22,tt25,tt26,tt27,tt28,tt29,tt30,tt33,tt35,tt36,tt39,tt40,tt41,tt45,tt46,tt47,tt69,tt70,tt75,tt76,tt78,tt79,tt80,tt84,tt85,tt86,tt87,tt88,tt89,tt90,tt91,tt94,tt104,tt105,tt106,tt107,tt108,tt109,tt118,tt121,tt122,tt123,tt124,tt125,tt126,tt127,tt131,tt132,tt152,tt153,tt154,tt155,tt161,tt163,tt164,tt165,tt166,tt167,tt168,tt170,tt171,tt178,tt179,tt182,tt185,tt186,tt188,tt190,tt191,tt192,tt198,tt202,tt203,tt204,tt205,tt206,tt220,tt227,tt228,calleeOf];done)|fail):p:=h
theorem sg3 {p:Prop} (h:p:=by first|(simp only [↓evalSeq,↓evalR_some,↓evalO_call,↓evalO_none,↓evalO_some,↓evalG_tt,↓evalG_ff,↓evalG_tf,↓evalG_ft,↓evalG_sk,isCall,↓cond_true,↓cond_false,gv,stepOp,stepMove,stepLoad,stepStore,stepIndex,stepLen,stepAppend,stepSlice,stepBin,stepInt,stepEq,srcOf,addrOff,TK.isIface,stepRow,stepUpdate,stepUpdateI,stepLookI,stepLenM,intsOf,oneZ,zeroPV,placesA,PV.nonint,List.any_cons,List.any_nil,Bool.or_true,Bool.true_or,Bool.or_false,Bool.false_or,rdP,rdV,TI.isAgg,boolR,mkAgg,mkSlice,unL,unE,V.un,vc_int,vo_int,po_int,vc_bool,vo_bool,po_bool,vc_nil,vo_nil,po_nil,vc_nils,vo_nils,po_nils,vc_nilfn,vo_nilfn,po_nilfn,vc_nilm,vo_nilm,po_nilm,vc_nilif,vo_nilif,po_nilif,vc_ptr,vo_ptr,po_ptr,vc_slice,vo_slice,po_slice,vc_iface,vo_iface,po_iface,vc_loc,vo_loc,vc_eloc,vo_eloc,vc_arr,vo_arr,vc_map,vo_map,vc_vsl,vo_vsl,vc_fn,vo_fn,vc_agg,vc_aggv,pc_int,pc_bool,pc_nil,pc_nils,pc_nilfn,pc_nilm,pc_nilif,pc_ptr,pc_slice,pc_iface,pc_agg,fillV,sliceParts,putL,St.val,getS,getO,setO,delO,updAll,updO,St.eff,R.eff,R.of,R.ofIf,Env1.note,cst,putS,dstOK,freshL,zipArgs,pvL,skipE,↓reduceIte,Nat.reduceEqDiff,Nat.reduceLT,Nat.reduceLeDiff,Nat.reduceAdd,Nat.reduceSub,Nat.reduceMul,Int.reduceToNat,Int.toNat_natCast,and_true,true_and,false_and,and_self,forall_const,true_implies,implies_true,not_false_eq_true,not_true_eq_false,List.mem_cons,List.not_mem_nil,or_false,or_self,false_or,List.length_cons,List.length_nil,List.map_cons,List.map_nil,List.nil_append,List.cons_append,List.append_nil,List.take_zero,List.take_succ_cons,List.drop_zero,List.drop_succ_cons,List.take_nil,List.drop_nil,List.getElem?_cons_zero,List.getElem?_cons_succ,List.getElem?_nil,Option.map_some,Option.map_none,Bool.not_true,Bool.not_false,List.all_cons,List.all_nil,Bool.and_self,Bool.true_and,Bool.and_true,reduceCtorEq,Option.some.injEq,List.getD_cons_zero,List.getD_cons_succ,decide_true,decide_false,Nat.succ_ne_self,Nat.zero_add,Nat.add_zero,pvE_take,pvE_get,pvE_app,pvE_len,pvE_all,pvE_one,unE_pvE,List.forall_mem_cons,List.mem_singleton,forall_eq,List.mem_nil_iff,false_implies,XX_T,XX_gl,gl0,XX_nm,XX_nt,noteD,noteOf,tt1,tt2,tt3,tt4,tt20,tt22,tt25,tt26,tt27,tt28,tt29,tt30,tt33,tt35,tt36,tt39,tt40,tt41,tt45,tt46,tt47,tt69,tt70,tt75,tt76,tt78,tt79,tt80,tt84,tt85,tt86,tt87,tt88,tt89,tt90,tt91,tt94,tt104,tt105,tt106,tt107,tt108,tt109,tt118,tt121,tt122,tt123,tt124,tt125,tt126,tt127,tt131,tt132,tt152,tt153,tt154,tt155,tt161,tt163,tt164,tt165,tt166,tt167,tt168,tt170,tt171,tt178,tt179,tt182,tt185,tt186,tt188,tt190,tt191,tt192,tt198,tt202,tt203,tt204,tt205,tt206,tt220,tt227,tt228];done)|fail):p:=h
theorem sg4 {p:Prop} (h:p:=by first|(simp only [↓evalSeq,↓evalR_some,↓evalO_call,↓evalO_none,↓evalO_some,↓evalG_tt,↓evalG_ff,↓evalG_tf,↓evalG_ft,↓evalG_sk,isCall,↓cond_true,↓cond_false,gv,stepOp,stepMove,stepLoad,stepStore,stepIndex,stepLen,stepAppend,stepSlice,stepBin,stepInt,stepEq,srcOf,addrOff,TK.isIface,stepRow,stepUpdate,stepUpdateI,stepLookI,stepLenM,intsOf,oneZ,zeroPV,placesA,PV.nonint,List.any_cons,List.any_nil,Bool.or_true,Bool.true_or,Bool.or_false,Bool.false_or,rdP,rdV,TI.isAgg,boolR,mkAgg,mkSlice,unL,unE,V.un,vc_int,vo_int,po_int,vc_bool,vo_bool,po_bool,vc_nil,vo_nil,po_nil,vc_nils,vo_nils,po_nils,vc_nilfn,vo_nilfn,po_nilfn,vc_nilm,vo_nilm,po_nilm,vc_nilif,vo_nilif,po_nilif,vc_ptr,vo_ptr,po_ptr,vc_slice,vo_slice,po_slice,vc_iface,vo_iface,po_iface,vc_loc,vo_loc,vc_eloc,vo_eloc,vc_arr,vo_arr,vc_map,vo_map,vc_vsl,vo_vsl,vc_fn,vo_fn,vc_agg,vc_aggv,pc_int,pc_bool,pc_nil,pc_nils,pc_nilfn,pc_nilm,pc_nilif,pc_ptr,pc_slice,pc_iface,pc_agg,fillV,sliceParts,putL,St.val,getS,getO,setO,delO,updAll,updO,St.eff,R.eff,R.of,R.ofIf,Env1.note,cst,putS,dstOK,freshL,zipArgs,pvL,skipE,↓reduceIte,Nat.reduceEqDiff,Nat.reduceLT,Nat.reduceLeDiff,Nat.reduceAdd,Nat.reduceSub,Nat.reduceMul,Int.reduceToNat,Int.toNat_natCast,and_true,true_and,false_and,and_self,forall_const,true_implies,implies_true,not_false_eq_true,not_true_eq_false,List.mem_cons,List.not_mem_nil,or_false,or_self,false_or,List.length_cons,List.length_nil,List.map_cons,List.map_nil,List.nil_append,List.cons_append,List.append_nil,List.take_zero,List.take_succ_cons,List.drop_zero,List.drop_succ_cons,List.take_nil,List.drop_nil,List.getElem?_cons_zero,List.getElem?_cons_succ,List.getElem?_nil,Option.map_some,Option.map_none,Bool.not_true,Bool.not_false,List.all_cons,List.all_nil,Bool.and_self,Bool.true_and,Bool.and_true,reduceCtorEq,Option.some.injEq,List.getD_cons_zero,List.getD_cons_succ,decide_true,decide_false,Nat.succ_ne_self,Nat.zero_add,Nat.add_zero,pvE_take,pvE_get,pvE_app,pvE_len,pvE_all,pvE_one,unE_pvE,List.forall_mem_cons,List.mem_singleton,forall_eq,List.mem_nil_iff,false_implies,XX_T,XX_gl,gl0,XX_nm,XX_nt,noteD,noteOf,tt1,tt2,tt3,tt4,tt20,tt22,tt25,tt26,tt27,tt28,tt29,tt30,tt33,tt35,tt36,tt39,tt40,tt41,tt45,tt46,tt47,tt69,tt70,tt75,tt76,tt78,tt79,tt80,tt84,tt85,tt86,tt87,tt88,tt89,tt90,tt91,tt94,tt104,tt105,tt106,tt107,tt108,tt109,tt118,tt121,tt122,tt123,tt124,tt125,tt126,tt127,tt131,tt132,tt152,tt153,tt154,tt155,tt161,tt163,tt164,tt165,tt166,tt167,tt168,tt170,tt171,tt178,tt179,tt182,tt185,tt186,tt188,tt190,tt191,tt192,tt198,tt202,tt203,tt204,tt205,tt206,tt220,tt227,tt228,subO];done)|fail):p:=h
theorem sg5 {p:Prop} (h:p:=by first|(simp only [↓evalSeq,↓evalR_some,↓evalO_call,↓evalO_none,↓evalO_some,↓evalG_tt,↓evalG_ff,↓evalG_tf,↓evalG_ft,↓evalG_sk,isCall,↓cond_true,↓cond_false,gv,stepOp,stepMove,stepLoad,stepStore,stepIndex,stepLen,stepAppend,stepSlice,stepBin,stepInt,stepEq,srcOf,addrOff,TK.isIface,stepRow,stepUpdate,stepUpdateI,stepLookI,stepLenM,intsOf,oneZ,zeroPV,placesA,PV.nonint,List.any_cons,List.any_nil,Bool.or_true,Bool.true_or,Bool.or_false,Bool.false_or,rdP,rdV,TI.isAgg,boolR,mkAgg,mkSlice,unL,unE,V.un,vc_int,vo_int,po_int,vc_bool,vo_bool,po_bool,vc_nil,vo_nil,po_nil,vc_nils,vo_nils,po_nils,vc_nilfn,vo_nilfn,po_nilfn,vc_nilm,vo_nilm,po_nilm,vc_nilif,vo_nilif,po_nilif,vc_ptr,vo_ptr,po_ptr,vc_slice,vo_slice,po_slice,vc_iface,vo_iface,po_iface,vc_loc,vo_loc,vc_eloc,vo_eloc,vc_arr,vo_arr,vc_map,vo_map,vc_vsl,vo_vsl,vc_fn,vo_fn,vc_agg,vc_aggv,pc_int,pc_bool,pc_nil,pc_nils,pc_nilfn,pc_nilm,pc_nilif,pc_ptr,pc_slice,pc_iface,pc_agg,fillV,sliceParts,putL,St.val,getS,getO,setO,delO,updAll,updO,St.eff,R.eff,R.of,R.ofIf,Env1.note,cst,putS,dstOK,freshL,zipArgs,pvL,skipE,↓reduceIte,Nat.reduceEqDiff,Nat.reduceLT,Nat.reduceLeDiff,Nat.reduceAdd,Nat.reduceSub,Nat.reduceMul,Int.reduceToNat,Int.toNat_natCast,and_true,true_and,false_and,and_self,forall_const,true_implies,implies_true,not_false_eq_true,not_true_eq_false,List.mem_cons,List.not_mem_nil,or_false,or_self,false_or,List.length_cons,List.length_nil,List.map_cons,List.map_nil,List.nil_append,List.cons_append,List.append_nil,List.take_zero,List.take_succ_cons,List.drop_zero,List.drop_succ_cons,List.take_nil,List.drop_nil,List.getElem?_cons_zero,List.getElem?_cons_succ,List.getElem?_nil,Option.map_some,Option.map_none,Bool.not_true,Bool.not_false,List.all_cons,List.all_nil,Bool.and_self,Bool.true_and,Bool.and_true,reduceCtorEq,Option.some.injEq,List.getD_cons_zero,List.getD_cons_succ,decide_true,decide_false,Nat.succ_ne_self,Nat.zero_add,Nat.add_zero,pvE_take,pvE_get,pvE_app,pvE_len,pvE_all,pvE_one,unE_pvE,List.forall_mem_cons,List.mem_singleton,forall_eq,List.mem_nil_iff,false_implies,XX_T,XX_gl,gl0,XX_nm,XX_nt,noteD,noteOf,tt1,tt2,tt3,tt4,tt20,tt22,tt25,tt26,tt27,tt28,tt29,tt30,tt33,tt35,tt36,tt39,tt40,tt41,tt45,tt46,tt47,tt69,tt70,tt75,tt76,tt78,tt79,tt80,tt84,tt85,tt86,tt87,tt88,tt89,tt90,tt91,tt94,tt104,tt105,tt106,tt107,tt108,tt109,tt118,tt121,tt122,tt123,tt124,tt125,tt126,tt127,tt131,tt132,tt152,tt153,tt154,tt155,tt161,tt163,tt164,tt165,tt166,tt167,tt168,tt170,tt171,tt178,tt179,tt182,tt185,tt186,tt188,tt190,tt191,tt192,tt198,tt202,tt203,tt204,tt205,tt206,tt220,tt227,tt228,callEff,callWr,keysO,List.filter_cons,List.filter_nil,Option.isNone_none,Option.isNone_some,List.reverse_nil,List.reverse_cons];done)|fail):p:=h
theorem sg6 {p:Prop} (h:p:=by simp only [↓evalSeq,↓evalR_some,↓evalO_call,↓evalO_none,↓evalO_some,↓evalG_tt,↓evalG_ff,↓evalG_tf,↓evalG_ft,↓evalG_sk,isCall,↓cond_true,↓cond_false,gv,stepOp,stepMove,stepLoad,stepStore,stepIndex,stepLen,stepAppend,stepSlice,stepBin,stepInt,stepEq,srcOf,addrOff,TK.isIface,stepRow,stepUpdate,stepUpdateI,stepLookI,stepLenM,intsOf,oneZ,zeroPV,placesA,PV.nonint,List.any_cons,List.any_nil,Bool.or_true,Bool.true_or,Bool.or_false,Bool.false_or,rdP,rdV,TI.isAgg,boolR,mkAgg,mkSlice,unL,unE,V.un,vc_int,vo_int,po_int,vc_bool,vo_bool,po_bool,vc_nil,vo_nil,po_nil,vc_nils,vo_nils,po_nils,vc_nilfn,vo_nilfn,po_nilfn,vc_nilm,vo_nilm,po_nilm,vc_nilif,vo_nilif,po_nilif,vc_ptr,vo_ptr,po_ptr,vc_slice,vo_slice,po_slice,vc_iface,vo_iface,po_iface,vc_loc,vo_loc,vc_eloc,vo_eloc,vc_arr,vo_arr,vc_map,vo_map,vc_vsl,vo_vsl,vc_fn,vo_fn,vc_agg,vc_aggv,pc_int,pc_bool,pc_nil,pc_nils,pc_nilfn,pc_nilm,pc_nilif,pc_ptr,pc_slice,pc_iface,pc_agg,fillV,sliceParts,putL,St.val,getS,getO,setO,delO,updAll,updO,St.eff,R.eff,R.of,R.ofIf,Env1.note,cst,putS,dstOK,freshL,zipArgs,pvL,skipE,↓reduceIte,Nat.reduceEqDiff,Nat.reduceLT,Nat.reduceLeDiff,Nat.reduceAdd,Nat.reduceSub,Nat.reduceMul,Int.reduceToNat,Int.toNat_natCast,and_true,true_and,false_and,and_self,forall_const,true_implies,implies_true,not_false_eq_true,not_true_eq_false,List.mem_cons,List.not_mem_nil,or_false,or_self,false_or,List.length_cons,List.length_nil,List.map_cons,List.map_nil,List.nil_append,List.cons_append,List.append_nil,List.take_zero,List.take_succ_cons,List.drop_zero,List.drop_succ_cons,List.take_nil,List.drop_nil,List.getElem?_cons_zero,List.getElem?_cons_succ,List.getElem?_nil,Option.map_some,Option.map_none,Bool.not_true,Bool.not_false,List.all_cons,List.all_nil,Bool.and_self,Bool.true_and,Bool.and_true,reduceCtorEq,Option.some.injEq,List.getD_cons_zero,List.getD_cons_succ,decide_true,decide_false,Nat.succ_ne_self,Nat.zero_add,Nat.add_zero,pvE_take,pvE_get,pvE_app,pvE_len,pvE_all,pvE_one,unE_pvE,List.forall_mem_cons,List.mem_singleton,forall_eq,List.mem_nil_iff,false_implies,XX_T,XX_gl,gl0,XX_nm,XX_nt,noteD,noteOf,tt1,tt2,tt3,tt4,tt20,tt22,tt25,tt26,tt27,tt28,tt29,tt30,tt33,tt35,tt36,tt39,tt40,tt41,tt45,tt46,tt47,tt69,tt70,tt75,tt76,tt78,tt79,tt80,tt84,tt85,tt86,tt87,tt88,tt89,tt90,tt91,tt94,tt104,tt105,tt106,tt107,tt108,tt109,tt118,tt121,tt122,tt123,tt124,tt125,tt126,tt127,tt131,tt132,tt152,tt153,tt154,tt155,tt161,tt163,tt164,tt165,tt166,tt167,tt168,tt170,tt171,tt178,tt179,tt182,tt185,tt186,tt188,tt190,tt191,tt192,tt198,tt202,tt203,tt204,tt205,tt206,tt220,tt227,tt228,callEff,callWr,keysO,List.filter_cons,List.filter_nil,Option.isNone_none,Option.isNone_some,List.reverse_nil,List.reverse_cons];rfl):p:=h
theorem sg7 {p:Prop} (h:p:=by simp only [↓evalSeq,↓evalR_some,↓evalO_call,↓evalO_none,↓evalO_some,↓evalG_tt,↓evalG_ff,↓evalG_tf,↓evalG_ft,↓evalG_sk,isCall,↓cond_true,↓cond_false,gv,stepOp,stepMove,stepLoad,stepStore,stepIndex,stepLen,stepAppend,stepSlice,stepBin,stepInt,stepEq,srcOf,addrOff,TK.isIface,stepRow,stepUpdate,stepUpdateI,stepLookI,stepLenM,intsOf,oneZ,zeroPV,placesA,PV.nonint,List.any_cons,List.any_nil,Bool.or_true,Bool.true_or,Bool.or_false,Bool.false_or,rdP,rdV,TI.isAgg,boolR,mkAgg,mkSlice,unL,unE,V.un,vc_int,vo_int,po_int,vc_bool,vo_bool,po_bool,vc_nil,vo_nil,po_nil,vc_nils,vo_nils,po_nils,vc_nilfn,vo_nilfn,po_nilfn,vc_nilm,vo_nilm,po_nilm,vc_nilif,vo_nilif,po_nilif,vc_ptr,vo_ptr,po_ptr,vc_slice,vo_slice,po_slice,vc_iface,vo_iface,po_iface,vc_loc,vo_loc,vc_eloc,vo_eloc,vc_arr,vo_arr,vc_map,vo_map,vc_vsl,vo_vsl,vc_fn,vo_fn,vc_agg,vc_aggv,pc_int,pc_bool,pc_nil,pc_nils,pc_nilfn,pc_nilm,pc_nilif,pc_ptr,pc_slice,pc_iface,pc_agg,fillV,sliceParts,putL,St.val,getS,getO,setO,delO,updAll,updO,St.eff,R.eff,R.of,R.ofIf,Env1.note,cst,putS,dstOK,freshL,zipArgs,pvL,skipE,↓reduceIte,Nat.reduceEqDiff,Nat.reduceLT,Nat.reduceLeDiff,Nat.reduceAdd,Nat.reduceSub,Nat.reduceMul,Int.reduceToNat,Int.toNat_natCast,and_true,true_and,false_and,and_self,forall_const,true_implies,implies_true,not_false_eq_true,not_true_eq_false,List.mem_cons,List.not_mem_nil,or_false,or_self,false_or,List.length_cons,List.length_nil,List.map_cons,List.map_nil,List.nil_append,List.cons_append,List.append_nil,List.take_zero,List.take_succ_cons,List.drop_zero,List.drop_succ_cons,List.take_nil,List.drop_nil,List.getElem?_cons_zero,List.getElem?_cons_succ,List.getElem?_nil,Option.map_some,Option.map_none,Bool.not_true,Bool.not_false,List.all_cons,List.all_nil,Bool.and_self,Bool.true_and,Bool.and_true,reduceCtorEq,Option.some.injEq,List.getD_cons_zero,List.getD_cons_succ,decide_true,decide_false,Nat.succ_ne_self,Nat.zero_add,Nat.add_zero,pvE_take,pvE_get,pvE_app,pvE_len,pvE_all,pvE_one,unE_pvE,List.forall_mem_cons,List.mem_singleton,forall_eq,List.mem_nil_iff,false_implies,XX_T,XX_gl,gl0,XX_nm,XX_nt,noteD,noteOf,tt1,tt2,tt3,tt4,tt20,tt22,tt25,tt26,tt27,tt28,tt29,tt30,tt33,tt35,tt36,tt39,tt40,tt41,tt45,tt46,tt47,tt69,tt70,tt75,tt76,tt78,tt79,tt80,tt84,tt85,tt86,tt87,tt88,tt89,tt90,tt91,tt94,tt104,tt105,tt106,tt107,tt108,tt109,tt118,tt121,tt122,tt123,tt124,tt125,tt126,tt127,tt131,tt132,tt152,tt153,tt154,tt155,tt161,tt163,tt164,tt165,tt166,tt167,tt168,tt170,tt171,tt178,tt179,tt182,tt185,tt186,tt188,tt190,tt191,tt192,tt198,tt202,tt203,tt204,tt205,tt206,tt220,tt227,tt228];rfl):p:=h
theorem sg8 {p:Prop} (h:p:=by simp only [St.frz,frzS,frzA,frzV,frzL,frzO,frzOb,↓evalSeq,↓evalR_some,↓evalO_call,↓evalO_none,↓evalO_some,↓evalG_tt,↓evalG_ff,↓evalG_tf,↓evalG_ft,↓evalG_sk,isCall,↓cond_true,↓cond_false,gv,stepOp,stepMove,stepLoad,stepStore,stepIndex,stepLen,stepAppend,stepSlice,stepBin,stepInt,stepEq,srcOf,addrOff,TK.isIface,stepRow,stepUpdate,stepUpdateI,stepLookI,stepLenM,intsOf,oneZ,zeroPV,placesA,PV.nonint,List.any_cons,List.any_nil,Bool.or_true,Bool.true_or,Bool.or_false,Bool.false_or,rdP,rdV,TI.isAgg,boolR,mkAgg,mkSlice,unL,unE,V.un,vc_int,vo_int,po_int,vc_bool,vo_bool,po_bool,vc_nil,vo_nil,po_nil,vc_nils,vo_nils,po_nils,vc_nilfn,vo_nilfn,po_nilfn,vc_nilm,vo_nilm,po_nilm,vc_nilif,vo_nilif,po_nilif,vc_ptr,vo_ptr,po_ptr,vc_slice,vo_slice,po_slice,vc_iface,vo_iface,po_iface,vc_loc,vo_loc,vc_eloc,vo_eloc,vc_arr,vo_arr,vc_map,vo_map,vc_vsl,vo_vsl,vc_fn,vo_fn,vc_agg,vc_aggv,pc_int,pc_bool,pc_nil,pc_nils,pc_nilfn,pc_nilm,pc_nilif,pc_ptr,pc_slice,pc_iface,pc_agg,fillV,sliceParts,putL,St.val,getS,getO,setO,delO,updAll,updO,St.eff,R.eff,R.of,R.ofIf,Env1.note,cst,putS,dstOK,freshL,zipArgs,pvL,skipE,↓reduceIte,Nat.reduceEqDiff,Nat.reduceLT,Nat.reduceLeDiff,Nat.reduceAdd,Nat.reduceSub,Nat.reduceMul,Int.reduceToNat,Int.toNat_natCast,and_true,true_and,false_and,and_self,forall_const,true_implies,implies_true,not_false_eq_true,not_true_eq_false,List.mem_cons,List.not_mem_nil,or_false,or_self,false_or,List.length_cons,List.length_nil,List.map_cons,List.map_nil,List.nil_append,List.cons_append,List.append_nil,List.take_zero,List.take_succ_cons,List.drop_zero,List.drop_succ_cons,List.take_nil,List.drop_nil,List.getElem?_cons_zero,List.getElem?_cons_succ,List.getElem?_nil,Option.map_some,Option.map_none,Bool.not_true,Bool.not_false,List.all_cons,List.all_nil,Bool.and_self,Bool.true_and,Bool.and_true,reduceCtorEq,Option.some.injEq,List.getD_cons_zero,List.getD_cons_succ,decide_true,decide_false,Nat.succ_ne_self,Nat.zero_add,Nat.add_zero,pvE_take,pvE_get,pvE_app,pvE_len,pvE_all,pvE_one,unE_pvE,List.forall_mem_cons,List.mem_singleton,forall_eq,List.mem_nil_iff,false_implies,XX_T,XX_gl,gl0,XX_nm,XX_nt,noteD,noteOf,tt1,tt2,tt3,tt4,tt20,tt22,tt25,tt26,tt27,tt28,tt29,tt30,tt33,tt35,tt36,tt39,tt40,tt41,tt45,tt46,tt47,tt69,tt70,tt75,tt76,tt78,tt79,tt80,tt84,tt85,tt86,tt87,tt88,tt89,tt90,tt91,tt94,tt104,tt105,tt106,tt107,tt108,tt109,tt118,tt121,tt122,tt123,tt124,tt125,tt126,tt127,tt131,tt132,tt152,tt153,tt154,tt155,tt161,tt163,tt164,tt165,tt166,tt167,tt168,tt170,tt171,tt178,tt179,tt182,tt185,tt186,tt188,tt190,tt191,tt192,tt198,tt202,tt203,tt204,tt205,tt206,tt220,tt227,tt228];rfl):p:=h
theorem sg9 {p:Prop} (h:p:=by first|(simp only [↓evalSeq,↓evalR_some,↓evalO_call,↓evalO_none,↓evalO_some,↓evalG_tt,↓evalG_ff,↓evalG_tf,↓evalG_ft,↓evalG_sk,isCall,↓cond_true,↓cond_false,gv,stepOp,stepMove,stepLoad,stepStore,stepIndex,stepLen,stepAppend,stepSlice,stepBin,stepInt,stepEq,srcOf,addrOff,TK.isIface,stepRow,stepUpdate,stepUpdateI,stepLookI,stepLenM,intsOf,oneZ,zeroPV,placesA,PV.nonint,List.any_cons,List.any_nil,Bool.or_true,Bool.true_or,Bool.or_false,Bool.false_or,rdP,rdV,TI.isAgg,boolR,mkAgg,mkSlice,unL,unE,V.un,vc_int,vo_int,po_int,vc_bool,vo_bool,po_bool,vc_nil,vo_nil,po_nil,vc_nils,vo_nils,po_nils,vc_nilfn,vo_nilfn,po_nilfn,vc_nilm,vo_nilm,po_nilm,vc_nilif,vo_nilif,po_nilif,vc_ptr,vo_ptr,po_ptr,vc_slice,vo_slice,po_slice,vc_iface,vo_iface,po_iface,vc_loc,vo_loc,vc_eloc,vo_eloc,vc_arr,vo_arr,vc_map,vo_map,vc_vsl,vo_vsl,vc_fn,vo_fn,vc_agg,vc_aggv,pc_int,pc_bool,pc_nil,pc_nils,pc_nilfn,pc_nilm,pc_nilif,pc_ptr,pc_slice,pc_iface,pc_agg,fillV,sliceParts,putL,St.val,getS,getO,setO,delO,updAll,updO,St.eff,R.eff,R.of,R.ofIf,Env1.note,cst,putS,dstOK,freshL,zipArgs,pvL,skipE,↓reduceIte,Nat.reduceEqDiff,Nat.reduceLT,Nat.reduceLeDiff,Nat.reduceAdd,Nat.reduceSub,Nat.reduceMul,Int.reduceToNat,Int.toNat_natCast,and_true,true_and,false_and,and_self,forall_const,true_implies,implies_true,not_false_eq_true,not_true_eq_false,List.mem_cons,List.not_mem_nil,or_false,or_self,false_or,List.length_cons,List.length_nil,List.map_cons,List.map_nil,List.nil_append,List.cons_append,List.append_nil,List.take_zero,List.take_succ_cons,List.drop_zero,List.drop_succ_cons,List.take_nil,List.drop_nil,List.getElem?_cons_zero,List.getElem?_cons_succ,List.getElem?_nil,Option.map_some,Option.map_none,Bool.not_true,Bool.not_false,List.all_cons,List.all_nil,Bool.and_self,Bool.true_and,Bool.and_true,reduceCtorEq,Option.some.injEq,List.getD_cons_zero,List.getD_cons_succ,decide_true,decide_false,Nat.succ_ne_self,Nat.zero_add,Nat.add_zero,pvE_take,pvE_get,pvE_app,pvE_len,pvE_all,pvE_one,unE_pvE,List.forall_mem_cons,List.mem_singleton,forall_eq,List.mem_nil_iff,false_implies,XX_T,XX_gl,gl0,XX_nm,XX_nt,noteD,noteOf,tt1,tt2,tt3,tt4,tt20,tt22,tt25,tt26,tt27,tt28,tt29,tt30,tt33,tt35,tt36,tt39,tt40,tt41,tt45,tt46,tt47,tt69,tt70,tt75,tt76,tt78,tt79,tt80,tt84,tt85,tt86,tt87,tt88,tt89,tt90,tt91,tt94,tt104,tt105,tt106,tt107,tt108,tt109,tt118,tt121,tt122,tt123,tt124,tt125,tt126,tt127,tt131,tt132,tt152,tt153,tt154,tt155,tt161,tt163,tt164,tt165,tt166,tt167,tt168,tt170,tt171,tt178,tt179,tt182,tt185,tt186,tt188,tt190,tt191,tt192,tt198,tt202,tt203,tt204,tt205,tt206,tt220,tt227,tt228,Int.cast_ofNat_Int,Int.reduceEq,Int.reduceNe,Int.reduceLT,Int.reduceLE,Int.reduceAdd,Int.reduceSub,Int.reduceMul,Int.reduceNeg,Int.reduceTMod,eq_self,ne_eq, *,calleeOf];done)|fail):p:=h
theorem sg10 {p:Prop} (h:p:=by first|(simp only [↓evalSeq,↓evalR_some,↓evalO_call,↓evalO_none,↓evalO_some,↓evalG_tt,↓evalG_ff,↓evalG_tf,↓evalG_ft,↓evalG_sk,isCall,↓cond_true,↓cond_false,gv,stepOp,stepMove,stepLoad,stepStore,stepIndex,stepLen,stepAppend,stepSlice,stepBin,stepInt,stepEq,srcOf,addrOff,TK.isIface,stepRow,stepUpdate,stepUpdateI,stepLookI,stepLenM,intsOf,oneZ,zeroPV,placesA,PV.nonint,List.any_cons,List.any_nil,Bool.or_true,Bool.true_or,Bool.or_false,Bool.false_or,rdP,rdV,TI.isAgg,boolR,mkAgg,mkSlice,unL,unE,V.un,vc_int,vo_int,po_int,vc_bool,vo_bool,po_bool,vc_nil,vo_nil,po_nil,vc_nils,vo_nils,po_nils,vc_nilfn,vo_nilfn,po_nilfn,vc_nilm,vo_nilm,po_nilm,vc_nilif,vo_nilif,po_nilif,vc_ptr,vo_ptr,po_ptr,vc_slice,vo_slice,po_slice,vc_iface,vo_iface,po_iface,vc_loc,vo_loc,vc_eloc,vo_eloc,vc_arr,vo_arr,vc_map,vo_map,vc_vsl,vo_vsl,vc_fn,vo_fn,vc_agg,vc_aggv,pc_int,pc_bool,pc_nil,pc_nils,pc_nilfn,pc_nilm,pc_nilif,pc_ptr,pc_slice,pc_iface,pc_agg,fillV,sliceParts,putL,St.val,getS,getO,setO,delO,updAll,updO,St.eff,R.eff,R.of,R.ofIf,Env1.note,cst,putS,dstOK,freshL,zipArgs,pvL,skipE,↓reduceIte,Nat.reduceEqDiff,Nat.reduceLT,Nat.reduceLeDiff,Nat.reduceAdd,Nat.reduceSub,Nat.reduceMul,Int.reduceToNat,Int.toNat_natCast,and_true,true_and,false_and,and_self,forall_const,true_implies,implies_true,not_false_eq_true,not_true_eq_false,List.mem_cons,List.not_mem_nil,or_false,or_self,false_or,List.length_cons,List.length_nil,List.map_cons,List.map_nil,List.nil_append,List.cons_append,List.append_nil,List.take_zero,List.take_succ_cons,List.drop_zero,List.drop_succ_cons,List.take_nil,List.drop_nil,List.getElem?_cons_zero,List.getElem?_cons_succ,List.getElem?_nil,Option.map_some,Option.map_none,Bool.not_true,Bool.not_false,List.all_cons,List.all_nil,Bool.and_self,Bool.true_and,Bool.and_true,reduceCtorEq,Option.some.injEq,List.getD_cons_zero,List.getD_cons_succ,decide_true,decide_false,Nat.succ_ne_self,Nat.zero_add,Nat.add_zero,pvE_take,pvE_get,pvE_app,pvE_len,pvE_all,pvE_one,unE_pvE,List.forall_mem_cons,List.mem_singleton,forall_eq,List.mem_nil_iff,false_implies,XX_T,XX_gl,gl0,XX_nm,XX_nt,noteD,noteOf,tt1,tt2,tt3,tt4,tt20,tt22,tt25,tt26,tt27,tt28,tt29,tt30,tt33,tt35,tt36,tt39,tt40,tt41,tt45,tt46,tt47,tt69,tt70,tt75,tt76,tt78,tt79,tt80,tt84,tt85,tt86,tt87,tt88,tt89,tt90,tt91,tt94,tt104,tt105,tt106,tt107,tt108,tt109,tt118,tt121,tt122,tt123,tt124,tt125,tt126,tt127,tt131,tt132,tt152,tt153,tt154,tt155,tt161,tt163,tt164,tt165,tt166,tt167,tt168,tt170,tt171,tt178,tt179,tt182,tt185,tt186,tt188,tt190,tt191,tt192,tt198,tt202,tt203,tt204,tt205,tt206,tt220,tt227,tt228,Int.cast_ofNat_Int,Int.reduceEq,Int.reduceNe,Int.reduceLT,Int.reduceLE,Int.reduceAdd,Int.reduceSub,Int.reduceMul,Int.reduceNeg,Int.reduceTMod,eq_self,ne_eq, *,subO];done)|fail):p:=h
theorem sg11 {p:Prop} (h:p:=by first|(simp only [↓evalSeq,↓evalR_some,↓evalO_call,↓evalO_none,↓evalO_some,↓evalG_tt,↓evalG_ff,↓evalG_tf,↓evalG_ft,↓evalG_sk,isCall,↓cond_true,↓cond_false,gv,stepOp,stepMove,stepLoad,stepStore,stepIndex,stepLen,stepAppend,stepSlice,stepBin,stepInt,stepEq,srcOf,addrOff,TK.isIface,stepRow,stepUpdate,stepUpdateI,stepLookI,stepLenM,intsOf,oneZ,zeroPV,placesA,PV.nonint,List.any_cons,List.any_nil,Bool.or_true,Bool.true_or,Bool.or_false,Bool.false_or,rdP,rdV,TI.isAgg,boolR,mkAgg,mkSlice,unL,unE,V.un,vc_int,vo_int,po_int,vc_bool,vo_bool,po_bool,vc_nil,vo_nil,po_nil,vc_nils,vo_nils,po_nils,vc_nilfn,vo_nilfn,po_nilfn,vc_nilm,vo_nilm,po_nilm,vc_nilif,vo_nilif,po_nilif,vc_ptr,vo_ptr,po_ptr,vc_slice,vo_slice,po_slice,vc_iface,vo_iface,po_iface,vc_loc,vo_loc,vc_eloc,vo_eloc,vc_arr,vo_arr,vc_map,vo_map,vc_vsl,vo_vsl,vc_fn,vo_fn,vc_agg,vc_aggv,pc_int,pc_bool,pc_nil,pc_nils,pc_nilfn,pc_nilm,pc_nilif,pc_ptr,pc_slice,pc_iface,pc_agg,fillV,sliceParts,putL,St.val,getS,getO,setO,delO,updAll,updO,St.eff,R.eff,R.of,R.ofIf,Env1.note,cst,putS,dstOK,freshL,zipArgs,pvL,skipE,↓reduceIte,Nat.reduceEqDiff,Nat.reduceLT,Nat.reduceLeDiff,Nat.reduceAdd,Nat.reduceSub,Nat.reduceMul,Int.reduceToNat,Int.toNat_natCast,and_true,true_and,false_and,and_self,forall_const,true_implies,implies_true,not_false_eq_true,not_true_eq_false,List.mem_cons,List.not_mem_nil,or_false,or_self,false_or,List.length_cons,List.length_nil,List.map_cons,List.map_nil,List.nil_append,List.cons_append,List.append_nil,List.take_zero,List.take_succ_cons,List.drop_zero,List.drop_succ_cons,List.take_nil,List.drop_nil,List.getElem?_cons_zero,List.getElem?_cons_succ,List.getElem?_nil,Option.map_some,Option.map_none,Bool.not_true,Bool.not_false,List.all_cons,List.all_nil,Bool.and_self,Bool.true_and,Bool.and_true,reduceCtorEq,Option.some.injEq,List.getD_cons_zero,List.getD_cons_succ,decide_true,decide_false,Nat.succ_ne_self,Nat.zero_add,Nat.add_zero,pvE_take,pvE_get,pvE_app,pvE_len,pvE_all,pvE_one,unE_pvE,List.forall_mem_cons,List.mem_singleton,forall_eq,List.mem_nil_iff,false_implies,XX_T,XX_gl,gl0,XX_nm,XX_nt,noteD,noteOf,tt1,tt2,tt3,tt4,tt20,tt22,tt25,tt26,tt27,tt28,tt29,tt30,tt33,tt35,tt36,tt39,tt40,tt41,tt45,tt46,tt47,tt69,tt70,tt75,tt76,tt78,tt79,tt80,tt84,tt85,tt86,tt87,tt88,tt89,tt90,tt91,tt94,tt104,tt105,tt106,tt107,tt108,tt109,tt118,tt121,tt122,tt123,tt124,tt125,tt126,tt127,tt131,tt132,tt152,tt153,tt154,tt155,tt161,tt163,tt164,tt165,tt166,tt167,tt168,tt170,tt171,tt178,tt179,tt182,tt185,tt186,tt188,tt190,tt191,tt192,tt198,tt202,tt203,tt204,tt205,tt206,tt220,tt227,tt228,Int.cast_ofNat_Int,Int.reduceEq,Int.reduceNe,Int.reduceLT,Int.reduceLE,Int.reduceAdd,Int.reduceSub,Int.reduceMul,Int.reduceNeg,Int.reduceTMod,eq_self,ne_eq, *,callEff,callWr,keysO,List.filter_cons,List.filter_nil,Option.isNone_none,Option.isNone_some,List.reverse_nil,List.reverse_cons];done)|fail):p:=h
theorem sg12 {p:Prop} (h:p:=by simp only [↓evalSeq,↓evalR_some,↓evalO_call,↓evalO_none,↓evalO_some,↓evalG_tt,↓evalG_ff,↓evalG_tf,↓evalG_ft,↓evalG_sk,isCall,↓cond_true,↓cond_false,gv,stepOp,stepMove,stepLoad,stepStore,stepIndex,stepLen,stepAppend,stepSlice,stepBin,stepInt,stepEq,srcOf,addrOff,TK.isIface,stepRow,stepUpdate,stepUpdateI,stepLookI,stepLenM,intsOf,oneZ,zeroPV,placesA,PV.nonint,List.any_cons,List.any_nil,Bool.or_true,Bool.true_or,Bool.or_false,Bool.false_or,rdP,rdV,TI.isAgg,boolR,mkAgg,mkSlice,unL,unE,V.un,vc_int,vo_int,po_int,vc_bool,vo_bool,po_bool,vc_nil,vo_nil,po_nil,vc_nils,vo_nils,po_nils,vc_nilfn,vo_nilfn,po_nilfn,vc_nilm,vo_nilm,po_nilm,vc_nilif,vo_nilif,po_nilif,vc_ptr,vo_ptr,po_ptr,vc_slice,vo_slice,po_slice,vc_iface,vo_iface,po_iface,vc_loc,vo_loc,vc_eloc,vo_eloc,vc_arr,vo_arr,vc_map,vo_map,vc_vsl,vo_vsl,vc_fn,vo_fn,vc_agg,vc_aggv,pc_int,pc_bool,pc_nil,pc_nils,pc_nilfn,pc_nilm,pc_nilif,pc_ptr,pc_slice,pc_iface,pc_agg,fillV,sliceParts,putL,St.val,getS,getO,setO,delO,updAll,updO,St.eff,R.eff,R.of,R.ofIf,Env1.note,cst,putS,dstOK,freshL,zipArgs,pvL,skipE,↓reduceIte,Nat.reduceEqDiff,Nat.reduceLT,Nat.reduceLeDiff,Nat.reduceAdd,Nat.reduceSub,Nat.reduceMul,Int.reduceToNat,Int.toNat_natCast,and_true,true_and,false_and,and_self,forall_const,true_implies,implies_true,not_false_eq_true,not_true_eq_false,List.mem_cons,List.not_mem_nil,or_false,or_self,false_or,List.length_cons,List.length_nil,List.map_cons,List.map_nil,List.nil_append,List.cons_append,List.append_nil,List.take_zero,List.take_succ_cons,List.drop_zero,List.drop_succ_cons,List.take_nil,List.drop_nil,List.getElem?_cons_zero,List.getElem?_cons_succ,List.getElem?_nil,Option.map_some,Option.map_none,Bool.not_true,Bool.not_false,List.all_cons,List.all_nil,Bool.and_self,Bool.true_and,Bool.and_true,reduceCtorEq,Option.some.injEq,List.getD_cons_zero,List.getD_cons_succ,decide_true,decide_false,Nat.succ_ne_self,Nat.zero_add,Nat.add_zero,pvE_take,pvE_get,pvE_app,pvE_len,pvE_all,pvE_one,unE_pvE,List.forall_mem_cons,List.mem_singleton,forall_eq,List.mem_nil_iff,false_implies,XX_T,XX_gl,gl0,XX_nm,XX_nt,noteD,noteOf,tt1,tt2,tt3,tt4,tt20,tt22,tt25,tt26,tt27,tt28,tt29,tt30,tt33,tt35,tt36,tt39,tt40,tt41,tt45,tt46,tt47,tt69,tt70,tt75,tt76,tt78,tt79,tt80,tt84,tt85,tt86,tt87,tt88,tt89,tt90,tt91,tt94,tt104,tt105,tt106,tt107,tt108,tt109,tt118,tt121,tt122,tt123,tt124,tt125,tt126,tt127,tt131,tt132,tt152,tt153,tt154,tt155,tt161,tt163,tt164,tt165,tt166,tt167,tt168,tt170,tt171,tt178,tt179,tt182,tt185,tt186,tt188,tt190,tt191,tt192,tt198,tt202,tt203,tt204,tt205,tt206,tt220,tt227,tt228,Int.cast_ofNat_Int,Int.reduceEq,Int.reduceNe,Int.reduceLT,Int.reduceLE,Int.reduceAdd,Int.reduceSub,Int.reduceMul,Int.reduceNeg,Int.reduceTMod,eq_self,ne_eq, *,callEff,callWr,keysO,List.filter_cons,List.filter_nil,Option.isNone_none,Option.isNone_some,List.reverse_nil,List.reverse_cons];rfl):p:=h
theorem sg13 {p:Prop} (h:p:=by simp only [↓evalSeq,↓evalR_some,↓evalO_call,↓evalO_none,↓evalO_some,↓evalG_tt,↓evalG_ff,↓evalG_tf,↓evalG_ft,↓evalG_sk,isCall,↓cond_true,↓cond_false,gv,stepOp,stepMove,stepLoad,stepStore,stepIndex,stepLen,stepAppend,stepSlice,stepBin,stepInt,stepEq,srcOf,addrOff,TK.isIface,stepRow,stepUpdate,stepUpdateI,stepLookI,stepLenM,intsOf,oneZ,zeroPV,placesA,PV.nonint,List.any_cons,List.any_nil,Bool.or_true,Bool.true_or,Bool.or_false,Bool.false_or,rdP,rdV,TI.isAgg,boolR,mkAgg,mkSlice,unL,unE,V.un,vc_int,vo_int,po_int,vc_bool,vo_bool,po_bool,vc_nil,vo_nil,po_nil,vc_nils,vo_nils,po_nils,vc_nilfn,vo_nilfn,po_nilfn,vc_nilm,vo_nilm,po_nilm,vc_nilif,vo_nilif,po_nilif,vc_ptr,vo_ptr,po_ptr,vc_slice,vo_slice,po_slice,vc_iface,vo_iface,po_iface,vc_loc,vo_loc,vc_eloc,vo_eloc,vc_arr,vo_arr,vc_map,vo_map,vc_vsl,vo_vsl,vc_fn,vo_fn,vc_agg,vc_aggv,pc_int,pc_bool,pc_nil,pc_nils,pc_nilfn,pc_nilm,pc_nilif,pc_ptr,pc_slice,pc_iface,pc_agg,fillV,sliceParts,putL,St.val,getS,getO,setO,delO,updAll,updO,St.eff,R.eff,R.of,R.ofIf,Env1.note,cst,putS,dstOK,freshL,zipArgs,pvL,skipE,↓reduceIte,Nat.reduceEqDiff,Nat.reduceLT,Nat.reduceLeDiff,Nat.reduceAdd,Nat.reduceSub,Nat.reduceMul,Int.reduceToNat,Int.toNat_natCast,and_true,true_and,false_and,and_self,forall_const,true_implies,implies_true,not_false_eq_true,not_true_eq_false,List.mem_cons,List.not_mem_nil,or_false,or_self,false_or,List.length_cons,List.length_nil,List.map_cons,List.map_nil,List.nil_append,List.cons_append,List.append_nil,List.take_zero,List.take_succ_cons,List.drop_zero,List.drop_succ_cons,List.take_nil,List.drop_nil,List.getElem?_cons_zero,List.getElem?_cons_succ,List.getElem?_nil,Option.map_some,Option.map_none,Bool.not_true,Bool.not_false,List.all_cons,List.all_nil,Bool.and_self,Bool.true_and,Bool.and_true,reduceCtorEq,Option.some.injEq,List.getD_cons_zero,List.getD_cons_succ,decide_true,decide_false,Nat.succ_ne_self,Nat.zero_add,Nat.add_zero,pvE_take,pvE_get,pvE_app,pvE_len,pvE_all,pvE_one,unE_pvE,List.forall_mem_cons,List.mem_singleton,forall_eq,List.mem_nil_iff,false_implies,XX_T,XX_gl,gl0,XX_nm,XX_nt,noteD,noteOf,tt1,tt2,tt3,tt4,tt20,tt22,tt25,tt26,tt27,tt28,tt29,tt30,tt33,tt35,tt36,tt39,tt40,tt41,tt45,tt46,tt47,tt69,tt70,tt75,tt76,tt78,tt79,tt80,tt84,tt85,tt86,tt87,tt88,tt89,tt90,tt91,tt94,tt104,tt105,tt106,tt107,tt108,tt109,tt118,tt121,tt122,tt123,tt124,tt125,tt126,tt127,tt131,tt132,tt152,tt153,tt154,tt155,tt161,tt163,tt164,tt165,tt166,tt167,tt168,tt170,tt171,tt178,tt179,tt182,tt185,tt186,tt188,tt190,tt191,tt192,tt198,tt202,tt203,tt204,tt205,tt206,tt220,tt227,tt228,Int.cast_ofNat_Int,Int.reduceEq,Int.reduceNe,Int.reduceLT,Int.reduceLE,Int.reduceAdd,Int.reduceSub,Int.reduceMul,Int.reduceNeg,Int.reduceTMod,eq_self,ne_eq, *,callEffR,callEff,callWr,keysO,List.filter_cons,List.filter_nil,Option.isNone_none,Option.isNone_some,List.reverse_nil,List.reverse_cons];rfl):p:=h
theorem sg14 {p:Prop} (h:p:=by simp only [↓evalSeq,↓evalR_some,↓evalO_call,↓evalO_none,↓evalO_some,↓evalG_tt,↓evalG_ff,↓evalG_tf,↓evalG_ft,↓evalG_sk,isCall,↓cond_true,↓cond_false,gv,stepOp,stepMove,stepLoad,stepStore,stepIndex,stepLen,stepAppend,stepSlice,stepBin,stepInt,stepEq,srcOf,addrOff,TK.isIface,stepRow,stepUpdate,stepUpdateI,stepLookI,stepLenM,intsOf,oneZ,zeroPV,placesA,PV.nonint,List.any_cons,List.any_nil,Bool.or_true,Bool.true_or,Bool.or_false,Bool.false_or,rdP,rdV,TI.isAgg,boolR,mkAgg,mkSlice,unL,unE,V.un,vc_int,vo_int,po_int,vc_bool,vo_bool,po_bool,vc_nil,vo_nil,po_nil,vc_nils,vo_nils,po_nils,vc_nilfn,vo_nilfn,po_nilfn,vc_nilm,vo_nilm,po_nilm,vc_nilif,vo_nilif,po_nilif,vc_ptr,vo_ptr,po_ptr,vc_slice,vo_slice,po_slice,vc_iface,vo_iface,po_iface,vc_loc,vo_loc,vc_eloc,vo_eloc,vc_arr,vo_arr,vc_map,vo_map,vc_vsl,vo_vsl,vc_fn,vo_fn,vc_agg,vc_aggv,pc_int,pc_bool,pc_nil,pc_nils,pc_nilfn,pc_nilm,pc_nilif,pc_ptr,pc_slice,pc_iface,pc_agg,fillV,sliceParts,putL,St.val,getS,getO,setO,delO,updAll,updO,St.eff,R.eff,R.of,R.ofIf,Env1.note,cst,putS,dstOK,freshL,zipArgs,pvL,skipE,↓reduceIte,Nat.reduceEqDiff,Nat.reduceLT,Nat.reduceLeDiff,Nat.reduceAdd,Nat.reduceSub,Nat.reduceMul,Int.reduceToNat,Int.toNat_natCast,and_true,true_and,false_and,and_self,forall_const,true_implies,implies_true,not_false_eq_true,not_true_eq_false,List.mem_cons,List.not_mem_nil,or_false,or_self,false_or,List.length_cons,List.length_nil,List.map_cons,List.map_nil,List.nil_append,List.cons_append,List.append_nil,List.take_zero,List.take_succ_cons,List.drop_zero,List.drop_succ_cons,List.take_nil,List.drop_nil,List.getElem?_cons_zero,List.getElem?_cons_succ,List.getElem?_nil,Option.map_some,Option.map_none,Bool.not_true,Bool.not_false,List.all_cons,List.all_nil,Bool.and_self,Bool.true_and,Bool.and_true,reduceCtorEq,Option.some.injEq,List.getD_cons_zero,List.getD_cons_succ,decide_true,decide_false,Nat.succ_ne_self,Nat.zero_add,Nat.add_zero,pvE_take,pvE_get,pvE_app,pvE_len,pvE_all,pvE_one,unE_pvE,List.forall_mem_cons,List.mem_singleton,forall_eq,List.mem_nil_iff,false_implies,XX_T,XX_gl,gl0,XX_nm,XX_nt,noteD,noteOf,tt1,tt2,tt3,tt4,tt20,tt22,tt25,tt26,tt27,tt28,tt29,tt30,tt33,tt35,tt36,tt39,tt40,tt41,tt45,tt46,tt47,tt69,tt70,tt75,tt76,tt78,tt79,tt80,tt84,tt85,tt86,tt87,tt88,tt89,tt90,tt91,tt94,tt104,tt105,tt106,tt107,tt108,tt109,tt118,tt121,tt122,tt123,tt124,tt125,tt126,tt127,tt131,tt132,tt152,tt153,tt154,tt155,tt161,tt163,tt164,tt165,tt166,tt167,tt168,tt170,tt171,tt178,tt179,tt182,tt185,tt186,tt188,tt190,tt191,tt192,tt198,tt202,tt203,tt204,tt205,tt206,tt220,tt227,tt228,List.set_cons_zero,List.set_cons_succ];rfl):p:=h
theorem sg15 {p:Prop} (h:p:=by simp only [St.frb,frbS,frbV,frbL,frbO,frbOb,↓evalSeq,↓evalR_some,↓evalO_call,↓evalO_none,↓evalO_some,↓evalG_tt,↓evalG_ff,↓evalG_tf,↓evalG_ft,↓evalG_sk,isCall,↓cond_true,↓cond_false,gv,stepOp,stepMove,stepLoad,stepStore,stepIndex,stepLen,stepAppend,stepSlice,stepBin,stepInt,stepEq,srcOf,addrOff,TK.isIface,stepRow,stepUpdate,stepUpdateI,stepLookI,stepLenM,intsOf,oneZ,zeroPV,placesA,PV.nonint,List.any_cons,List.any_nil,Bool.or_true,Bool.true_or,Bool.or_false,Bool.false_or,rdP,rdV,TI.isAgg,boolR,mkAgg,mkSlice,unL,unE,V.un,vc_int,vo_int,po_int,vc_bool,vo_bool,po_bool,vc_nil,vo_nil,po_nil,vc_nils,vo_nils,po_nils,vc_nilfn,vo_nilfn,po_nilfn,vc_nilm,vo_nilm,po_nilm,vc_nilif,vo_nilif,po_nilif,vc_ptr,vo_ptr,po_ptr,vc_slice,vo_slice,po_slice,vc_iface,vo_iface,po_iface,vc_loc,vo_loc,vc_eloc,vo_eloc,vc_arr,vo_arr,vc_map,vo_map,vc_vsl,vo_vsl,vc_fn,vo_fn,vc_agg,vc_aggv,pc_int,pc_bool,pc_nil,pc_nils,pc_nilfn,pc_nilm,pc_nilif,pc_ptr,pc_slice,pc_iface,pc_agg,fillV,sliceParts,putL,St.val,getS,getO,setO,delO,updAll,updO,St.eff,R.eff,R.of,R.ofIf,Env1.note,cst,putS,dstOK,freshL,zipArgs,pvL,skipE,↓reduceIte,Nat.reduceEqDiff,Nat.reduceLT,Nat.reduceLeDiff,Nat.reduceAdd,Nat.reduceSub,Nat.reduceMul,Int.reduceToNat,Int.toNat_natCast,and_true,true_and,false_and,and_self,forall_const,true_implies,implies_true,not_false_eq_true,not_true_eq_false,List.mem_cons,List.not_mem_nil,or_false,or_self,false_or,List.length_cons,List.length_nil,List.map_cons,List.map_nil,List.nil_append,List.cons_append,List.append_nil,List.take_zero,List.take_succ_cons,List.drop_zero,List.drop_succ_cons,List.take_nil,List.drop_nil,List.getElem?_cons_zero,List.getElem?_cons_succ,List.getElem?_nil,Option.map_some,Option.map_none,Bool.not_true,Bool.not_false,List.all_cons,List.all_nil,Bool.and_self,Bool.true_and,Bool.and_true,reduceCtorEq,Option.some.injEq,List.getD_cons_zero,List.getD_cons_succ,decide_true,decide_false,Nat.succ_ne_self,Nat.zero_add,Nat.add_zero,pvE_take,pvE_get,pvE_app,pvE_len,pvE_all,pvE_one,unE_pvE,List.forall_mem_cons,List.mem_singleton,forall_eq,List.mem_nil_iff,false_implies,XX_T,XX_gl,gl0,XX_nm,XX_nt,noteD,noteOf,tt1,tt2,tt3,tt4,tt20,tt22,tt25,tt26,tt27,tt28,tt29,tt30,tt33,tt35,tt36,tt39,tt40,tt41,tt45,tt46,tt47,tt69,tt70,tt75,tt76,tt78,tt79,tt80,tt84,tt85,tt86,tt87,tt88,tt89,tt90,tt91,tt94,tt104,tt105,tt106,tt107,tt108,tt109,tt118,tt121,tt122,tt123,tt124,tt125,tt126,tt127,tt131,tt132,tt152,tt153,tt154,tt155,tt161,tt163,tt164,tt165,tt166,tt167,tt168,tt170,tt171,tt178,tt179,tt182,tt185,tt186,tt188,tt190,tt191,tt192,tt198,tt202,tt203,tt204,tt205,tt206,tt220,tt227,tt228];rfl):p:=h
variable {draw:Bool} {ops:List Oper} {K:St→List Eff→Prop} {Qp:PV→St→Prop} {o:Oper} {rest:List Oper} {σ σ':St} {tr tr':List Eff} {cs:List C1} {rest':List Oper}
theorem ev (hc:buildC cs True) (hr:runOps (XX nm nt given) draw ops K Qp rest' σ' tr') (hcall:isCall o.op=false:=by rfl) (h:evalSeq (XX nm nt given) draw ops (o::rest) σ tr []=some ⟨cs,σ',rest',tr'⟩:=by exact sg1) :
  runOps (XX nm nt given) draw ops K Qp (o::rest) σ tr:=runOps_ev hcall h hc hr
theorem go (hr:runOps (XX nm nt given) draw ops K Qp rest' σ' tr') (hcall:isCall o.op=false:=by rfl) (h:evalSeq (XX nm nt given) draw ops (o::rest) σ tr []=some ⟨cs,σ',rest',tr'⟩:=by exact sg1)
  (hc:buildC cs True:=by first|(simp only [buildC,and_true,true_and,implies_true,true_implies,and_self];done)|(simp only [buildC,and_true,true_and,implies_true,true_implies,and_self];unfold inI;omega)|(simp [buildC,inI,maxLen, *];done)|(simp only [buildC,and_true,true_and,implies_true,true_implies,and_self];(repeat' (first|assumption|with_reducible apply And.intro|intro _))<;>first|assumption|omega|(unfold inI;omega)|(simp;done))|(simp [buildC,inI,maxLen];omega)):runOps (XX nm nt given) draw ops K Qp (o::rest) σ tr:=runOps_ev hcall h hc hr
theorem call {f:Nat} {args:List V} {objs:List (Nat × Ob)} {x:V} {objs':List (Nat × Ob)} (hac:AC Tryz.prog gl f args objs (.ret x) objs') (h:runOps (XX nm nt given) draw ops K Qp rest σ' tr')
  (hf:calleeOf (σ.val gl) o.op=some (f,args):=by first|(exact sg2)|fail) (hd:dstOK (XX nm nt given) o.dst:=by exact sg3) (hg:guardV ops σ o.guard=some true:=by rfl)
  (h1:subO objs σ.objs:=by exact sg4) (h2:freshL ((keysO objs').filter (fun n=>(getO objs n).isNone)) σ.used:=by exact sg5)
  (hσ:σ.eff o.dst (callEff x objs objs')=σ':=by exact sg6) (htr:(bif draw then tr++[callEff x objs objs'] else tr)=tr':=by exact sg6):runOps (XX nm nt given) draw ops K Qp (o::rest) σ tr :=
 runOps_call (X:=XX nm nt given) hac hd hg hf h1 h2 hσ htr h
theorem cskip (h:runOps (XX nm nt given) draw ops K Qp rest σ' tr') (hg:guardV ops σ o.guard=some false:=by rfl) (hd:dstOK (XX nm nt given) o.dst:=by exact sg3)
  (hσ:σ.eff o.dst skipE=σ':=by exact sg7) (htr:(bif draw then tr++[skipE] else tr)=tr':=by exact sg7):runOps (XX nm nt given) draw ops K Qp (o::rest) σ tr :=
 runOps_call_skip (X:=XX nm nt given) hd hg hσ htr h
theorem cd {c:Operand} {x y:Code} {Q:AEx→St→Prop} {v:V} (h:caseB v (AWP (XX nm nt given) x σ Q) (AWP (XX nm nt given) y σ Q)) (hv:σ.val gl c=v:=by exact sg1):AWP (XX nm nt given) (.cond c x y) σ Q:=ex_cond hv h
theorem cdt {v:V} {c:Operand} {x y:Code} {Q:AEx→St→Prop} (h:AWP (XX nm nt given) x σ Q) (hv:σ.val gl c=v:=by exact sg1) (hb:v = .pv (.bool true):=by rfl):AWP (XX nm nt given) (.cond c x y) σ Q:=ex_cond (hv.trans hb) (by rw [caseB_true];exact h)
theorem cdf {v:V} {c:Operand} {x y:Code} {Q:AEx→St→Prop} (h:AWP (XX nm nt given) y σ Q) (hv:σ.val gl c=v:=by exact sg1) (hb:v = .pv (.bool false):=by rfl):AWP (XX nm nt given) (.cond c x y) σ Q:=ex_cond (hv.trans hb) (by rw [caseB_false];exact h)
theorem kp {c:Code} {Q:AEx→St→Prop} (ss ns:List Nat) (h:AWP (XX nm nt given) c σ' Q) (hσ:σ.keep ss ns=σ':=by simp only [St.keep,pickS,pickO,getS,getO,↓reduceIte,Nat.reduceEqDiff];rfl)
  (hn:subL (namesSl σ'.slots++namesOb σ'.objs++(XX nm nt given).given) ns:=by simp [subL,namesSl,V.names,namesOb,Ob.names,namesL,namesE,namesE_pvE,XX_given]):AWP (XX nm nt given) c σ Q:=ex_keep ss ns hσ hn h
theorem frz {c:Code} {Q:AEx→St→Prop} (n:Nat) {ver sz ty:Nat} {es:List (List PV)} (h:AWP (XX nm nt given) c σ' Q) (ho:getO σ.objs n=some (.arr ver sz ty (pvE es)):=by simp only [getO,↓reduceIte,Nat.reduceEqDiff];rfl)
  (hσ:σ.frz n ver es=σ':=by exact sg8):AWP (XX nm nt given) c σ Q:=ex_freeze n ho hσ h
theorem bodyM {f:Nat} {fn:Func} {c:Code} (nm:List (Nat × Note)) (ms:List Nat) {args:List V} {objs:List (Nat × Ob)} {out:Out} {objs':List (Nat × Ob)} {ks:List Nat} (hf:Tryz.prog.funcs[f]? = some fn) (hnt:fn.ntmps=nt) (h:AWP (XX nm nt ks) c ⟨zipArgs 0 args,objs,ks⟩ (endQ (XX nm nt ks) fn.results.toList out objs'))
  (hb : fn.body = some c := by rfl) (hname : (fn.name == "runtime.NumGoroutine") = false := by kernel_rfl) (hal : args.length ≤ nt := by simp) (hks : keysO objs ++ ms = ks := by first | (simp only [keysO, List.map_cons, List.map_nil, List.nil_append, List.cons_append, List.append_nil]; done) | (simp only [keysO, List.map_cons, List.map_nil, List.nil_append, List.cons_append, List.append_nil]; rfl))
  (hms1:subL ms (mentL args objs):=by simp [subL,mentL,mentO,namesL,V.names,Ob.names,namesE,namesE_pvE]) (hms2:∀ n∈ms,n ∉ keysO objs:=by simp [keysO]) (hms3:∀ n∈ms,n ∉ keysO objs':=by simp [keysO])
  (hna:subL (namesL args++namesOb objs) ks:=by simp [subL,namesL,V.names,namesOb,Ob.names,keysO,namesE,namesE_pvE]) (hno:subL (out.names++namesOb objs') (ks++keysO objs'):=by simp [subL,Out.names,V.names,namesL,namesOb,Ob.names,keysO,namesE,namesE_pvE]) :
  AC Tryz.prog gl f args objs out objs':=by
 subst hks
 exact AC.of_body (X:=XX nm nt (keysO objs++ms)) ttOK hf hb hname hnt rfl hal hms1 hms2 hms3 hna hno h
theorem body {f:Nat} {fn:Func} {c:Code} (nm:List (Nat × Note)) {args:List V} {objs:List (Nat × Ob)} {out:Out} {objs':List (Nat × Ob)} {ks:List Nat} (hf:Tryz.prog.funcs[f]? = some fn) (hnt:fn.ntmps=nt) (h:AWP (XX nm nt ks) c ⟨zipArgs 0 args,objs,ks⟩ (endQ (XX nm nt ks) fn.results.toList out objs'))
  (hb : fn.body = some c := by rfl) (hname : (fn.name == "runtime.NumGoroutine") = false := by kernel_rfl) (hal : args.length ≤ nt := by simp) (hks : keysO objs = ks := by first | (simp only [keysO, List.map_cons, List.map_nil]; done) | (simp only [keysO, List.map_cons, List.map_nil]; rfl))
  (hna:subL (namesL args++namesOb objs) ks:=by simp [subL,namesL,V.names,namesOb,Ob.names,keysO,namesE,namesE_pvE]) (hno:subL (out.names++namesOb objs') (ks++keysO objs'):=by simp [subL,Out.names,V.names,namesL,namesOb,Ob.names,keysO,namesE,namesE_pvE]) :
  AC Tryz.prog gl f args objs out objs' :=
 bodyM nm [] hf hnt h hb hname hal (by simpa using hks) trivial (by simp) (by simp) hna hno
end
section
variable {nm:List (Nat × Note)} {nt:Nat} {given:List Nat}
variable {draw:Bool} {ops:List Oper} {K:St→List Eff→Prop} {Qp:PV→St→Prop} {o:Oper} {rest:List Oper} {σ σ':St} {tr tr':List Eff} {cs:List C1} {rest':List Oper}
theorem callS {f:Nat} {args:List V} {objs:List (Nat × Ob)} {x:V} {objs':List (Nat × Ob)} (hac:AC Tryz.prog gl f args objs (.ret x) objs') (h:runOps (XX nm nt given) draw ops K Qp rest σ' tr')
  (hf:calleeOf (σ.val gl) o.op=some (f,args):=by first|(exact sg9)|fail) (hd:dstOK (XX nm nt given) o.dst:=by exact sg3) (hg:guardV ops σ o.guard=some true:=by rfl)
  (h1:subO objs σ.objs:=by first|(exact sg10)|fail) (h2:freshL ((keysO objs').filter (fun n=>(getO objs n).isNone)) σ.used:=by first|(exact sg11)|(simp [freshL,keysO,getO, *];done)|fail)
  (hσ:σ.eff o.dst (callEff x objs objs')=σ':=by exact sg12) (htr:(bif draw then tr++[callEff x objs objs'] else tr)=tr':=by exact sg12):runOps (XX nm nt given) draw ops K Qp (o::rest) σ tr :=
 runOps_call (X:=XX nm nt given) hac hd hg hf h1 h2 hσ htr h
theorem callR {f:Nat} {args:List V} {ro objs:List (Nat × Ob)} {x:V} {objs':List (Nat × Ob)} (hac:AC Tryz.prog gl f args (ro++objs) (.ret x) (ro++objs')) (h:runOps (XX nm nt given) draw ops K Qp rest σ' tr')
  (hf:calleeOf (σ.val gl) o.op=some (f,args):=by first|(exact sg9)|fail) (hd:dstOK (XX nm nt given) o.dst:=by exact sg3) (hg:guardV ops σ o.guard=some true:=by rfl)
  (hro:∀ n∈keysO ro,n ∉ keysO objs∧n ∉ keysO objs':=by simp [keysO])
  (h1:subO (ro++objs) σ.objs:=by first|(exact sg10)|fail) (h2:freshL ((keysO objs').filter (fun n=>(getO objs n).isNone)) σ.used:=by first|(exact sg11)|(simp [freshL,keysO,getO, *];done)|fail)
  (hσ:σ.eff o.dst (callEffR x ro objs objs')=σ':=by exact sg13) (htr:(bif draw then tr++[callEffR x ro objs objs'] else tr)=tr':=by exact sg13):runOps (XX nm nt given) draw ops K Qp (o::rest) σ tr :=
 runOps_callR (X:=XX nm nt given) hac hd hg hf hro h1 h2 hσ htr h
theorem callP {f:Nat} {args:List V} {objs:List (Nat × Ob)} {p:PV} {objs':List (Nat × Ob)} (hac:AC Tryz.prog gl f args objs (.panic p) objs') (h:Qp p σ')
  (hf:calleeOf (σ.val gl) o.op=some (f,args):=by first|(exact sg9)|fail) (hd:dstOK (XX nm nt given) o.dst:=by exact sg3) (hg:guardV ops σ o.guard=some true:=by rfl)
  (h1:subO objs σ.objs:=by first|(exact sg10)|fail) (h2:freshL ((keysO objs').filter (fun n=>(getO objs n).isNone)) σ.used:=by first|(exact sg11)|(simp [freshL,keysO,getO, *];done)|fail)
  (hσ:σ.eff none (callEff .undef objs objs')=σ':=by exact sg12):runOps (XX nm nt given) false ops K Qp (o::rest) σ tr :=
 runOps_call_panic (X:=XX nm nt given) hac hd hg hf h1 h2 hσ h
theorem pnc {x:Operand} {t:Nat} {p:PV} (h:Qp (.iface t p) σ) (ho:o.op = .panic x:=by rfl) (hd:dstOK (XX nm nt given) o.dst:=by exact sg3) (hg:guardV ops σ o.guard=some true:=by rfl) (hv:σ.val gl x = .pv (.iface t p):=by first|(exact sg3)|(exact sg7)):runOps (XX nm nt given) false ops K Qp (o::rest) σ tr :=
 runOps_panic (X:=XX nm nt given) ho hd hg hv h
theorem look {t:Nat} {mo ko:Operand} {kt vt s1 s2:Nat} {s3:Value} {s4:List PV} {tv:TI} {n:Nat} {ks:List PV} {z:PV} {D:PV→Prop} {F:PV→PV}
  (hD:D (.ptr ks)) (h:∀ b:Bool,runOps (XX nm nt given) false ops K Qp rest (σ.eff o.dst ⟨.pv (.tuple [bif b then F (.ptr ks) else z,.bool b]),[],[],[]⟩) tr)
  (ho:o.op = .lookup t mo ko true:=by rfl) (hd:dstOK (XX nm nt given) o.dst:=by exact sg3) (hg:guardV ops σ o.guard=some true:=by rfl)
  (ht:tt t=some ⟨.map kt vt,s1,s2,s3,s4⟩:=by rfl) (hv:tt vt=some tv:=by rfl) (hz:zeroPV tv=some z:=by rfl) (hm:σ.val gl mo = .map n:=by exact sg3) (hk:σ.val gl ko = .pv (.ptr ks):=by exact sg3)
  (hob:getO σ.objs n=some (.cache D F):=by exact sg3) (hni:ks.any PV.nonint=true:=by exact sg3):runOps (XX nm nt given) false ops K Qp (o::rest) σ tr :=
 runOps_look (X:=XX nm nt given) ho hd hg ht hv hz hm hk hob hD hni h
theorem lookN {t:Nat} {mo ko:Operand} {kt vt s1 s2:Nat} {s3:Value} {s4:List PV} {tv:TI} {n:Nat} {ks:List PV} {z:PV} {D:PV→Prop} {F:PV→PV}
  (hN:∀ (H:Hp) (p:PV) (v:Value),D p→RepP H p v→RepP H (.ptr ks) v→False) (h:runOps (XX nm nt given) false ops K Qp rest (σ.eff o.dst ⟨.pv (.tuple [z,.bool false]),[],[],[]⟩) tr)
  (ho:o.op = .lookup t mo ko true:=by rfl) (hd:dstOK (XX nm nt given) o.dst:=by exact sg3) (hg:guardV ops σ o.guard=some true:=by rfl)
  (ht:tt t=some ⟨.map kt vt,s1,s2,s3,s4⟩:=by rfl) (hv:tt vt=some tv:=by rfl) (hz:zeroPV tv=some z:=by rfl) (hm:σ.val gl mo = .map n:=by exact sg3) (hk:σ.val gl ko = .pv (.ptr ks):=by exact sg3)
  (hob:getO σ.objs n=some (.cache D F):=by exact sg3) (hni:ks.any PV.nonint=true:=by exact sg3):runOps (XX nm nt given) false ops K Qp (o::rest) σ tr :=
 runOps_lookN (X:=XX nm nt given) ho hd hg ht hv hz hm hk hob hN hni h
theorem lookI {t:Nat} {mo ko:Operand} {kt vt len s1 s2:Nat} {s3:Value} {s4:List PV} {r:R} {e:Eff}
  (h:runOps (XX nm nt given) draw ops K Qp rest σ' tr')
  (ho:o.op = .lookup t mo ko true:=by rfl) (hd:dstOK (XX nm nt given) o.dst:=by exact sg3) (hg:guardV ops σ o.guard=some true:=by rfl)
  (ht:tt t=some ⟨.imap kt vt len,s1,s2,s3,s4⟩:=by rfl) (hs:stepOp tt ((XX nm nt given).note o.dst) (σ.val gl) (getO σ.objs) o.dst o.op=some r:=by exact sg1)
  (hc:r.cond:=by first|(dsimp only;assumption)|exact⟨rfl,by assumption⟩|fail) (he:r.eff (rdN (σ.val gl) o.op)=e:=by exact sg1) (hw:r.wr=none:=by rfl)
  (hσ:σ.eff o.dst e=σ':=by exact sg12) (htr:(bif draw then tr++[e] else tr)=tr':=by exact sg12):runOps (XX nm nt given) draw ops K Qp (o::rest) σ tr:=by
 subst hσ htr
 exact runOps_lookI (X:=XX nm nt given) ho hd hg ht hs hc he hw h
theorem mor {c:Code} {Q:AEx→St→Prop} (n:Nat) {D F} (D':PV→Prop) (F':PV→PV) (h:AWP (XX nm nt given) c σ' Q) (hm:∀ p,D p→D' p∧F p=F' p) (hc:Coh D' F') (ho:getO σ.objs n=some (.cache D F):=by simp only [getO,↓reduceIte,Nat.reduceEqDiff])
  (hσ:(⟨σ.slots,setO σ.objs n (.cache D' F'),σ.used⟩:St)=σ':=by simp only [setO,↓reduceIte,Nat.reduceEqDiff];rfl):AWP (XX nm nt given) c σ Q:=ex_more n ho hm hc hσ h
theorem th {c:Code} {Q:AEx→St→Prop} (b i n sz ty:Nat) {cs:List V} (h:AWP (XX nm nt given) c σ' Q) (hb:getO σ.objs b=some (.box cs):=by simp only [getO,↓reduceIte,Nat.reduceEqDiff];rfl) (hi:cs[i]? = some (.pv .nils):=by rfl) (hn:n ∉ σ.used:=by simp [*])
  (hσ:(⟨σ.slots,setO (setO σ.objs n (.arr 0 sz ty [])) b (.box (cs.set i (.arr n 0 0))),n::σ.used⟩:St)=σ':=by exact sg14):AWP (XX nm nt given) c σ Q:=ex_thaw b i n sz ty hb hi hn hσ h
theorem fb {c:Code} {Q:AEx→St→Prop} (n:Nat) {ps:List PV} (h:AWP (XX nm nt given) c σ' Q) (ho:getO σ.objs n=some (.box (pvL ps)):=by simp only [getO,↓reduceIte,Nat.reduceEqDiff];rfl)
  (hσ:σ.frb n ps=σ':=by exact sg15):AWP (XX nm nt given) c σ Q:=ex_frb n ho hσ h
end
structure Bx (q:Prop):Type where
 prf:q
theorem gg {p q:Prop} (h:q) (i:Bx q→p:=by intro hq;(repeat (first|with_reducible refine ex_seq ?_|with_reducible refine ex_block ?_|with_reducible refine ex_draw ?_|with_reducible refine q_normal ?_|with_reducible refine b_normal ?_|with_reducible refine runOps_nil ?_|with_reducible refine ex_reg ?_|with_reducible refine ex_skip ?_|with_reducible refine ex_exit ?_|with_reducible refine ex_ret ?_|with_reducible refine q_exit ?_|with_reducible refine q_ret ?_|with_reducible refine q_panic ?_|with_reducible refine b_same ?_|with_reducible refine b_ret ?_|with_reducible refine b_panic ?_|refine b_other rfl ?_|refine go ?_|refine cskip ?_|refine cdt ?_|refine cdf ?_|fail));exact hq.prf):p:=i ⟨h⟩
theorem ggor {p q:Prop} (h:q) (i:Bx q→p:=by intro hq;(repeat (first|with_reducible refine ex_seq ?_|with_reducible refine ex_block ?_|with_reducible refine ex_draw ?_|with_reducible refine q_normal ?_|with_reducible refine b_normal ?_|with_reducible refine runOps_nil ?_|with_reducible refine ex_reg ?_|with_reducible refine ex_skip ?_|with_reducible refine ex_exit ?_|with_reducible refine q_exit ?_|with_reducible refine q_ret ?_|with_reducible refine q_panic ?_|with_reducible refine b_same ?_|with_reducible refine b_ret ?_|with_reducible refine b_panic ?_|refine b_other rfl ?_|refine go ?_|refine cskip ?_|refine cdt ?_|refine cdf ?_|fail));exact hq.prf):p:=i ⟨h⟩
theorem ggo1 {p q:Prop} (h:q) (i:Bx q→p:=by intro hq;(repeat (first|with_reducible refine ex_block ?_|with_reducible refine ex_draw ?_|with_reducible refine q_normal ?_|with_reducible refine b_normal ?_|with_reducible refine runOps_nil ?_|with_reducible refine ex_reg ?_|with_reducible refine ex_skip ?_|with_reducible refine ex_exit ?_|with_reducible refine ex_ret ?_|with_reducible refine q_exit ?_|with_reducible refine q_ret ?_|with_reducible refine q_panic ?_|with_reducible refine b_same ?_|with_reducible refine b_ret ?_|with_reducible refine b_panic ?_|refine b_other rfl ?_|refine go ?_|refine cskip ?_|refine cdt ?_|refine cdf ?_|fail));exact hq.prf):p:=i ⟨h⟩
theorem ggod {p q:Prop} (h:q) (i:Bx q→p:=by intro hq;(repeat (first|with_reducible refine ex_seq ?_|with_reducible refine ex_block ?_|with_reducible refine q_normal ?_|with_reducible refine b_normal ?_|with_reducible refine runOps_nil ?_|with_reducible refine ex_reg ?_|with_reducible refine ex_skip ?_|with_reducible refine ex_exit ?_|with_reducible refine ex_ret ?_|with_reducible refine q_exit ?_|with_reducible refine q_ret ?_|with_reducible refine q_panic ?_|with_reducible refine b_same ?_|with_reducible refine b_ret ?_|with_reducible refine b_panic ?_|refine b_other rfl ?_|refine go ?_|refine cskip ?_|refine cdt ?_|refine cdf ?_|fail));exact hq.prf):p:=i ⟨h⟩
theorem ggox {p q:Prop} (h:q) (i:Bx q→p:=by intro hq;(repeat (first|with_reducible refine q_normal ?_|with_reducible refine b_normal ?_|with_reducible refine runOps_nil ?_|refine go ?_|refine cskip ?_|fail));exact hq.prf):p:=i ⟨h⟩
end Go.Proofs.YtodjpfpmhjdhbaaGreatDoor
