/- Part of the proof: contracts of the types, terms, the generator and the compiler; no conditions. -/
import Derived.Test.YtodjpfpmhjdhbaaGreatDoorA4
import Derived.Test.YtodjpfpmhjdhbaaGreatDoorProg
import Derived.KernelRfl
set_option linter.unusedVariables false
set_option linter.unusedSimpArgs false
set_option linter.unusedSectionVars false
/- What the logic knows of the types of this translation, and that it is so (printed by gen_types.py). -/
namespace Go.Proofs.YtodjpfpmhjdhbaaGreatDoor
open Go.Lg
set_option maxHeartbeats 4000000
set_option maxRecDepth 10000
def tt : Nat → Option TI
  | 1 => some ⟨.func, 1, 8, .nilFunc, [.nilfn]⟩
  | 2 => some ⟨.other, 1, 8, (.int .i64 0), [.int 0]⟩
  | 3 => some ⟨.other, 1, 8, (.int .i64 0), [.int 0]⟩
  | 4 => some ⟨.bool, 1, 1, (.bool false), [.bool false]⟩
  | 15 => some ⟨.pointer, 1, 8, (.pointer none), [.nil]⟩
  | 16 => some ⟨.pointer, 1, 8, (.pointer none), [.nil]⟩
  | 17 => some ⟨.pointer, 1, 8, (.pointer none), [.nil]⟩
  | 18 => some ⟨.struct [(0, 1)], 1, 8, (.agg #[(.pointer none)]), [.nil]⟩
  | 19 => some ⟨.struct [(0, 1)], 1, 8, (.agg #[(.pointer none)]), [.nil]⟩
  | 20 => some ⟨.iface, 1, 16, .nilIface, [.nilif]⟩
  | 22 => some ⟨.slice 3, 1, 24, (.slice none 0 0), [.slice []]⟩
  | 23 => some ⟨.func, 1, 8, .nilFunc, [.nilfn]⟩
  | 24 => some ⟨.func, 1, 8, .nilFunc, [.nilfn]⟩
  | 25 => some ⟨.slice 27, 1, 24, (.slice none 0 0), [.slice []]⟩
  | 26 => some ⟨.struct [(0, 1), (1, 1)], 2, 32, (.agg #[(.int .i64 0), (.slice none 0 0)]), [.int 0, .slice []]⟩
  | 27 => some ⟨.struct [(0, 1), (1, 1)], 2, 32, (.agg #[(.int .i64 0), (.slice none 0 0)]), [.int 0, .slice []]⟩
  | 28 => some ⟨.slice 30, 1, 24, (.slice none 0 0), [.slice []]⟩
  | 29 => some ⟨.struct [(0, 1), (1, 1), (2, 2), (4, 1)], 5, 72, (.agg #[(.int .i64 0), (.int .i64 0), (.int .i64 0), (.slice none 0 0), (.slice none 0 0)]), [.int 0, .int 0, .int 0, .slice [], .slice []]⟩
  | 30 => some ⟨.struct [(0, 1), (1, 1), (2, 2), (4, 1)], 5, 72, (.agg #[(.int .i64 0), (.int .i64 0), (.int .i64 0), (.slice none 0 0), (.slice none 0 0)]), [.int 0, .int 0, .int 0, .slice [], .slice []]⟩
  | 32 => some ⟨.func, 1, 8, .nilFunc, [.nilfn]⟩
  | 33 => some ⟨.pointer, 1, 8, (.pointer none), [.nil]⟩
  | 34 => some ⟨.func, 1, 8, .nilFunc, [.nilfn]⟩
  | 35 => some ⟨.slice 70, 1, 24, (.slice none 0 0), [.slice []]⟩
  | 36 => some ⟨.other, 1, 8, (.int .i64 0), [.int 0]⟩
  | 38 => some ⟨.func, 1, 8, .nilFunc, [.nilfn]⟩
  | 39 => some ⟨.slice 41, 1, 24, (.slice none 0 0), [.slice []]⟩
  | 40 => some ⟨.struct [(0, 1), (1, 1), (2, 1), (3, 1)], 4, 64, (.agg #[(.int .i64 0), (.int .i64 0), (.slice none 0 0), (.slice none 0 0)]), [.int 0, .int 0, .slice [], .slice []]⟩
  | 41 => some ⟨.struct [(0, 1), (1, 1), (2, 1), (3, 1)], 4, 64, (.agg #[(.int .i64 0), (.int .i64 0), (.slice none 0 0), (.slice none 0 0)]), [.int 0, .int 0, .nils, .nils]⟩
  | 43 => some ⟨.func, 1, 8, .nilFunc, [.nilfn]⟩
  | 44 => some ⟨.func, 1, 8, .nilFunc, [.nilfn]⟩
  | 45 => some ⟨.slice 47, 1, 24, (.slice none 0 0), [.slice []]⟩
  | 46 => some ⟨.struct [(0, 1), (1, 1), (2, 1), (3, 1), (4, 1)], 5, 72, (.agg #[(.int .i64 0), (.int .i64 0), (.int .i64 0), (.slice none 0 0), (.slice none 0 0)]), [.int 0, .int 0, .int 0, .slice [], .slice []]⟩
  | 47 => some ⟨.struct [(0, 1), (1, 1), (2, 1), (3, 1), (4, 1)], 5, 72, (.agg #[(.int .i64 0), (.int .i64 0), (.int .i64 0), (.slice none 0 0), (.slice none 0 0)]), [.int 0, .int 0, .int 0, .nils, .nils]⟩
  | 49 => some ⟨.func, 1, 8, .nilFunc, [.nilfn]⟩
  | 51 => some ⟨.func, 1, 8, .nilFunc, [.nilfn]⟩
  | 52 => some ⟨.func, 1, 8, .nilFunc, [.nilfn]⟩
  | 54 => some ⟨.func, 1, 8, .nilFunc, [.nilfn]⟩
  | 55 => some ⟨.func, 1, 8, .nilFunc, [.nilfn]⟩
  | 56 => some ⟨.func, 1, 8, .nilFunc, [.nilfn]⟩
  | 58 => some ⟨.func, 1, 8, .nilFunc, [.nilfn]⟩
  | 59 => some ⟨.func, 1, 8, .nilFunc, [.nilfn]⟩
  | 60 => some ⟨.func, 1, 8, .nilFunc, [.nilfn]⟩
  | 61 => some ⟨.func, 1, 8, .nilFunc, [.nilfn]⟩
  | 62 => some ⟨.func, 1, 8, .nilFunc, [.nilfn]⟩
  | 63 => some ⟨.func, 1, 8, .nilFunc, [.nilfn]⟩
  | 64 => some ⟨.func, 1, 8, .nilFunc, [.nilfn]⟩
  | 65 => some ⟨.func, 1, 8, .nilFunc, [.nilfn]⟩
  | 66 => some ⟨.func, 1, 8, .nilFunc, [.nilfn]⟩
  | 68 => some ⟨.func, 1, 8, .nilFunc, [.nilfn]⟩
  | 69 => some ⟨.struct [(0, 1), (1, 1)], 2, 16, (.agg #[(.int .i64 0), (.int .i64 0)]), [.int 0, .int 0]⟩
  | 70 => some ⟨.struct [(0, 1), (1, 1)], 2, 16, (.agg #[(.int .i64 0), (.int .i64 0)]), [.int 0, .int 0]⟩
  | 72 => some ⟨.func, 1, 8, .nilFunc, [.nilfn]⟩
  | 73 => some ⟨.func, 1, 8, .nilFunc, [.nilfn]⟩
  | 74 => some ⟨.func, 1, 8, .nilFunc, [.nilfn]⟩
  | 75 => some ⟨.struct [(0, 1), (1, 1)], 2, 32, (.agg #[(.slice none 0 0), (.int .i64 0)]), [.slice [], .int 0]⟩
  | 76 => some ⟨.struct [(0, 1), (1, 1)], 2, 32, (.agg #[(.slice none 0 0), (.int .i64 0)]), [.slice [], .int 0]⟩
  | 77 => some ⟨.func, 1, 8, .nilFunc, [.nilfn]⟩
  | 78 => some ⟨.pointer, 1, 8, (.pointer none), [.nil]⟩
  | 79 => some ⟨.struct [(0, 1), (1, 1), (2, 1)], 3, 72, (.agg #[(.slice none 0 0), (.slice none 0 0), (.slice none 0 0)]), [.slice [], .slice [], .slice []]⟩
  | 80 => some ⟨.struct [(0, 1), (1, 1), (2, 1)], 3, 72, (.agg #[(.slice none 0 0), (.slice none 0 0), (.slice none 0 0)]), [.nils, .nils, .nils]⟩
  | 81 => some ⟨.func, 1, 8, .nilFunc, [.nilfn]⟩
  | 82 => some ⟨.func, 1, 8, .nilFunc, [.nilfn]⟩
  | 83 => some ⟨.func, 1, 8, .nilFunc, [.nilfn]⟩
  | 84 => some ⟨.pointer, 1, 8, (.pointer none), [.nil]⟩
  | 85 => some ⟨.func, 1, 8, .nilFunc, [.nilfn]⟩
  | 86 => some ⟨.func, 1, 8, .nilFunc, [.nilfn]⟩
  | 87 => some ⟨.slice 132, 1, 24, (.slice none 0 0), [.slice []]⟩
  | 88 => some ⟨.slice 206, 1, 24, (.slice none 0 0), [.slice []]⟩
  | 89 => some ⟨.pointer, 1, 8, (.pointer none), [.nil]⟩
  | 90 => some ⟨.struct [(0, 1), (1, 1), (2, 1), (3, 1), (4, 1), (5, 1), (6, 1), (7, 1), (8, 1)], 9, 120, (.agg #[(.slice none 0 0), (.int .i64 0), (.int .i64 0), .nilFunc, .nilFunc, (.slice none 0 0), (.slice none 0 0), (.int .i64 0), (.pointer none)]), [.slice [], .int 0, .int 0, .nilfn, .nilfn, .slice [], .slice [], .int 0, .nil]⟩
  | 91 => some ⟨.struct [(0, 1), (1, 1), (2, 1), (3, 1), (4, 1), (5, 1), (6, 1), (7, 1), (8, 1)], 9, 120, (.agg #[(.slice none 0 0), (.int .i64 0), (.int .i64 0), .nilFunc, .nilFunc, (.slice none 0 0), (.slice none 0 0), (.int .i64 0), (.pointer none)]), [.nils, .int 0, .int 0, .nilfn, .nilfn, .nils, .nils, .int 0, .nil]⟩
  | 92 => some ⟨.func, 1, 8, .nilFunc, [.nilfn]⟩
  | 93 => some ⟨.func, 1, 8, .nilFunc, [.nilfn]⟩
  | 94 => some ⟨.pointer, 1, 8, (.pointer none), [.nil]⟩
  | 95 => some ⟨.func, 1, 8, .nilFunc, [.nilfn]⟩
  | 96 => some ⟨.func, 1, 8, .nilFunc, [.nilfn]⟩
  | 97 => some ⟨.func, 1, 8, .nilFunc, [.nilfn]⟩
  | 99 => some ⟨.func, 1, 8, .nilFunc, [.nilfn]⟩
  | 100 => some ⟨.func, 1, 8, .nilFunc, [.nilfn]⟩
  | 101 => some ⟨.func, 1, 8, .nilFunc, [.nilfn]⟩
  | 103 => some ⟨.func, 1, 8, .nilFunc, [.nilfn]⟩
  | 104 => some ⟨.pointer, 1, 8, (.pointer none), [.nil]⟩
  | 105 => some ⟨.struct [(0, 1), (1, 1), (2, 1)], 3, 24, (.agg #[(.int .i64 0), (.int .i64 0), (.bool false)]), [.int 0, .int 0, .bool false]⟩
  | 106 => some ⟨.struct [(0, 1), (1, 1), (2, 1)], 3, 24, (.agg #[(.int .i64 0), (.int .i64 0), (.bool false)]), [.int 0, .int 0, .bool false]⟩
  | 107 => some ⟨.slice 109, 1, 24, (.slice none 0 0), [.slice []]⟩
  | 108 => some ⟨.struct [(0, 1), (1, 1), (2, 1), (3, 5), (8, 1)], 9, 152, (.agg #[(.int .i64 0), (.slice none 0 0), (.slice none 0 0), (.int .i64 0), (.int .i64 0), (.int .i64 0), (.slice none 0 0), (.slice none 0 0), (.slice none 0 0)]), [.int 0, .slice [], .slice [], .int 0, .int 0, .int 0, .slice [], .slice [], .slice []]⟩
  | 109 => some ⟨.struct [(0, 1), (1, 1), (2, 1), (3, 5), (8, 1)], 9, 152, (.agg #[(.int .i64 0), (.slice none 0 0), (.slice none 0 0), (.int .i64 0), (.int .i64 0), (.int .i64 0), (.slice none 0 0), (.slice none 0 0), (.slice none 0 0)]), [.int 0, .slice [], .slice [], .int 0, .int 0, .int 0, .slice [], .slice [], .slice []]⟩
  | 110 => some ⟨.func, 1, 8, .nilFunc, [.nilfn]⟩
  | 111 => some ⟨.func, 1, 8, .nilFunc, [.nilfn]⟩
  | 112 => some ⟨.func, 1, 8, .nilFunc, [.nilfn]⟩
  | 113 => some ⟨.func, 1, 8, .nilFunc, [.nilfn]⟩
  | 115 => some ⟨.func, 1, 8, .nilFunc, [.nilfn]⟩
  | 116 => some ⟨.func, 1, 8, .nilFunc, [.nilfn]⟩
  | 117 => some ⟨.func, 1, 8, .nilFunc, [.nilfn]⟩
  | 118 => some ⟨.pointer, 1, 8, (.pointer none), [.nil]⟩
  | 120 => some ⟨.func, 1, 8, .nilFunc, [.nilfn]⟩
  | 122 => some ⟨.map 132 3, 1, 8, (.map none), [.nilm]⟩
  | 123 => some ⟨.map 163 3, 1, 8, (.map none), [.nilm]⟩
  | 124 => some ⟨.map 89 3, 1, 8, (.map none), [.nilm]⟩
  | 126 => some ⟨.struct [(0, 1), (1, 1), (2, 1), (3, 1), (4, 1), (5, 1)], 6, 48, (.agg #[(.map none), (.map none), (.map none), (.map none), (.map none), (.int .i64 0)]), [.nilm, .nilm, .nilm, .nilm, .nilm, .int 0]⟩
  | 127 => some ⟨.struct [(0, 1), (1, 1), (2, 1), (3, 1), (4, 1), (5, 1)], 6, 48, (.agg #[(.map none), (.map none), (.map none), (.map none), (.map none), (.int .i64 0)]), [.nilm, .nilm, .nilm, .nilm, .nilm, .int 0]⟩
  | 129 => some ⟨.func, 1, 8, .nilFunc, [.nilfn]⟩
  | 130 => some ⟨.func, 1, 8, .nilFunc, [.nilfn]⟩
  | 131 => some ⟨.func, 1, 8, .nilFunc, [.nilfn]⟩
  | 132 => some ⟨.pointer, 1, 8, (.pointer none), [.nil]⟩
  | 133 => some ⟨.func, 1, 8, .nilFunc, [.nilfn]⟩
  | 134 => some ⟨.func, 1, 8, .nilFunc, [.nilfn]⟩
  | 135 => some ⟨.func, 1, 8, .nilFunc, [.nilfn]⟩
  | 136 => some ⟨.func, 1, 8, .nilFunc, [.nilfn]⟩
  | 137 => some ⟨.func, 1, 8, .nilFunc, [.nilfn]⟩
  | 138 => some ⟨.func, 1, 8, .nilFunc, [.nilfn]⟩
  | 139 => some ⟨.func, 1, 8, .nilFunc, [.nilfn]⟩
  | 140 => some ⟨.func, 1, 8, .nilFunc, [.nilfn]⟩
  | 141 => some ⟨.func, 1, 8, .nilFunc, [.nilfn]⟩
  | 142 => some ⟨.func, 1, 8, .nilFunc, [.nilfn]⟩
  | 144 => some ⟨.func, 1, 8, .nilFunc, [.nilfn]⟩
  | 146 => some ⟨.func, 1, 8, .nilFunc, [.nilfn]⟩
  | 147 => some ⟨.func, 1, 8, .nilFunc, [.nilfn]⟩
  | 148 => some ⟨.func, 1, 8, .nilFunc, [.nilfn]⟩
  | 149 => some ⟨.func, 1, 8, .nilFunc, [.nilfn]⟩
  | 150 => some ⟨.func, 1, 8, .nilFunc, [.nilfn]⟩
  | 151 => some ⟨.func, 1, 8, .nilFunc, [.nilfn]⟩
  | 152 => some ⟨.pointer, 1, 8, (.pointer none), [.nil]⟩
  | 153 => some ⟨.slice 186, 1, 24, (.slice none 0 0), [.slice []]⟩
  | 154 => some ⟨.struct [(0, 1), (1, 1), (2, 1), (3, 1), (4, 1), (5, 1), (6, 1)], 7, 88, (.agg #[(.slice none 0 0), (.int .i64 0), (.int .i64 0), (.int .i64 0), (.bool false), (.slice none 0 0), (.int .i64 0)]), [.slice [], .int 0, .int 0, .int 0, .bool false, .slice [], .int 0]⟩
  | 155 => some ⟨.struct [(0, 1), (1, 1), (2, 1), (3, 1), (4, 1), (5, 1), (6, 1)], 7, 88, (.agg #[(.slice none 0 0), (.int .i64 0), (.int .i64 0), (.int .i64 0), (.bool false), (.slice none 0 0), (.int .i64 0)]), [.nils, .int 0, .int 0, .int 0, .bool false, .nils, .int 0]⟩
  | 156 => some ⟨.func, 1, 8, .nilFunc, [.nilfn]⟩
  | 157 => some ⟨.func, 1, 8, .nilFunc, [.nilfn]⟩
  | 158 => some ⟨.func, 1, 8, .nilFunc, [.nilfn]⟩
  | 159 => some ⟨.func, 1, 8, .nilFunc, [.nilfn]⟩
  | 160 => some ⟨.func, 1, 8, .nilFunc, [.nilfn]⟩
  | 161 => some ⟨.map 132 47, 1, 8, (.map none), [.nilm]⟩
  | 163 => some ⟨.pointer, 1, 8, (.pointer none), [.nil]⟩
  | 164 => some ⟨.array 2 132, 2, 16, (.agg #[(.pointer none), (.pointer none)]), [.nil, .nil]⟩
  | 165 => some ⟨.struct [(0, 1), (1, 1), (2, 1), (3, 2), (5, 1), (6, 1), (7, 1), (8, 1)], 9, 72, (.agg #[(.int .i64 0), (.int .i64 0), (.pointer none), (.pointer none), (.pointer none), (.int .i64 0), (.pointer none), (.int .i64 0), (.bool false)]), [.int 0, .int 0, .nil, .nil, .nil, .int 0, .nil, .int 0, .bool false]⟩
  | 166 => some ⟨.struct [(0, 1), (1, 1), (2, 1), (3, 2), (5, 1), (6, 1), (7, 1), (8, 1)], 9, 72, (.agg #[(.int .i64 0), (.int .i64 0), (.pointer none), (.pointer none), (.pointer none), (.int .i64 0), (.pointer none), (.int .i64 0), (.bool false)]), [.int 0, .int 0, .nil, .nil, .nil, .int 0, .nil, .int 0, .bool false]⟩
  | 167 => some ⟨.struct [(0, 1), (1, 1), (2, 1)], 3, 24, (.agg #[(.int .i64 0), (.int .i64 0), (.pointer none)]), [.int 0, .int 0, .nil]⟩
  | 168 => some ⟨.struct [(0, 1), (1, 1), (2, 1)], 3, 24, (.agg #[(.int .i64 0), (.int .i64 0), (.pointer none)]), [.int 0, .int 0, .nil]⟩
  | 169 => some ⟨.func, 1, 8, .nilFunc, [.nilfn]⟩
  | 170 => some ⟨.struct [(0, 1), (1, 1), (2, 1), (3, 1), (4, 1)], 5, 40, (.agg #[(.pointer none), (.int .i64 0), (.int .i64 0), (.bool false), (.pointer none)]), [.nil, .int 0, .int 0, .bool false, .nil]⟩
  | 171 => some ⟨.struct [(0, 1), (1, 1), (2, 1), (3, 1), (4, 1)], 5, 40, (.agg #[(.pointer none), (.int .i64 0), (.int .i64 0), (.bool false), (.pointer none)]), [.nil, .int 0, .int 0, .bool false, .nil]⟩
  | 172 => some ⟨.func, 1, 8, .nilFunc, [.nilfn]⟩
  | 173 => some ⟨.func, 1, 8, .nilFunc, [.nilfn]⟩
  | 174 => some ⟨.func, 1, 8, .nilFunc, [.nilfn]⟩
  | 175 => some ⟨.func, 1, 8, .nilFunc, [.nilfn]⟩
  | 177 => some ⟨.func, 1, 8, .nilFunc, [.nilfn]⟩
  | 178 => some ⟨.struct [(0, 1)], 1, 8, (.agg #[(.int .i64 0)]), [.int 0]⟩
  | 179 => some ⟨.struct [(0, 1)], 1, 8, (.agg #[(.int .i64 0)]), [.int 0]⟩
  | 180 => some ⟨.func, 1, 8, .nilFunc, [.nilfn]⟩
  | 181 => some ⟨.func, 1, 8, .nilFunc, [.nilfn]⟩
  | 182 => some ⟨.func, 1, 8, .nilFunc, [.nilfn]⟩
  | 183 => some ⟨.func, 1, 8, .nilFunc, [.nilfn]⟩
  | 184 => some ⟨.func, 1, 8, .nilFunc, [.nilfn]⟩
  | 185 => some ⟨.struct [(0, 5), (5, 5), (10, 5)], 15, 216, (.agg #[(.int .i64 0), (.int .i64 0), (.int .i64 0), (.slice none 0 0), (.slice none 0 0), (.int .i64 0), (.int .i64 0), (.int .i64 0), (.slice none 0 0), (.slice none 0 0), (.int .i64 0), (.int .i64 0), (.int .i64 0), (.slice none 0 0), (.slice none 0 0)]), [.int 0, .int 0, .int 0, .slice [], .slice [], .int 0, .int 0, .int 0, .slice [], .slice [], .int 0, .int 0, .int 0, .slice [], .slice []]⟩
  | 186 => some ⟨.struct [(0, 5), (5, 5), (10, 5)], 15, 216, (.agg #[(.int .i64 0), (.int .i64 0), (.int .i64 0), (.slice none 0 0), (.slice none 0 0), (.int .i64 0), (.int .i64 0), (.int .i64 0), (.slice none 0 0), (.slice none 0 0), (.int .i64 0), (.int .i64 0), (.int .i64 0), (.slice none 0 0), (.slice none 0 0)]), [.int 0, .int 0, .int 0, .slice [], .slice [], .int 0, .int 0, .int 0, .slice [], .slice [], .int 0, .int 0, .int 0, .slice [], .slice []]⟩
  | 188 => some ⟨.array 2 3, 2, 16, (.agg #[(.int .i64 0), (.int .i64 0)]), [.int 0, .int 0]⟩
  | 189 => some ⟨.func, 1, 8, .nilFunc, [.nilfn]⟩
  | 190 => some ⟨.struct [(0, 1), (1, 1)], 2, 16, (.agg #[(.int .i64 0), (.int .i64 0)]), [.int 0, .int 0]⟩
  | 191 => some ⟨.struct [(0, 1), (1, 1)], 2, 16, (.agg #[(.int .i64 0), (.int .i64 0)]), [.int 0, .int 0]⟩
  | 192 => some ⟨.array 14 191, 28, 224, (.agg #[(.int .i64 0), (.int .i64 0), (.int .i64 0), (.int .i64 0), (.int .i64 0), (.int .i64 0), (.int .i64 0), (.int .i64 0), (.int .i64 0), (.int .i64 0), (.int .i64 0), (.int .i64 0), (.int .i64 0), (.int .i64 0), (.int .i64 0), (.int .i64 0), (.int .i64 0), (.int .i64 0), (.int .i64 0), (.int .i64 0), (.int .i64 0), (.int .i64 0), (.int .i64 0), (.int .i64 0), (.int .i64 0), (.int .i64 0), (.int .i64 0), (.int .i64 0)]), [.int 0, .int 0, .int 0, .int 0, .int 0, .int 0, .int 0, .int 0, .int 0, .int 0, .int 0, .int 0, .int 0, .int 0, .int 0, .int 0, .int 0, .int 0, .int 0, .int 0, .int 0, .int 0, .int 0, .int 0, .int 0, .int 0, .int 0, .int 0]⟩
  | 193 => some ⟨.func, 1, 8, .nilFunc, [.nilfn]⟩
  | 194 => some ⟨.func, 1, 8, .nilFunc, [.nilfn]⟩
  | 195 => some ⟨.func, 1, 8, .nilFunc, [.nilfn]⟩
  | 196 => some ⟨.func, 1, 8, .nilFunc, [.nilfn]⟩
  | 197 => some ⟨.func, 1, 8, .nilFunc, [.nilfn]⟩
  | 198 => some ⟨.pointer, 1, 8, (.pointer none), [.nil]⟩
  | 199 => some ⟨.func, 1, 8, .nilFunc, [.nilfn]⟩
  | 201 => some ⟨.func, 1, 8, .nilFunc, [.nilfn]⟩
  | 202 => some ⟨.slice 87, 1, 24, (.slice none 0 0), [.slice []]⟩
  | 203 => some ⟨.struct [(0, 1), (1, 1), (2, 1), (3, 1), (4, 1), (5, 1)], 6, 80, (.agg #[(.pointer none), (.int .i64 0), (.slice none 0 0), (.int .i64 0), (.pointer none), (.slice none 0 0)]), [.nil, .int 0, .slice [], .int 0, .nil, .slice []]⟩
  | 204 => some ⟨.struct [(0, 1), (1, 1), (2, 1), (3, 1), (4, 1), (5, 1)], 6, 80, (.agg #[(.pointer none), (.int .i64 0), (.slice none 0 0), (.int .i64 0), (.pointer none), (.slice none 0 0)]), [.nil, .int 0, .nils, .int 0, .nil, .nils]⟩
  | 205 => some ⟨.struct [(0, 1), (1, 1), (2, 1), (3, 1), (4, 1)], 5, 40, (.agg #[(.int .i64 0), (.pointer none), (.pointer none), (.pointer none), (.pointer none)]), [.int 0, .nil, .nil, .nil, .nil]⟩
  | 206 => some ⟨.struct [(0, 1), (1, 1), (2, 1), (3, 1), (4, 1)], 5, 40, (.agg #[(.int .i64 0), (.pointer none), (.pointer none), (.pointer none), (.pointer none)]), [.int 0, .nil, .nil, .nil, .nil]⟩
  | 207 => some ⟨.func, 1, 8, .nilFunc, [.nilfn]⟩
  | 208 => some ⟨.func, 1, 8, .nilFunc, [.nilfn]⟩
  | 209 => some ⟨.func, 1, 8, .nilFunc, [.nilfn]⟩
  | 210 => some ⟨.func, 1, 8, .nilFunc, [.nilfn]⟩
  | 212 => some ⟨.func, 1, 8, .nilFunc, [.nilfn]⟩
  | 213 => some ⟨.func, 1, 8, .nilFunc, [.nilfn]⟩
  | 214 => some ⟨.func, 1, 8, .nilFunc, [.nilfn]⟩
  | 215 => some ⟨.func, 1, 8, .nilFunc, [.nilfn]⟩
  | 216 => some ⟨.func, 1, 8, .nilFunc, [.nilfn]⟩
  | 217 => some ⟨.func, 1, 8, .nilFunc, [.nilfn]⟩
  | 218 => some ⟨.func, 1, 8, .nilFunc, [.nilfn]⟩
  | 219 => some ⟨.func, 1, 8, .nilFunc, [.nilfn]⟩
  | 220 => some ⟨.slice 163, 1, 24, (.slice none 0 0), [.slice []]⟩
  | 222 => some ⟨.func, 1, 8, .nilFunc, [.nilfn]⟩
  | 223 => some ⟨.func, 1, 8, .nilFunc, [.nilfn]⟩
  | 225 => some ⟨.func, 1, 8, .nilFunc, [.nilfn]⟩
  | 226 => some ⟨.func, 1, 8, .nilFunc, [.nilfn]⟩
  | 227 => some ⟨.struct [(0, 1), (1, 1), (2, 1)], 3, 24, (.agg #[(.int .i64 0), (.int .i64 0), (.int .i64 0)]), [.int 0, .int 0, .int 0]⟩
  | 228 => some ⟨.struct [(0, 1), (1, 1), (2, 1)], 3, 24, (.agg #[(.int .i64 0), (.int .i64 0), (.int .i64 0)]), [.int 0, .int 0, .int 0]⟩
  | 229 => some ⟨.func, 1, 8, .nilFunc, [.nilfn]⟩
  | 230 => some ⟨.func, 1, 8, .nilFunc, [.nilfn]⟩
  | 231 => some ⟨.func, 1, 8, .nilFunc, [.nilfn]⟩
  | 232 => some ⟨.func, 1, 8, .nilFunc, [.nilfn]⟩
  | 235 => some ⟨.array 0 16, 0, 0, (.agg #[]), []⟩
  | 236 => some ⟨.struct [(0, 0)], 0, 0, (.agg #[]), []⟩
  | 237 => some ⟨.struct [(0, 0)], 0, 0, (.agg #[]), []⟩
  | 241 => some ⟨.func, 1, 8, .nilFunc, [.nilfn]⟩
  | 242 => some ⟨.pointer, 1, 8, (.pointer none), [.nil]⟩
  | _ => none
def opsP : List PV := [.int 0, .int 0, .int 0, .int 1, .int 0, .int 2, .int 2, .int 3, .int 0, .int 4, .int 1, .int 5, .int 3, .int 6, .int 0, .int 7, .int 2, .int 8, .int 3, .int 9, .int 2, .int 10, .int 1, .int 11, .int 1, .int 12, .int 0, .int 13]
def gl : Nat → Option (List PV)
  | 0 => some opsP
  | _ => none
theorem gl0 : gl 0 = some opsP := rfl
theorem mixed : Tryz.prog.follows .mixedOrders = true := by kernel_rfl
theorem ti1 : TIOK Tryz.prog 1 ⟨.func, 1, 8, .nilFunc, [.nilfn]⟩ :=
  TIOK.mk' (by kernel_rfl) Tryz.underlying1 ⟨_, _, _, rfl⟩ rfl (by simp [RepL, RepP, Value.cells, maxLen]) rfl (.inr (by kernel_rfl))
theorem ti2 : TIOK Tryz.prog 2 ⟨.other, 1, 8, (.int .i64 0), [.int 0]⟩ :=
  TIOK.mk' (by kernel_rfl) Tryz.underlying2 trivial rfl (by simp [RepL, RepP, Value.cells, maxLen]) rfl (.inr (by kernel_rfl))
theorem ti3 : TIOK Tryz.prog 3 ⟨.other, 1, 8, (.int .i64 0), [.int 0]⟩ :=
  TIOK.mk' (by kernel_rfl) Tryz.underlying3 trivial rfl (by simp [RepL, RepP, Value.cells, maxLen]) rfl (.inr (by kernel_rfl))
theorem ti4 : TIOK Tryz.prog 4 ⟨.bool, 1, 1, (.bool false), [.bool false]⟩ :=
  TIOK.mk' (by kernel_rfl) Tryz.underlying4 rfl rfl (by simp [RepL, RepP, Value.cells, maxLen]) rfl (.inr (by kernel_rfl))
theorem ti15 : TIOK Tryz.prog 15 ⟨.pointer, 1, 8, (.pointer none), [.nil]⟩ :=
  TIOK.mk' (by kernel_rfl) Tryz.underlying15 ⟨_, rfl⟩ rfl (by simp [RepL, RepP, Value.cells, maxLen]) rfl (.inr (by kernel_rfl))
theorem ti16 : TIOK Tryz.prog 16 ⟨.pointer, 1, 8, (.pointer none), [.nil]⟩ :=
  TIOK.mk' (by kernel_rfl) Tryz.underlying16 ⟨_, rfl⟩ rfl (by simp [RepL, RepP, Value.cells, maxLen]) rfl (.inr (by kernel_rfl))
theorem ti17 : TIOK Tryz.prog 17 ⟨.pointer, 1, 8, (.pointer none), [.nil]⟩ :=
  TIOK.mk' (by kernel_rfl) Tryz.underlying17 ⟨_, rfl⟩ rfl (by simp [RepL, RepP, Value.cells, maxLen]) rfl (.inr (by kernel_rfl))
theorem ti18 : TIOK Tryz.prog 18 ⟨.struct [(0, 1)], 1, 8, (.agg #[(.pointer none)]), [.nil]⟩ :=
  TIOK.mk' (by kernel_rfl) Tryz.underlying18 ⟨_, rfl, by kernel_rfl⟩ rfl (by simp [RepL, RepP, Value.cells, maxLen]) rfl (.inr (by kernel_rfl))
theorem ti19 : TIOK Tryz.prog 19 ⟨.struct [(0, 1)], 1, 8, (.agg #[(.pointer none)]), [.nil]⟩ :=
  TIOK.mk' (by kernel_rfl) Tryz.underlying19 ⟨_, rfl, by kernel_rfl⟩ rfl (by simp [RepL, RepP, Value.cells, maxLen]) rfl (.inr (by kernel_rfl))
theorem ti20 : TIOK Tryz.prog 20 ⟨.iface, 1, 16, .nilIface, [.nilif]⟩ :=
  TIOK.mk' (by kernel_rfl) Tryz.underlying20 ⟨_, rfl⟩ rfl (by simp [RepL, RepP, Value.cells, maxLen]) rfl (.inl rfl)
theorem ti22 : TIOK Tryz.prog 22 ⟨.slice 3, 1, 24, (.slice none 0 0), [.slice []]⟩ :=
  TIOK.mk' (by kernel_rfl) Tryz.underlying22 rfl rfl (by simp [RepL, RepP, Value.cells, maxLen]) rfl (.inr (by kernel_rfl))
theorem ti23 : TIOK Tryz.prog 23 ⟨.func, 1, 8, .nilFunc, [.nilfn]⟩ :=
  TIOK.mk' (by kernel_rfl) Tryz.underlying23 ⟨_, _, _, rfl⟩ rfl (by simp [RepL, RepP, Value.cells, maxLen]) rfl (.inr (by kernel_rfl))
theorem ti24 : TIOK Tryz.prog 24 ⟨.func, 1, 8, .nilFunc, [.nilfn]⟩ :=
  TIOK.mk' (by kernel_rfl) Tryz.underlying24 ⟨_, _, _, rfl⟩ rfl (by simp [RepL, RepP, Value.cells, maxLen]) rfl (.inr (by kernel_rfl))
theorem ti25 : TIOK Tryz.prog 25 ⟨.slice 27, 1, 24, (.slice none 0 0), [.slice []]⟩ :=
  TIOK.mk' (by kernel_rfl) Tryz.underlying25 rfl rfl (by simp [RepL, RepP, Value.cells, maxLen]) rfl (.inr (by kernel_rfl))
theorem ti26 : TIOK Tryz.prog 26 ⟨.struct [(0, 1), (1, 1)], 2, 32, (.agg #[(.int .i64 0), (.slice none 0 0)]), [.int 0, .slice []]⟩ :=
  TIOK.mk' (by kernel_rfl) Tryz.underlying26 ⟨_, rfl, by kernel_rfl⟩ rfl (by simp [RepL, RepP, Value.cells, maxLen]) rfl (.inr (by kernel_rfl))
theorem ti27 : TIOK Tryz.prog 27 ⟨.struct [(0, 1), (1, 1)], 2, 32, (.agg #[(.int .i64 0), (.slice none 0 0)]), [.int 0, .slice []]⟩ :=
  TIOK.mk' (by kernel_rfl) Tryz.underlying27 ⟨_, rfl, by kernel_rfl⟩ rfl (by simp [RepL, RepP, Value.cells, maxLen]) rfl (.inr (by kernel_rfl))
theorem ti28 : TIOK Tryz.prog 28 ⟨.slice 30, 1, 24, (.slice none 0 0), [.slice []]⟩ :=
  TIOK.mk' (by kernel_rfl) Tryz.underlying28 rfl rfl (by simp [RepL, RepP, Value.cells, maxLen]) rfl (.inr (by kernel_rfl))
theorem ti29 : TIOK Tryz.prog 29 ⟨.struct [(0, 1), (1, 1), (2, 2), (4, 1)], 5, 72, (.agg #[(.int .i64 0), (.int .i64 0), (.int .i64 0), (.slice none 0 0), (.slice none 0 0)]), [.int 0, .int 0, .int 0, .slice [], .slice []]⟩ :=
  TIOK.mk' (by kernel_rfl) Tryz.underlying29 ⟨_, rfl, by kernel_rfl⟩ rfl (by simp [RepL, RepP, Value.cells, maxLen]) rfl (.inr (by kernel_rfl))
theorem ti30 : TIOK Tryz.prog 30 ⟨.struct [(0, 1), (1, 1), (2, 2), (4, 1)], 5, 72, (.agg #[(.int .i64 0), (.int .i64 0), (.int .i64 0), (.slice none 0 0), (.slice none 0 0)]), [.int 0, .int 0, .int 0, .slice [], .slice []]⟩ :=
  TIOK.mk' (by kernel_rfl) Tryz.underlying30 ⟨_, rfl, by kernel_rfl⟩ rfl (by simp [RepL, RepP, Value.cells, maxLen]) rfl (.inr (by kernel_rfl))
theorem ti32 : TIOK Tryz.prog 32 ⟨.func, 1, 8, .nilFunc, [.nilfn]⟩ :=
  TIOK.mk' (by kernel_rfl) Tryz.underlying32 ⟨_, _, _, rfl⟩ rfl (by simp [RepL, RepP, Value.cells, maxLen]) rfl (.inr (by kernel_rfl))
theorem ti33 : TIOK Tryz.prog 33 ⟨.pointer, 1, 8, (.pointer none), [.nil]⟩ :=
  TIOK.mk' (by kernel_rfl) Tryz.underlying33 ⟨_, rfl⟩ rfl (by simp [RepL, RepP, Value.cells, maxLen]) rfl (.inr (by kernel_rfl))
theorem ti34 : TIOK Tryz.prog 34 ⟨.func, 1, 8, .nilFunc, [.nilfn]⟩ :=
  TIOK.mk' (by kernel_rfl) Tryz.underlying34 ⟨_, _, _, rfl⟩ rfl (by simp [RepL, RepP, Value.cells, maxLen]) rfl (.inr (by kernel_rfl))
theorem ti35 : TIOK Tryz.prog 35 ⟨.slice 70, 1, 24, (.slice none 0 0), [.slice []]⟩ :=
  TIOK.mk' (by kernel_rfl) Tryz.underlying35 rfl rfl (by simp [RepL, RepP, Value.cells, maxLen]) rfl (.inr (by kernel_rfl))
theorem ti36 : TIOK Tryz.prog 36 ⟨.other, 1, 8, (.int .i64 0), [.int 0]⟩ :=
  TIOK.mk' (by kernel_rfl) Tryz.underlying36 trivial rfl (by simp [RepL, RepP, Value.cells, maxLen]) rfl (.inr (by kernel_rfl))
theorem ti38 : TIOK Tryz.prog 38 ⟨.func, 1, 8, .nilFunc, [.nilfn]⟩ :=
  TIOK.mk' (by kernel_rfl) Tryz.underlying38 ⟨_, _, _, rfl⟩ rfl (by simp [RepL, RepP, Value.cells, maxLen]) rfl (.inr (by kernel_rfl))
theorem ti39 : TIOK Tryz.prog 39 ⟨.slice 41, 1, 24, (.slice none 0 0), [.slice []]⟩ :=
  TIOK.mk' (by kernel_rfl) Tryz.underlying39 rfl rfl (by simp [RepL, RepP, Value.cells, maxLen]) rfl (.inr (by kernel_rfl))
theorem ti40 : TIOK Tryz.prog 40 ⟨.struct [(0, 1), (1, 1), (2, 1), (3, 1)], 4, 64, (.agg #[(.int .i64 0), (.int .i64 0), (.slice none 0 0), (.slice none 0 0)]), [.int 0, .int 0, .slice [], .slice []]⟩ :=
  TIOK.mk' (by kernel_rfl) Tryz.underlying40 ⟨_, rfl, by kernel_rfl⟩ rfl (by simp [RepL, RepP, Value.cells, maxLen]) rfl (.inr (by kernel_rfl))
theorem ti41 : TIOK Tryz.prog 41 ⟨.struct [(0, 1), (1, 1), (2, 1), (3, 1)], 4, 64, (.agg #[(.int .i64 0), (.int .i64 0), (.slice none 0 0), (.slice none 0 0)]), [.int 0, .int 0, .nils, .nils]⟩ :=
  TIOK.mk' (by kernel_rfl) Tryz.underlying41 ⟨_, rfl, by kernel_rfl⟩ rfl (by simp [RepL, RepP, Value.cells, maxLen]) rfl (.inr (by kernel_rfl))
theorem ti43 : TIOK Tryz.prog 43 ⟨.func, 1, 8, .nilFunc, [.nilfn]⟩ :=
  TIOK.mk' (by kernel_rfl) Tryz.underlying43 ⟨_, _, _, rfl⟩ rfl (by simp [RepL, RepP, Value.cells, maxLen]) rfl (.inr (by kernel_rfl))
theorem ti44 : TIOK Tryz.prog 44 ⟨.func, 1, 8, .nilFunc, [.nilfn]⟩ :=
  TIOK.mk' (by kernel_rfl) Tryz.underlying44 ⟨_, _, _, rfl⟩ rfl (by simp [RepL, RepP, Value.cells, maxLen]) rfl (.inr (by kernel_rfl))
theorem ti45 : TIOK Tryz.prog 45 ⟨.slice 47, 1, 24, (.slice none 0 0), [.slice []]⟩ :=
  TIOK.mk' (by kernel_rfl) Tryz.underlying45 rfl rfl (by simp [RepL, RepP, Value.cells, maxLen]) rfl (.inr (by kernel_rfl))
theorem ti46 : TIOK Tryz.prog 46 ⟨.struct [(0, 1), (1, 1), (2, 1), (3, 1), (4, 1)], 5, 72, (.agg #[(.int .i64 0), (.int .i64 0), (.int .i64 0), (.slice none 0 0), (.slice none 0 0)]), [.int 0, .int 0, .int 0, .slice [], .slice []]⟩ :=
  TIOK.mk' (by kernel_rfl) Tryz.underlying46 ⟨_, rfl, by kernel_rfl⟩ rfl (by simp [RepL, RepP, Value.cells, maxLen]) rfl (.inr (by kernel_rfl))
theorem ti47 : TIOK Tryz.prog 47 ⟨.struct [(0, 1), (1, 1), (2, 1), (3, 1), (4, 1)], 5, 72, (.agg #[(.int .i64 0), (.int .i64 0), (.int .i64 0), (.slice none 0 0), (.slice none 0 0)]), [.int 0, .int 0, .int 0, .nils, .nils]⟩ :=
  TIOK.mk' (by kernel_rfl) Tryz.underlying47 ⟨_, rfl, by kernel_rfl⟩ rfl (by simp [RepL, RepP, Value.cells, maxLen]) rfl (.inr (by kernel_rfl))
theorem ti49 : TIOK Tryz.prog 49 ⟨.func, 1, 8, .nilFunc, [.nilfn]⟩ :=
  TIOK.mk' (by kernel_rfl) Tryz.underlying49 ⟨_, _, _, rfl⟩ rfl (by simp [RepL, RepP, Value.cells, maxLen]) rfl (.inr (by kernel_rfl))
theorem ti51 : TIOK Tryz.prog 51 ⟨.func, 1, 8, .nilFunc, [.nilfn]⟩ :=
  TIOK.mk' (by kernel_rfl) Tryz.underlying51 ⟨_, _, _, rfl⟩ rfl (by simp [RepL, RepP, Value.cells, maxLen]) rfl (.inr (by kernel_rfl))
theorem ti52 : TIOK Tryz.prog 52 ⟨.func, 1, 8, .nilFunc, [.nilfn]⟩ :=
  TIOK.mk' (by kernel_rfl) Tryz.underlying52 ⟨_, _, _, rfl⟩ rfl (by simp [RepL, RepP, Value.cells, maxLen]) rfl (.inr (by kernel_rfl))
theorem ti54 : TIOK Tryz.prog 54 ⟨.func, 1, 8, .nilFunc, [.nilfn]⟩ :=
  TIOK.mk' (by kernel_rfl) Tryz.underlying54 ⟨_, _, _, rfl⟩ rfl (by simp [RepL, RepP, Value.cells, maxLen]) rfl (.inr (by kernel_rfl))
theorem ti55 : TIOK Tryz.prog 55 ⟨.func, 1, 8, .nilFunc, [.nilfn]⟩ :=
  TIOK.mk' (by kernel_rfl) Tryz.underlying55 ⟨_, _, _, rfl⟩ rfl (by simp [RepL, RepP, Value.cells, maxLen]) rfl (.inr (by kernel_rfl))
theorem ti56 : TIOK Tryz.prog 56 ⟨.func, 1, 8, .nilFunc, [.nilfn]⟩ :=
  TIOK.mk' (by kernel_rfl) Tryz.underlying56 ⟨_, _, _, rfl⟩ rfl (by simp [RepL, RepP, Value.cells, maxLen]) rfl (.inr (by kernel_rfl))
theorem ti58 : TIOK Tryz.prog 58 ⟨.func, 1, 8, .nilFunc, [.nilfn]⟩ :=
  TIOK.mk' (by kernel_rfl) Tryz.underlying58 ⟨_, _, _, rfl⟩ rfl (by simp [RepL, RepP, Value.cells, maxLen]) rfl (.inr (by kernel_rfl))
theorem ti59 : TIOK Tryz.prog 59 ⟨.func, 1, 8, .nilFunc, [.nilfn]⟩ :=
  TIOK.mk' (by kernel_rfl) Tryz.underlying59 ⟨_, _, _, rfl⟩ rfl (by simp [RepL, RepP, Value.cells, maxLen]) rfl (.inr (by kernel_rfl))
theorem ti60 : TIOK Tryz.prog 60 ⟨.func, 1, 8, .nilFunc, [.nilfn]⟩ :=
  TIOK.mk' (by kernel_rfl) Tryz.underlying60 ⟨_, _, _, rfl⟩ rfl (by simp [RepL, RepP, Value.cells, maxLen]) rfl (.inr (by kernel_rfl))
theorem ti61 : TIOK Tryz.prog 61 ⟨.func, 1, 8, .nilFunc, [.nilfn]⟩ :=
  TIOK.mk' (by kernel_rfl) Tryz.underlying61 ⟨_, _, _, rfl⟩ rfl (by simp [RepL, RepP, Value.cells, maxLen]) rfl (.inr (by kernel_rfl))
theorem ti62 : TIOK Tryz.prog 62 ⟨.func, 1, 8, .nilFunc, [.nilfn]⟩ :=
  TIOK.mk' (by kernel_rfl) Tryz.underlying62 ⟨_, _, _, rfl⟩ rfl (by simp [RepL, RepP, Value.cells, maxLen]) rfl (.inr (by kernel_rfl))
theorem ti63 : TIOK Tryz.prog 63 ⟨.func, 1, 8, .nilFunc, [.nilfn]⟩ :=
  TIOK.mk' (by kernel_rfl) Tryz.underlying63 ⟨_, _, _, rfl⟩ rfl (by simp [RepL, RepP, Value.cells, maxLen]) rfl (.inr (by kernel_rfl))
theorem ti64 : TIOK Tryz.prog 64 ⟨.func, 1, 8, .nilFunc, [.nilfn]⟩ :=
  TIOK.mk' (by kernel_rfl) Tryz.underlying64 ⟨_, _, _, rfl⟩ rfl (by simp [RepL, RepP, Value.cells, maxLen]) rfl (.inr (by kernel_rfl))
theorem ti65 : TIOK Tryz.prog 65 ⟨.func, 1, 8, .nilFunc, [.nilfn]⟩ :=
  TIOK.mk' (by kernel_rfl) Tryz.underlying65 ⟨_, _, _, rfl⟩ rfl (by simp [RepL, RepP, Value.cells, maxLen]) rfl (.inr (by kernel_rfl))
theorem ti66 : TIOK Tryz.prog 66 ⟨.func, 1, 8, .nilFunc, [.nilfn]⟩ :=
  TIOK.mk' (by kernel_rfl) Tryz.underlying66 ⟨_, _, _, rfl⟩ rfl (by simp [RepL, RepP, Value.cells, maxLen]) rfl (.inr (by kernel_rfl))
theorem ti68 : TIOK Tryz.prog 68 ⟨.func, 1, 8, .nilFunc, [.nilfn]⟩ :=
  TIOK.mk' (by kernel_rfl) Tryz.underlying68 ⟨_, _, _, rfl⟩ rfl (by simp [RepL, RepP, Value.cells, maxLen]) rfl (.inr (by kernel_rfl))
theorem ti69 : TIOK Tryz.prog 69 ⟨.struct [(0, 1), (1, 1)], 2, 16, (.agg #[(.int .i64 0), (.int .i64 0)]), [.int 0, .int 0]⟩ :=
  TIOK.mk' (by kernel_rfl) Tryz.underlying69 ⟨_, rfl, by kernel_rfl⟩ rfl (by simp [RepL, RepP, Value.cells, maxLen]) rfl (.inr (by kernel_rfl))
theorem ti70 : TIOK Tryz.prog 70 ⟨.struct [(0, 1), (1, 1)], 2, 16, (.agg #[(.int .i64 0), (.int .i64 0)]), [.int 0, .int 0]⟩ :=
  TIOK.mk' (by kernel_rfl) Tryz.underlying70 ⟨_, rfl, by kernel_rfl⟩ rfl (by simp [RepL, RepP, Value.cells, maxLen]) rfl (.inr (by kernel_rfl))
theorem ti72 : TIOK Tryz.prog 72 ⟨.func, 1, 8, .nilFunc, [.nilfn]⟩ :=
  TIOK.mk' (by kernel_rfl) Tryz.underlying72 ⟨_, _, _, rfl⟩ rfl (by simp [RepL, RepP, Value.cells, maxLen]) rfl (.inr (by kernel_rfl))
theorem ti73 : TIOK Tryz.prog 73 ⟨.func, 1, 8, .nilFunc, [.nilfn]⟩ :=
  TIOK.mk' (by kernel_rfl) Tryz.underlying73 ⟨_, _, _, rfl⟩ rfl (by simp [RepL, RepP, Value.cells, maxLen]) rfl (.inr (by kernel_rfl))
theorem ti74 : TIOK Tryz.prog 74 ⟨.func, 1, 8, .nilFunc, [.nilfn]⟩ :=
  TIOK.mk' (by kernel_rfl) Tryz.underlying74 ⟨_, _, _, rfl⟩ rfl (by simp [RepL, RepP, Value.cells, maxLen]) rfl (.inr (by kernel_rfl))
theorem ti75 : TIOK Tryz.prog 75 ⟨.struct [(0, 1), (1, 1)], 2, 32, (.agg #[(.slice none 0 0), (.int .i64 0)]), [.slice [], .int 0]⟩ :=
  TIOK.mk' (by kernel_rfl) Tryz.underlying75 ⟨_, rfl, by kernel_rfl⟩ rfl (by simp [RepL, RepP, Value.cells, maxLen]) rfl (.inr (by kernel_rfl))
theorem ti76 : TIOK Tryz.prog 76 ⟨.struct [(0, 1), (1, 1)], 2, 32, (.agg #[(.slice none 0 0), (.int .i64 0)]), [.slice [], .int 0]⟩ :=
  TIOK.mk' (by kernel_rfl) Tryz.underlying76 ⟨_, rfl, by kernel_rfl⟩ rfl (by simp [RepL, RepP, Value.cells, maxLen]) rfl (.inr (by kernel_rfl))
theorem ti77 : TIOK Tryz.prog 77 ⟨.func, 1, 8, .nilFunc, [.nilfn]⟩ :=
  TIOK.mk' (by kernel_rfl) Tryz.underlying77 ⟨_, _, _, rfl⟩ rfl (by simp [RepL, RepP, Value.cells, maxLen]) rfl (.inr (by kernel_rfl))
theorem ti78 : TIOK Tryz.prog 78 ⟨.pointer, 1, 8, (.pointer none), [.nil]⟩ :=
  TIOK.mk' (by kernel_rfl) Tryz.underlying78 ⟨_, rfl⟩ rfl (by simp [RepL, RepP, Value.cells, maxLen]) rfl (.inr (by kernel_rfl))
theorem ti79 : TIOK Tryz.prog 79 ⟨.struct [(0, 1), (1, 1), (2, 1)], 3, 72, (.agg #[(.slice none 0 0), (.slice none 0 0), (.slice none 0 0)]), [.slice [], .slice [], .slice []]⟩ :=
  TIOK.mk' (by kernel_rfl) Tryz.underlying79 ⟨_, rfl, by kernel_rfl⟩ rfl (by simp [RepL, RepP, Value.cells, maxLen]) rfl (.inr (by kernel_rfl))
theorem ti80 : TIOK Tryz.prog 80 ⟨.struct [(0, 1), (1, 1), (2, 1)], 3, 72, (.agg #[(.slice none 0 0), (.slice none 0 0), (.slice none 0 0)]), [.nils, .nils, .nils]⟩ :=
  TIOK.mk' (by kernel_rfl) Tryz.underlying80 ⟨_, rfl, by kernel_rfl⟩ rfl (by simp [RepL, RepP, Value.cells, maxLen]) rfl (.inr (by kernel_rfl))
theorem ti81 : TIOK Tryz.prog 81 ⟨.func, 1, 8, .nilFunc, [.nilfn]⟩ :=
  TIOK.mk' (by kernel_rfl) Tryz.underlying81 ⟨_, _, _, rfl⟩ rfl (by simp [RepL, RepP, Value.cells, maxLen]) rfl (.inr (by kernel_rfl))
theorem ti82 : TIOK Tryz.prog 82 ⟨.func, 1, 8, .nilFunc, [.nilfn]⟩ :=
  TIOK.mk' (by kernel_rfl) Tryz.underlying82 ⟨_, _, _, rfl⟩ rfl (by simp [RepL, RepP, Value.cells, maxLen]) rfl (.inr (by kernel_rfl))
theorem ti83 : TIOK Tryz.prog 83 ⟨.func, 1, 8, .nilFunc, [.nilfn]⟩ :=
  TIOK.mk' (by kernel_rfl) Tryz.underlying83 ⟨_, _, _, rfl⟩ rfl (by simp [RepL, RepP, Value.cells, maxLen]) rfl (.inr (by kernel_rfl))
theorem ti84 : TIOK Tryz.prog 84 ⟨.pointer, 1, 8, (.pointer none), [.nil]⟩ :=
  TIOK.mk' (by kernel_rfl) Tryz.underlying84 ⟨_, rfl⟩ rfl (by simp [RepL, RepP, Value.cells, maxLen]) rfl (.inr (by kernel_rfl))
theorem ti85 : TIOK Tryz.prog 85 ⟨.func, 1, 8, .nilFunc, [.nilfn]⟩ :=
  TIOK.mk' (by kernel_rfl) Tryz.underlying85 ⟨_, _, _, rfl⟩ rfl (by simp [RepL, RepP, Value.cells, maxLen]) rfl (.inr (by kernel_rfl))
theorem ti86 : TIOK Tryz.prog 86 ⟨.func, 1, 8, .nilFunc, [.nilfn]⟩ :=
  TIOK.mk' (by kernel_rfl) Tryz.underlying86 ⟨_, _, _, rfl⟩ rfl (by simp [RepL, RepP, Value.cells, maxLen]) rfl (.inr (by kernel_rfl))
theorem ti87 : TIOK Tryz.prog 87 ⟨.slice 132, 1, 24, (.slice none 0 0), [.slice []]⟩ :=
  TIOK.mk' (by kernel_rfl) Tryz.underlying87 rfl rfl (by simp [RepL, RepP, Value.cells, maxLen]) rfl (.inr (by kernel_rfl))
theorem ti88 : TIOK Tryz.prog 88 ⟨.slice 206, 1, 24, (.slice none 0 0), [.slice []]⟩ :=
  TIOK.mk' (by kernel_rfl) Tryz.underlying88 rfl rfl (by simp [RepL, RepP, Value.cells, maxLen]) rfl (.inr (by kernel_rfl))
theorem ti89 : TIOK Tryz.prog 89 ⟨.pointer, 1, 8, (.pointer none), [.nil]⟩ :=
  TIOK.mk' (by kernel_rfl) Tryz.underlying89 ⟨_, rfl⟩ rfl (by simp [RepL, RepP, Value.cells, maxLen]) rfl (.inr (by kernel_rfl))
theorem ti90 : TIOK Tryz.prog 90 ⟨.struct [(0, 1), (1, 1), (2, 1), (3, 1), (4, 1), (5, 1), (6, 1), (7, 1), (8, 1)], 9, 120, (.agg #[(.slice none 0 0), (.int .i64 0), (.int .i64 0), .nilFunc, .nilFunc, (.slice none 0 0), (.slice none 0 0), (.int .i64 0), (.pointer none)]), [.slice [], .int 0, .int 0, .nilfn, .nilfn, .slice [], .slice [], .int 0, .nil]⟩ :=
  TIOK.mk' (by kernel_rfl) Tryz.underlying90 ⟨_, rfl, by kernel_rfl⟩ rfl (by simp [RepL, RepP, Value.cells, maxLen]) rfl (.inr (by kernel_rfl))
theorem ti91 : TIOK Tryz.prog 91 ⟨.struct [(0, 1), (1, 1), (2, 1), (3, 1), (4, 1), (5, 1), (6, 1), (7, 1), (8, 1)], 9, 120, (.agg #[(.slice none 0 0), (.int .i64 0), (.int .i64 0), .nilFunc, .nilFunc, (.slice none 0 0), (.slice none 0 0), (.int .i64 0), (.pointer none)]), [.nils, .int 0, .int 0, .nilfn, .nilfn, .nils, .nils, .int 0, .nil]⟩ :=
  TIOK.mk' (by kernel_rfl) Tryz.underlying91 ⟨_, rfl, by kernel_rfl⟩ rfl (by simp [RepL, RepP, Value.cells, maxLen]) rfl (.inr (by kernel_rfl))
theorem ti92 : TIOK Tryz.prog 92 ⟨.func, 1, 8, .nilFunc, [.nilfn]⟩ :=
  TIOK.mk' (by kernel_rfl) Tryz.underlying92 ⟨_, _, _, rfl⟩ rfl (by simp [RepL, RepP, Value.cells, maxLen]) rfl (.inr (by kernel_rfl))
theorem ti93 : TIOK Tryz.prog 93 ⟨.func, 1, 8, .nilFunc, [.nilfn]⟩ :=
  TIOK.mk' (by kernel_rfl) Tryz.underlying93 ⟨_, _, _, rfl⟩ rfl (by simp [RepL, RepP, Value.cells, maxLen]) rfl (.inr (by kernel_rfl))
theorem ti94 : TIOK Tryz.prog 94 ⟨.pointer, 1, 8, (.pointer none), [.nil]⟩ :=
  TIOK.mk' (by kernel_rfl) Tryz.underlying94 ⟨_, rfl⟩ rfl (by simp [RepL, RepP, Value.cells, maxLen]) rfl (.inr (by kernel_rfl))
theorem ti95 : TIOK Tryz.prog 95 ⟨.func, 1, 8, .nilFunc, [.nilfn]⟩ :=
  TIOK.mk' (by kernel_rfl) Tryz.underlying95 ⟨_, _, _, rfl⟩ rfl (by simp [RepL, RepP, Value.cells, maxLen]) rfl (.inr (by kernel_rfl))
theorem ti96 : TIOK Tryz.prog 96 ⟨.func, 1, 8, .nilFunc, [.nilfn]⟩ :=
  TIOK.mk' (by kernel_rfl) Tryz.underlying96 ⟨_, _, _, rfl⟩ rfl (by simp [RepL, RepP, Value.cells, maxLen]) rfl (.inr (by kernel_rfl))
theorem ti97 : TIOK Tryz.prog 97 ⟨.func, 1, 8, .nilFunc, [.nilfn]⟩ :=
  TIOK.mk' (by kernel_rfl) Tryz.underlying97 ⟨_, _, _, rfl⟩ rfl (by simp [RepL, RepP, Value.cells, maxLen]) rfl (.inr (by kernel_rfl))
theorem ti99 : TIOK Tryz.prog 99 ⟨.func, 1, 8, .nilFunc, [.nilfn]⟩ :=
  TIOK.mk' (by kernel_rfl) Tryz.underlying99 ⟨_, _, _, rfl⟩ rfl (by simp [RepL, RepP, Value.cells, maxLen]) rfl (.inr (by kernel_rfl))
theorem ti100 : TIOK Tryz.prog 100 ⟨.func, 1, 8, .nilFunc, [.nilfn]⟩ :=
  TIOK.mk' (by kernel_rfl) Tryz.underlying100 ⟨_, _, _, rfl⟩ rfl (by simp [RepL, RepP, Value.cells, maxLen]) rfl (.inr (by kernel_rfl))
theorem ti101 : TIOK Tryz.prog 101 ⟨.func, 1, 8, .nilFunc, [.nilfn]⟩ :=
  TIOK.mk' (by kernel_rfl) Tryz.underlying101 ⟨_, _, _, rfl⟩ rfl (by simp [RepL, RepP, Value.cells, maxLen]) rfl (.inr (by kernel_rfl))
theorem ti103 : TIOK Tryz.prog 103 ⟨.func, 1, 8, .nilFunc, [.nilfn]⟩ :=
  TIOK.mk' (by kernel_rfl) Tryz.underlying103 ⟨_, _, _, rfl⟩ rfl (by simp [RepL, RepP, Value.cells, maxLen]) rfl (.inr (by kernel_rfl))
theorem ti104 : TIOK Tryz.prog 104 ⟨.pointer, 1, 8, (.pointer none), [.nil]⟩ :=
  TIOK.mk' (by kernel_rfl) Tryz.underlying104 ⟨_, rfl⟩ rfl (by simp [RepL, RepP, Value.cells, maxLen]) rfl (.inr (by kernel_rfl))
theorem ti105 : TIOK Tryz.prog 105 ⟨.struct [(0, 1), (1, 1), (2, 1)], 3, 24, (.agg #[(.int .i64 0), (.int .i64 0), (.bool false)]), [.int 0, .int 0, .bool false]⟩ :=
  TIOK.mk' (by kernel_rfl) Tryz.underlying105 ⟨_, rfl, by kernel_rfl⟩ rfl (by simp [RepL, RepP, Value.cells, maxLen]) rfl (.inr (by kernel_rfl))
theorem ti106 : TIOK Tryz.prog 106 ⟨.struct [(0, 1), (1, 1), (2, 1)], 3, 24, (.agg #[(.int .i64 0), (.int .i64 0), (.bool false)]), [.int 0, .int 0, .bool false]⟩ :=
  TIOK.mk' (by kernel_rfl) Tryz.underlying106 ⟨_, rfl, by kernel_rfl⟩ rfl (by simp [RepL, RepP, Value.cells, maxLen]) rfl (.inr (by kernel_rfl))
theorem ti107 : TIOK Tryz.prog 107 ⟨.slice 109, 1, 24, (.slice none 0 0), [.slice []]⟩ :=
  TIOK.mk' (by kernel_rfl) Tryz.underlying107 rfl rfl (by simp [RepL, RepP, Value.cells, maxLen]) rfl (.inr (by kernel_rfl))
theorem ti108 : TIOK Tryz.prog 108 ⟨.struct [(0, 1), (1, 1), (2, 1), (3, 5), (8, 1)], 9, 152, (.agg #[(.int .i64 0), (.slice none 0 0), (.slice none 0 0), (.int .i64 0), (.int .i64 0), (.int .i64 0), (.slice none 0 0), (.slice none 0 0), (.slice none 0 0)]), [.int 0, .slice [], .slice [], .int 0, .int 0, .int 0, .slice [], .slice [], .slice []]⟩ :=
  TIOK.mk' (by kernel_rfl) Tryz.underlying108 ⟨_, rfl, by kernel_rfl⟩ rfl (by simp [RepL, RepP, Value.cells, maxLen]) rfl (.inr (by kernel_rfl))
theorem ti109 : TIOK Tryz.prog 109 ⟨.struct [(0, 1), (1, 1), (2, 1), (3, 5), (8, 1)], 9, 152, (.agg #[(.int .i64 0), (.slice none 0 0), (.slice none 0 0), (.int .i64 0), (.int .i64 0), (.int .i64 0), (.slice none 0 0), (.slice none 0 0), (.slice none 0 0)]), [.int 0, .slice [], .slice [], .int 0, .int 0, .int 0, .slice [], .slice [], .slice []]⟩ :=
  TIOK.mk' (by kernel_rfl) Tryz.underlying109 ⟨_, rfl, by kernel_rfl⟩ rfl (by simp [RepL, RepP, Value.cells, maxLen]) rfl (.inr (by kernel_rfl))
theorem ti110 : TIOK Tryz.prog 110 ⟨.func, 1, 8, .nilFunc, [.nilfn]⟩ :=
  TIOK.mk' (by kernel_rfl) Tryz.underlying110 ⟨_, _, _, rfl⟩ rfl (by simp [RepL, RepP, Value.cells, maxLen]) rfl (.inr (by kernel_rfl))
theorem ti111 : TIOK Tryz.prog 111 ⟨.func, 1, 8, .nilFunc, [.nilfn]⟩ :=
  TIOK.mk' (by kernel_rfl) Tryz.underlying111 ⟨_, _, _, rfl⟩ rfl (by simp [RepL, RepP, Value.cells, maxLen]) rfl (.inr (by kernel_rfl))
theorem ti112 : TIOK Tryz.prog 112 ⟨.func, 1, 8, .nilFunc, [.nilfn]⟩ :=
  TIOK.mk' (by kernel_rfl) Tryz.underlying112 ⟨_, _, _, rfl⟩ rfl (by simp [RepL, RepP, Value.cells, maxLen]) rfl (.inr (by kernel_rfl))
theorem ti113 : TIOK Tryz.prog 113 ⟨.func, 1, 8, .nilFunc, [.nilfn]⟩ :=
  TIOK.mk' (by kernel_rfl) Tryz.underlying113 ⟨_, _, _, rfl⟩ rfl (by simp [RepL, RepP, Value.cells, maxLen]) rfl (.inr (by kernel_rfl))
theorem ti115 : TIOK Tryz.prog 115 ⟨.func, 1, 8, .nilFunc, [.nilfn]⟩ :=
  TIOK.mk' (by kernel_rfl) Tryz.underlying115 ⟨_, _, _, rfl⟩ rfl (by simp [RepL, RepP, Value.cells, maxLen]) rfl (.inr (by kernel_rfl))
theorem ti116 : TIOK Tryz.prog 116 ⟨.func, 1, 8, .nilFunc, [.nilfn]⟩ :=
  TIOK.mk' (by kernel_rfl) Tryz.underlying116 ⟨_, _, _, rfl⟩ rfl (by simp [RepL, RepP, Value.cells, maxLen]) rfl (.inr (by kernel_rfl))
theorem ti117 : TIOK Tryz.prog 117 ⟨.func, 1, 8, .nilFunc, [.nilfn]⟩ :=
  TIOK.mk' (by kernel_rfl) Tryz.underlying117 ⟨_, _, _, rfl⟩ rfl (by simp [RepL, RepP, Value.cells, maxLen]) rfl (.inr (by kernel_rfl))
theorem ti118 : TIOK Tryz.prog 118 ⟨.pointer, 1, 8, (.pointer none), [.nil]⟩ :=
  TIOK.mk' (by kernel_rfl) Tryz.underlying118 ⟨_, rfl⟩ rfl (by simp [RepL, RepP, Value.cells, maxLen]) rfl (.inr (by kernel_rfl))
theorem ti120 : TIOK Tryz.prog 120 ⟨.func, 1, 8, .nilFunc, [.nilfn]⟩ :=
  TIOK.mk' (by kernel_rfl) Tryz.underlying120 ⟨_, _, _, rfl⟩ rfl (by simp [RepL, RepP, Value.cells, maxLen]) rfl (.inr (by kernel_rfl))
theorem ti122 : TIOK Tryz.prog 122 ⟨.map 132 3, 1, 8, (.map none), [.nilm]⟩ :=
  TIOK.mk' (by kernel_rfl) Tryz.underlying122 ⟨rfl, _, Tryz.underlying132, by kernel_rfl⟩ rfl (by simp [RepL, RepP, Value.cells, maxLen]) rfl (.inr (by kernel_rfl))
theorem ti123 : TIOK Tryz.prog 123 ⟨.map 163 3, 1, 8, (.map none), [.nilm]⟩ :=
  TIOK.mk' (by kernel_rfl) Tryz.underlying123 ⟨rfl, _, Tryz.underlying163, by kernel_rfl⟩ rfl (by simp [RepL, RepP, Value.cells, maxLen]) rfl (.inr (by kernel_rfl))
theorem ti124 : TIOK Tryz.prog 124 ⟨.map 89 3, 1, 8, (.map none), [.nilm]⟩ :=
  TIOK.mk' (by kernel_rfl) Tryz.underlying124 ⟨rfl, _, Tryz.underlying89, by kernel_rfl⟩ rfl (by simp [RepL, RepP, Value.cells, maxLen]) rfl (.inr (by kernel_rfl))
theorem ti126 : TIOK Tryz.prog 126 ⟨.struct [(0, 1), (1, 1), (2, 1), (3, 1), (4, 1), (5, 1)], 6, 48, (.agg #[(.map none), (.map none), (.map none), (.map none), (.map none), (.int .i64 0)]), [.nilm, .nilm, .nilm, .nilm, .nilm, .int 0]⟩ :=
  TIOK.mk' (by kernel_rfl) Tryz.underlying126 ⟨_, rfl, by kernel_rfl⟩ rfl (by simp [RepL, RepP, Value.cells, maxLen]) rfl (.inr (by kernel_rfl))
theorem ti127 : TIOK Tryz.prog 127 ⟨.struct [(0, 1), (1, 1), (2, 1), (3, 1), (4, 1), (5, 1)], 6, 48, (.agg #[(.map none), (.map none), (.map none), (.map none), (.map none), (.int .i64 0)]), [.nilm, .nilm, .nilm, .nilm, .nilm, .int 0]⟩ :=
  TIOK.mk' (by kernel_rfl) Tryz.underlying127 ⟨_, rfl, by kernel_rfl⟩ rfl (by simp [RepL, RepP, Value.cells, maxLen]) rfl (.inr (by kernel_rfl))
theorem ti129 : TIOK Tryz.prog 129 ⟨.func, 1, 8, .nilFunc, [.nilfn]⟩ :=
  TIOK.mk' (by kernel_rfl) Tryz.underlying129 ⟨_, _, _, rfl⟩ rfl (by simp [RepL, RepP, Value.cells, maxLen]) rfl (.inr (by kernel_rfl))
theorem ti130 : TIOK Tryz.prog 130 ⟨.func, 1, 8, .nilFunc, [.nilfn]⟩ :=
  TIOK.mk' (by kernel_rfl) Tryz.underlying130 ⟨_, _, _, rfl⟩ rfl (by simp [RepL, RepP, Value.cells, maxLen]) rfl (.inr (by kernel_rfl))
theorem ti131 : TIOK Tryz.prog 131 ⟨.func, 1, 8, .nilFunc, [.nilfn]⟩ :=
  TIOK.mk' (by kernel_rfl) Tryz.underlying131 ⟨_, _, _, rfl⟩ rfl (by simp [RepL, RepP, Value.cells, maxLen]) rfl (.inr (by kernel_rfl))
theorem ti132 : TIOK Tryz.prog 132 ⟨.pointer, 1, 8, (.pointer none), [.nil]⟩ :=
  TIOK.mk' (by kernel_rfl) Tryz.underlying132 ⟨_, rfl⟩ rfl (by simp [RepL, RepP, Value.cells, maxLen]) rfl (.inr (by kernel_rfl))
theorem ti133 : TIOK Tryz.prog 133 ⟨.func, 1, 8, .nilFunc, [.nilfn]⟩ :=
  TIOK.mk' (by kernel_rfl) Tryz.underlying133 ⟨_, _, _, rfl⟩ rfl (by simp [RepL, RepP, Value.cells, maxLen]) rfl (.inr (by kernel_rfl))
theorem ti134 : TIOK Tryz.prog 134 ⟨.func, 1, 8, .nilFunc, [.nilfn]⟩ :=
  TIOK.mk' (by kernel_rfl) Tryz.underlying134 ⟨_, _, _, rfl⟩ rfl (by simp [RepL, RepP, Value.cells, maxLen]) rfl (.inr (by kernel_rfl))
theorem ti135 : TIOK Tryz.prog 135 ⟨.func, 1, 8, .nilFunc, [.nilfn]⟩ :=
  TIOK.mk' (by kernel_rfl) Tryz.underlying135 ⟨_, _, _, rfl⟩ rfl (by simp [RepL, RepP, Value.cells, maxLen]) rfl (.inr (by kernel_rfl))
theorem ti136 : TIOK Tryz.prog 136 ⟨.func, 1, 8, .nilFunc, [.nilfn]⟩ :=
  TIOK.mk' (by kernel_rfl) Tryz.underlying136 ⟨_, _, _, rfl⟩ rfl (by simp [RepL, RepP, Value.cells, maxLen]) rfl (.inr (by kernel_rfl))
theorem ti137 : TIOK Tryz.prog 137 ⟨.func, 1, 8, .nilFunc, [.nilfn]⟩ :=
  TIOK.mk' (by kernel_rfl) Tryz.underlying137 ⟨_, _, _, rfl⟩ rfl (by simp [RepL, RepP, Value.cells, maxLen]) rfl (.inr (by kernel_rfl))
theorem ti138 : TIOK Tryz.prog 138 ⟨.func, 1, 8, .nilFunc, [.nilfn]⟩ :=
  TIOK.mk' (by kernel_rfl) Tryz.underlying138 ⟨_, _, _, rfl⟩ rfl (by simp [RepL, RepP, Value.cells, maxLen]) rfl (.inr (by kernel_rfl))
theorem ti139 : TIOK Tryz.prog 139 ⟨.func, 1, 8, .nilFunc, [.nilfn]⟩ :=
  TIOK.mk' (by kernel_rfl) Tryz.underlying139 ⟨_, _, _, rfl⟩ rfl (by simp [RepL, RepP, Value.cells, maxLen]) rfl (.inr (by kernel_rfl))
theorem ti140 : TIOK Tryz.prog 140 ⟨.func, 1, 8, .nilFunc, [.nilfn]⟩ :=
  TIOK.mk' (by kernel_rfl) Tryz.underlying140 ⟨_, _, _, rfl⟩ rfl (by simp [RepL, RepP, Value.cells, maxLen]) rfl (.inr (by kernel_rfl))
theorem ti141 : TIOK Tryz.prog 141 ⟨.func, 1, 8, .nilFunc, [.nilfn]⟩ :=
  TIOK.mk' (by kernel_rfl) Tryz.underlying141 ⟨_, _, _, rfl⟩ rfl (by simp [RepL, RepP, Value.cells, maxLen]) rfl (.inr (by kernel_rfl))
theorem ti142 : TIOK Tryz.prog 142 ⟨.func, 1, 8, .nilFunc, [.nilfn]⟩ :=
  TIOK.mk' (by kernel_rfl) Tryz.underlying142 ⟨_, _, _, rfl⟩ rfl (by simp [RepL, RepP, Value.cells, maxLen]) rfl (.inr (by kernel_rfl))
theorem ti144 : TIOK Tryz.prog 144 ⟨.func, 1, 8, .nilFunc, [.nilfn]⟩ :=
  TIOK.mk' (by kernel_rfl) Tryz.underlying144 ⟨_, _, _, rfl⟩ rfl (by simp [RepL, RepP, Value.cells, maxLen]) rfl (.inr (by kernel_rfl))
theorem ti146 : TIOK Tryz.prog 146 ⟨.func, 1, 8, .nilFunc, [.nilfn]⟩ :=
  TIOK.mk' (by kernel_rfl) Tryz.underlying146 ⟨_, _, _, rfl⟩ rfl (by simp [RepL, RepP, Value.cells, maxLen]) rfl (.inr (by kernel_rfl))
theorem ti147 : TIOK Tryz.prog 147 ⟨.func, 1, 8, .nilFunc, [.nilfn]⟩ :=
  TIOK.mk' (by kernel_rfl) Tryz.underlying147 ⟨_, _, _, rfl⟩ rfl (by simp [RepL, RepP, Value.cells, maxLen]) rfl (.inr (by kernel_rfl))
theorem ti148 : TIOK Tryz.prog 148 ⟨.func, 1, 8, .nilFunc, [.nilfn]⟩ :=
  TIOK.mk' (by kernel_rfl) Tryz.underlying148 ⟨_, _, _, rfl⟩ rfl (by simp [RepL, RepP, Value.cells, maxLen]) rfl (.inr (by kernel_rfl))
theorem ti149 : TIOK Tryz.prog 149 ⟨.func, 1, 8, .nilFunc, [.nilfn]⟩ :=
  TIOK.mk' (by kernel_rfl) Tryz.underlying149 ⟨_, _, _, rfl⟩ rfl (by simp [RepL, RepP, Value.cells, maxLen]) rfl (.inr (by kernel_rfl))
theorem ti150 : TIOK Tryz.prog 150 ⟨.func, 1, 8, .nilFunc, [.nilfn]⟩ :=
  TIOK.mk' (by kernel_rfl) Tryz.underlying150 ⟨_, _, _, rfl⟩ rfl (by simp [RepL, RepP, Value.cells, maxLen]) rfl (.inr (by kernel_rfl))
theorem ti151 : TIOK Tryz.prog 151 ⟨.func, 1, 8, .nilFunc, [.nilfn]⟩ :=
  TIOK.mk' (by kernel_rfl) Tryz.underlying151 ⟨_, _, _, rfl⟩ rfl (by simp [RepL, RepP, Value.cells, maxLen]) rfl (.inr (by kernel_rfl))
theorem ti152 : TIOK Tryz.prog 152 ⟨.pointer, 1, 8, (.pointer none), [.nil]⟩ :=
  TIOK.mk' (by kernel_rfl) Tryz.underlying152 ⟨_, rfl⟩ rfl (by simp [RepL, RepP, Value.cells, maxLen]) rfl (.inr (by kernel_rfl))
theorem ti153 : TIOK Tryz.prog 153 ⟨.slice 186, 1, 24, (.slice none 0 0), [.slice []]⟩ :=
  TIOK.mk' (by kernel_rfl) Tryz.underlying153 rfl rfl (by simp [RepL, RepP, Value.cells, maxLen]) rfl (.inr (by kernel_rfl))
theorem ti154 : TIOK Tryz.prog 154 ⟨.struct [(0, 1), (1, 1), (2, 1), (3, 1), (4, 1), (5, 1), (6, 1)], 7, 88, (.agg #[(.slice none 0 0), (.int .i64 0), (.int .i64 0), (.int .i64 0), (.bool false), (.slice none 0 0), (.int .i64 0)]), [.slice [], .int 0, .int 0, .int 0, .bool false, .slice [], .int 0]⟩ :=
  TIOK.mk' (by kernel_rfl) Tryz.underlying154 ⟨_, rfl, by kernel_rfl⟩ rfl (by simp [RepL, RepP, Value.cells, maxLen]) rfl (.inr (by kernel_rfl))
theorem ti155 : TIOK Tryz.prog 155 ⟨.struct [(0, 1), (1, 1), (2, 1), (3, 1), (4, 1), (5, 1), (6, 1)], 7, 88, (.agg #[(.slice none 0 0), (.int .i64 0), (.int .i64 0), (.int .i64 0), (.bool false), (.slice none 0 0), (.int .i64 0)]), [.nils, .int 0, .int 0, .int 0, .bool false, .nils, .int 0]⟩ :=
  TIOK.mk' (by kernel_rfl) Tryz.underlying155 ⟨_, rfl, by kernel_rfl⟩ rfl (by simp [RepL, RepP, Value.cells, maxLen]) rfl (.inr (by kernel_rfl))
theorem ti156 : TIOK Tryz.prog 156 ⟨.func, 1, 8, .nilFunc, [.nilfn]⟩ :=
  TIOK.mk' (by kernel_rfl) Tryz.underlying156 ⟨_, _, _, rfl⟩ rfl (by simp [RepL, RepP, Value.cells, maxLen]) rfl (.inr (by kernel_rfl))
theorem ti157 : TIOK Tryz.prog 157 ⟨.func, 1, 8, .nilFunc, [.nilfn]⟩ :=
  TIOK.mk' (by kernel_rfl) Tryz.underlying157 ⟨_, _, _, rfl⟩ rfl (by simp [RepL, RepP, Value.cells, maxLen]) rfl (.inr (by kernel_rfl))
theorem ti158 : TIOK Tryz.prog 158 ⟨.func, 1, 8, .nilFunc, [.nilfn]⟩ :=
  TIOK.mk' (by kernel_rfl) Tryz.underlying158 ⟨_, _, _, rfl⟩ rfl (by simp [RepL, RepP, Value.cells, maxLen]) rfl (.inr (by kernel_rfl))
theorem ti159 : TIOK Tryz.prog 159 ⟨.func, 1, 8, .nilFunc, [.nilfn]⟩ :=
  TIOK.mk' (by kernel_rfl) Tryz.underlying159 ⟨_, _, _, rfl⟩ rfl (by simp [RepL, RepP, Value.cells, maxLen]) rfl (.inr (by kernel_rfl))
theorem ti160 : TIOK Tryz.prog 160 ⟨.func, 1, 8, .nilFunc, [.nilfn]⟩ :=
  TIOK.mk' (by kernel_rfl) Tryz.underlying160 ⟨_, _, _, rfl⟩ rfl (by simp [RepL, RepP, Value.cells, maxLen]) rfl (.inr (by kernel_rfl))
theorem ti161 : TIOK Tryz.prog 161 ⟨.map 132 47, 1, 8, (.map none), [.nilm]⟩ :=
  TIOK.mk' (by kernel_rfl) Tryz.underlying161 ⟨rfl, _, Tryz.underlying132, by kernel_rfl⟩ rfl (by simp [RepL, RepP, Value.cells, maxLen]) rfl (.inr (by kernel_rfl))
theorem ti163 : TIOK Tryz.prog 163 ⟨.pointer, 1, 8, (.pointer none), [.nil]⟩ :=
  TIOK.mk' (by kernel_rfl) Tryz.underlying163 ⟨_, rfl⟩ rfl (by simp [RepL, RepP, Value.cells, maxLen]) rfl (.inr (by kernel_rfl))
theorem ti164 : TIOK Tryz.prog 164 ⟨.array 2 132, 2, 16, (.agg #[(.pointer none), (.pointer none)]), [.nil, .nil]⟩ :=
  TIOK.mk' (by kernel_rfl) Tryz.underlying164 rfl rfl (by simp [RepL, RepP, Value.cells, maxLen]) rfl (.inr (by kernel_rfl))
theorem ti165 : TIOK Tryz.prog 165 ⟨.struct [(0, 1), (1, 1), (2, 1), (3, 2), (5, 1), (6, 1), (7, 1), (8, 1)], 9, 72, (.agg #[(.int .i64 0), (.int .i64 0), (.pointer none), (.pointer none), (.pointer none), (.int .i64 0), (.pointer none), (.int .i64 0), (.bool false)]), [.int 0, .int 0, .nil, .nil, .nil, .int 0, .nil, .int 0, .bool false]⟩ :=
  TIOK.mk' (by kernel_rfl) Tryz.underlying165 ⟨_, rfl, by kernel_rfl⟩ rfl (by simp [RepL, RepP, Value.cells, maxLen]) rfl (.inr (by kernel_rfl))
theorem ti166 : TIOK Tryz.prog 166 ⟨.struct [(0, 1), (1, 1), (2, 1), (3, 2), (5, 1), (6, 1), (7, 1), (8, 1)], 9, 72, (.agg #[(.int .i64 0), (.int .i64 0), (.pointer none), (.pointer none), (.pointer none), (.int .i64 0), (.pointer none), (.int .i64 0), (.bool false)]), [.int 0, .int 0, .nil, .nil, .nil, .int 0, .nil, .int 0, .bool false]⟩ :=
  TIOK.mk' (by kernel_rfl) Tryz.underlying166 ⟨_, rfl, by kernel_rfl⟩ rfl (by simp [RepL, RepP, Value.cells, maxLen]) rfl (.inr (by kernel_rfl))
theorem ti167 : TIOK Tryz.prog 167 ⟨.struct [(0, 1), (1, 1), (2, 1)], 3, 24, (.agg #[(.int .i64 0), (.int .i64 0), (.pointer none)]), [.int 0, .int 0, .nil]⟩ :=
  TIOK.mk' (by kernel_rfl) Tryz.underlying167 ⟨_, rfl, by kernel_rfl⟩ rfl (by simp [RepL, RepP, Value.cells, maxLen]) rfl (.inr (by kernel_rfl))
theorem ti168 : TIOK Tryz.prog 168 ⟨.struct [(0, 1), (1, 1), (2, 1)], 3, 24, (.agg #[(.int .i64 0), (.int .i64 0), (.pointer none)]), [.int 0, .int 0, .nil]⟩ :=
  TIOK.mk' (by kernel_rfl) Tryz.underlying168 ⟨_, rfl, by kernel_rfl⟩ rfl (by simp [RepL, RepP, Value.cells, maxLen]) rfl (.inr (by kernel_rfl))
theorem ti169 : TIOK Tryz.prog 169 ⟨.func, 1, 8, .nilFunc, [.nilfn]⟩ :=
  TIOK.mk' (by kernel_rfl) Tryz.underlying169 ⟨_, _, _, rfl⟩ rfl (by simp [RepL, RepP, Value.cells, maxLen]) rfl (.inr (by kernel_rfl))
theorem ti170 : TIOK Tryz.prog 170 ⟨.struct [(0, 1), (1, 1), (2, 1), (3, 1), (4, 1)], 5, 40, (.agg #[(.pointer none), (.int .i64 0), (.int .i64 0), (.bool false), (.pointer none)]), [.nil, .int 0, .int 0, .bool false, .nil]⟩ :=
  TIOK.mk' (by kernel_rfl) Tryz.underlying170 ⟨_, rfl, by kernel_rfl⟩ rfl (by simp [RepL, RepP, Value.cells, maxLen]) rfl (.inr (by kernel_rfl))
theorem ti171 : TIOK Tryz.prog 171 ⟨.struct [(0, 1), (1, 1), (2, 1), (3, 1), (4, 1)], 5, 40, (.agg #[(.pointer none), (.int .i64 0), (.int .i64 0), (.bool false), (.pointer none)]), [.nil, .int 0, .int 0, .bool false, .nil]⟩ :=
  TIOK.mk' (by kernel_rfl) Tryz.underlying171 ⟨_, rfl, by kernel_rfl⟩ rfl (by simp [RepL, RepP, Value.cells, maxLen]) rfl (.inr (by kernel_rfl))
theorem ti172 : TIOK Tryz.prog 172 ⟨.func, 1, 8, .nilFunc, [.nilfn]⟩ :=
  TIOK.mk' (by kernel_rfl) Tryz.underlying172 ⟨_, _, _, rfl⟩ rfl (by simp [RepL, RepP, Value.cells, maxLen]) rfl (.inr (by kernel_rfl))
theorem ti173 : TIOK Tryz.prog 173 ⟨.func, 1, 8, .nilFunc, [.nilfn]⟩ :=
  TIOK.mk' (by kernel_rfl) Tryz.underlying173 ⟨_, _, _, rfl⟩ rfl (by simp [RepL, RepP, Value.cells, maxLen]) rfl (.inr (by kernel_rfl))
theorem ti174 : TIOK Tryz.prog 174 ⟨.func, 1, 8, .nilFunc, [.nilfn]⟩ :=
  TIOK.mk' (by kernel_rfl) Tryz.underlying174 ⟨_, _, _, rfl⟩ rfl (by simp [RepL, RepP, Value.cells, maxLen]) rfl (.inr (by kernel_rfl))
theorem ti175 : TIOK Tryz.prog 175 ⟨.func, 1, 8, .nilFunc, [.nilfn]⟩ :=
  TIOK.mk' (by kernel_rfl) Tryz.underlying175 ⟨_, _, _, rfl⟩ rfl (by simp [RepL, RepP, Value.cells, maxLen]) rfl (.inr (by kernel_rfl))
theorem ti177 : TIOK Tryz.prog 177 ⟨.func, 1, 8, .nilFunc, [.nilfn]⟩ :=
  TIOK.mk' (by kernel_rfl) Tryz.underlying177 ⟨_, _, _, rfl⟩ rfl (by simp [RepL, RepP, Value.cells, maxLen]) rfl (.inr (by kernel_rfl))
theorem ti178 : TIOK Tryz.prog 178 ⟨.struct [(0, 1)], 1, 8, (.agg #[(.int .i64 0)]), [.int 0]⟩ :=
  TIOK.mk' (by kernel_rfl) Tryz.underlying178 ⟨_, rfl, by kernel_rfl⟩ rfl (by simp [RepL, RepP, Value.cells, maxLen]) rfl (.inr (by kernel_rfl))
theorem ti179 : TIOK Tryz.prog 179 ⟨.struct [(0, 1)], 1, 8, (.agg #[(.int .i64 0)]), [.int 0]⟩ :=
  TIOK.mk' (by kernel_rfl) Tryz.underlying179 ⟨_, rfl, by kernel_rfl⟩ rfl (by simp [RepL, RepP, Value.cells, maxLen]) rfl (.inr (by kernel_rfl))
theorem ti180 : TIOK Tryz.prog 180 ⟨.func, 1, 8, .nilFunc, [.nilfn]⟩ :=
  TIOK.mk' (by kernel_rfl) Tryz.underlying180 ⟨_, _, _, rfl⟩ rfl (by simp [RepL, RepP, Value.cells, maxLen]) rfl (.inr (by kernel_rfl))
theorem ti181 : TIOK Tryz.prog 181 ⟨.func, 1, 8, .nilFunc, [.nilfn]⟩ :=
  TIOK.mk' (by kernel_rfl) Tryz.underlying181 ⟨_, _, _, rfl⟩ rfl (by simp [RepL, RepP, Value.cells, maxLen]) rfl (.inr (by kernel_rfl))
theorem ti182 : TIOK Tryz.prog 182 ⟨.func, 1, 8, .nilFunc, [.nilfn]⟩ :=
  TIOK.mk' (by kernel_rfl) Tryz.underlying182 ⟨_, _, _, rfl⟩ rfl (by simp [RepL, RepP, Value.cells, maxLen]) rfl (.inr (by kernel_rfl))
theorem ti183 : TIOK Tryz.prog 183 ⟨.func, 1, 8, .nilFunc, [.nilfn]⟩ :=
  TIOK.mk' (by kernel_rfl) Tryz.underlying183 ⟨_, _, _, rfl⟩ rfl (by simp [RepL, RepP, Value.cells, maxLen]) rfl (.inr (by kernel_rfl))
theorem ti184 : TIOK Tryz.prog 184 ⟨.func, 1, 8, .nilFunc, [.nilfn]⟩ :=
  TIOK.mk' (by kernel_rfl) Tryz.underlying184 ⟨_, _, _, rfl⟩ rfl (by simp [RepL, RepP, Value.cells, maxLen]) rfl (.inr (by kernel_rfl))
theorem ti185 : TIOK Tryz.prog 185 ⟨.struct [(0, 5), (5, 5), (10, 5)], 15, 216, (.agg #[(.int .i64 0), (.int .i64 0), (.int .i64 0), (.slice none 0 0), (.slice none 0 0), (.int .i64 0), (.int .i64 0), (.int .i64 0), (.slice none 0 0), (.slice none 0 0), (.int .i64 0), (.int .i64 0), (.int .i64 0), (.slice none 0 0), (.slice none 0 0)]), [.int 0, .int 0, .int 0, .slice [], .slice [], .int 0, .int 0, .int 0, .slice [], .slice [], .int 0, .int 0, .int 0, .slice [], .slice []]⟩ :=
  TIOK.mk' (by kernel_rfl) Tryz.underlying185 ⟨_, rfl, by kernel_rfl⟩ rfl (by simp [RepL, RepP, Value.cells, maxLen]) rfl (.inr (by kernel_rfl))
theorem ti186 : TIOK Tryz.prog 186 ⟨.struct [(0, 5), (5, 5), (10, 5)], 15, 216, (.agg #[(.int .i64 0), (.int .i64 0), (.int .i64 0), (.slice none 0 0), (.slice none 0 0), (.int .i64 0), (.int .i64 0), (.int .i64 0), (.slice none 0 0), (.slice none 0 0), (.int .i64 0), (.int .i64 0), (.int .i64 0), (.slice none 0 0), (.slice none 0 0)]), [.int 0, .int 0, .int 0, .slice [], .slice [], .int 0, .int 0, .int 0, .slice [], .slice [], .int 0, .int 0, .int 0, .slice [], .slice []]⟩ :=
  TIOK.mk' (by kernel_rfl) Tryz.underlying186 ⟨_, rfl, by kernel_rfl⟩ rfl (by simp [RepL, RepP, Value.cells, maxLen]) rfl (.inr (by kernel_rfl))
theorem ti188 : TIOK Tryz.prog 188 ⟨.array 2 3, 2, 16, (.agg #[(.int .i64 0), (.int .i64 0)]), [.int 0, .int 0]⟩ :=
  TIOK.mk' (by kernel_rfl) Tryz.underlying188 rfl rfl (by simp [RepL, RepP, Value.cells, maxLen]) rfl (.inr (by kernel_rfl))
theorem ti189 : TIOK Tryz.prog 189 ⟨.func, 1, 8, .nilFunc, [.nilfn]⟩ :=
  TIOK.mk' (by kernel_rfl) Tryz.underlying189 ⟨_, _, _, rfl⟩ rfl (by simp [RepL, RepP, Value.cells, maxLen]) rfl (.inr (by kernel_rfl))
theorem ti190 : TIOK Tryz.prog 190 ⟨.struct [(0, 1), (1, 1)], 2, 16, (.agg #[(.int .i64 0), (.int .i64 0)]), [.int 0, .int 0]⟩ :=
  TIOK.mk' (by kernel_rfl) Tryz.underlying190 ⟨_, rfl, by kernel_rfl⟩ rfl (by simp [RepL, RepP, Value.cells, maxLen]) rfl (.inr (by kernel_rfl))
theorem ti191 : TIOK Tryz.prog 191 ⟨.struct [(0, 1), (1, 1)], 2, 16, (.agg #[(.int .i64 0), (.int .i64 0)]), [.int 0, .int 0]⟩ :=
  TIOK.mk' (by kernel_rfl) Tryz.underlying191 ⟨_, rfl, by kernel_rfl⟩ rfl (by simp [RepL, RepP, Value.cells, maxLen]) rfl (.inr (by kernel_rfl))
theorem ti192 : TIOK Tryz.prog 192 ⟨.array 14 191, 28, 224, (.agg #[(.int .i64 0), (.int .i64 0), (.int .i64 0), (.int .i64 0), (.int .i64 0), (.int .i64 0), (.int .i64 0), (.int .i64 0), (.int .i64 0), (.int .i64 0), (.int .i64 0), (.int .i64 0), (.int .i64 0), (.int .i64 0), (.int .i64 0), (.int .i64 0), (.int .i64 0), (.int .i64 0), (.int .i64 0), (.int .i64 0), (.int .i64 0), (.int .i64 0), (.int .i64 0), (.int .i64 0), (.int .i64 0), (.int .i64 0), (.int .i64 0), (.int .i64 0)]), [.int 0, .int 0, .int 0, .int 0, .int 0, .int 0, .int 0, .int 0, .int 0, .int 0, .int 0, .int 0, .int 0, .int 0, .int 0, .int 0, .int 0, .int 0, .int 0, .int 0, .int 0, .int 0, .int 0, .int 0, .int 0, .int 0, .int 0, .int 0]⟩ :=
  TIOK.mk' (by kernel_rfl) Tryz.underlying192 rfl rfl (by simp [RepL, RepP, Value.cells, maxLen]) rfl (.inr (by kernel_rfl))
theorem ti193 : TIOK Tryz.prog 193 ⟨.func, 1, 8, .nilFunc, [.nilfn]⟩ :=
  TIOK.mk' (by kernel_rfl) Tryz.underlying193 ⟨_, _, _, rfl⟩ rfl (by simp [RepL, RepP, Value.cells, maxLen]) rfl (.inr (by kernel_rfl))
theorem ti194 : TIOK Tryz.prog 194 ⟨.func, 1, 8, .nilFunc, [.nilfn]⟩ :=
  TIOK.mk' (by kernel_rfl) Tryz.underlying194 ⟨_, _, _, rfl⟩ rfl (by simp [RepL, RepP, Value.cells, maxLen]) rfl (.inr (by kernel_rfl))
theorem ti195 : TIOK Tryz.prog 195 ⟨.func, 1, 8, .nilFunc, [.nilfn]⟩ :=
  TIOK.mk' (by kernel_rfl) Tryz.underlying195 ⟨_, _, _, rfl⟩ rfl (by simp [RepL, RepP, Value.cells, maxLen]) rfl (.inr (by kernel_rfl))
theorem ti196 : TIOK Tryz.prog 196 ⟨.func, 1, 8, .nilFunc, [.nilfn]⟩ :=
  TIOK.mk' (by kernel_rfl) Tryz.underlying196 ⟨_, _, _, rfl⟩ rfl (by simp [RepL, RepP, Value.cells, maxLen]) rfl (.inr (by kernel_rfl))
theorem ti197 : TIOK Tryz.prog 197 ⟨.func, 1, 8, .nilFunc, [.nilfn]⟩ :=
  TIOK.mk' (by kernel_rfl) Tryz.underlying197 ⟨_, _, _, rfl⟩ rfl (by simp [RepL, RepP, Value.cells, maxLen]) rfl (.inr (by kernel_rfl))
theorem ti198 : TIOK Tryz.prog 198 ⟨.pointer, 1, 8, (.pointer none), [.nil]⟩ :=
  TIOK.mk' (by kernel_rfl) Tryz.underlying198 ⟨_, rfl⟩ rfl (by simp [RepL, RepP, Value.cells, maxLen]) rfl (.inr (by kernel_rfl))
theorem ti199 : TIOK Tryz.prog 199 ⟨.func, 1, 8, .nilFunc, [.nilfn]⟩ :=
  TIOK.mk' (by kernel_rfl) Tryz.underlying199 ⟨_, _, _, rfl⟩ rfl (by simp [RepL, RepP, Value.cells, maxLen]) rfl (.inr (by kernel_rfl))
theorem ti201 : TIOK Tryz.prog 201 ⟨.func, 1, 8, .nilFunc, [.nilfn]⟩ :=
  TIOK.mk' (by kernel_rfl) Tryz.underlying201 ⟨_, _, _, rfl⟩ rfl (by simp [RepL, RepP, Value.cells, maxLen]) rfl (.inr (by kernel_rfl))
theorem ti202 : TIOK Tryz.prog 202 ⟨.slice 87, 1, 24, (.slice none 0 0), [.slice []]⟩ :=
  TIOK.mk' (by kernel_rfl) Tryz.underlying202 rfl rfl (by simp [RepL, RepP, Value.cells, maxLen]) rfl (.inr (by kernel_rfl))
theorem ti203 : TIOK Tryz.prog 203 ⟨.struct [(0, 1), (1, 1), (2, 1), (3, 1), (4, 1), (5, 1)], 6, 80, (.agg #[(.pointer none), (.int .i64 0), (.slice none 0 0), (.int .i64 0), (.pointer none), (.slice none 0 0)]), [.nil, .int 0, .slice [], .int 0, .nil, .slice []]⟩ :=
  TIOK.mk' (by kernel_rfl) Tryz.underlying203 ⟨_, rfl, by kernel_rfl⟩ rfl (by simp [RepL, RepP, Value.cells, maxLen]) rfl (.inr (by kernel_rfl))
theorem ti204 : TIOK Tryz.prog 204 ⟨.struct [(0, 1), (1, 1), (2, 1), (3, 1), (4, 1), (5, 1)], 6, 80, (.agg #[(.pointer none), (.int .i64 0), (.slice none 0 0), (.int .i64 0), (.pointer none), (.slice none 0 0)]), [.nil, .int 0, .nils, .int 0, .nil, .nils]⟩ :=
  TIOK.mk' (by kernel_rfl) Tryz.underlying204 ⟨_, rfl, by kernel_rfl⟩ rfl (by simp [RepL, RepP, Value.cells, maxLen]) rfl (.inr (by kernel_rfl))
theorem ti205 : TIOK Tryz.prog 205 ⟨.struct [(0, 1), (1, 1), (2, 1), (3, 1), (4, 1)], 5, 40, (.agg #[(.int .i64 0), (.pointer none), (.pointer none), (.pointer none), (.pointer none)]), [.int 0, .nil, .nil, .nil, .nil]⟩ :=
  TIOK.mk' (by kernel_rfl) Tryz.underlying205 ⟨_, rfl, by kernel_rfl⟩ rfl (by simp [RepL, RepP, Value.cells, maxLen]) rfl (.inr (by kernel_rfl))
theorem ti206 : TIOK Tryz.prog 206 ⟨.struct [(0, 1), (1, 1), (2, 1), (3, 1), (4, 1)], 5, 40, (.agg #[(.int .i64 0), (.pointer none), (.pointer none), (.pointer none), (.pointer none)]), [.int 0, .nil, .nil, .nil, .nil]⟩ :=
  TIOK.mk' (by kernel_rfl) Tryz.underlying206 ⟨_, rfl, by kernel_rfl⟩ rfl (by simp [RepL, RepP, Value.cells, maxLen]) rfl (.inr (by kernel_rfl))
theorem ti207 : TIOK Tryz.prog 207 ⟨.func, 1, 8, .nilFunc, [.nilfn]⟩ :=
  TIOK.mk' (by kernel_rfl) Tryz.underlying207 ⟨_, _, _, rfl⟩ rfl (by simp [RepL, RepP, Value.cells, maxLen]) rfl (.inr (by kernel_rfl))
theorem ti208 : TIOK Tryz.prog 208 ⟨.func, 1, 8, .nilFunc, [.nilfn]⟩ :=
  TIOK.mk' (by kernel_rfl) Tryz.underlying208 ⟨_, _, _, rfl⟩ rfl (by simp [RepL, RepP, Value.cells, maxLen]) rfl (.inr (by kernel_rfl))
theorem ti209 : TIOK Tryz.prog 209 ⟨.func, 1, 8, .nilFunc, [.nilfn]⟩ :=
  TIOK.mk' (by kernel_rfl) Tryz.underlying209 ⟨_, _, _, rfl⟩ rfl (by simp [RepL, RepP, Value.cells, maxLen]) rfl (.inr (by kernel_rfl))
theorem ti210 : TIOK Tryz.prog 210 ⟨.func, 1, 8, .nilFunc, [.nilfn]⟩ :=
  TIOK.mk' (by kernel_rfl) Tryz.underlying210 ⟨_, _, _, rfl⟩ rfl (by simp [RepL, RepP, Value.cells, maxLen]) rfl (.inr (by kernel_rfl))
theorem ti212 : TIOK Tryz.prog 212 ⟨.func, 1, 8, .nilFunc, [.nilfn]⟩ :=
  TIOK.mk' (by kernel_rfl) Tryz.underlying212 ⟨_, _, _, rfl⟩ rfl (by simp [RepL, RepP, Value.cells, maxLen]) rfl (.inr (by kernel_rfl))
theorem ti213 : TIOK Tryz.prog 213 ⟨.func, 1, 8, .nilFunc, [.nilfn]⟩ :=
  TIOK.mk' (by kernel_rfl) Tryz.underlying213 ⟨_, _, _, rfl⟩ rfl (by simp [RepL, RepP, Value.cells, maxLen]) rfl (.inr (by kernel_rfl))
theorem ti214 : TIOK Tryz.prog 214 ⟨.func, 1, 8, .nilFunc, [.nilfn]⟩ :=
  TIOK.mk' (by kernel_rfl) Tryz.underlying214 ⟨_, _, _, rfl⟩ rfl (by simp [RepL, RepP, Value.cells, maxLen]) rfl (.inr (by kernel_rfl))
theorem ti215 : TIOK Tryz.prog 215 ⟨.func, 1, 8, .nilFunc, [.nilfn]⟩ :=
  TIOK.mk' (by kernel_rfl) Tryz.underlying215 ⟨_, _, _, rfl⟩ rfl (by simp [RepL, RepP, Value.cells, maxLen]) rfl (.inr (by kernel_rfl))
theorem ti216 : TIOK Tryz.prog 216 ⟨.func, 1, 8, .nilFunc, [.nilfn]⟩ :=
  TIOK.mk' (by kernel_rfl) Tryz.underlying216 ⟨_, _, _, rfl⟩ rfl (by simp [RepL, RepP, Value.cells, maxLen]) rfl (.inr (by kernel_rfl))
theorem ti217 : TIOK Tryz.prog 217 ⟨.func, 1, 8, .nilFunc, [.nilfn]⟩ :=
  TIOK.mk' (by kernel_rfl) Tryz.underlying217 ⟨_, _, _, rfl⟩ rfl (by simp [RepL, RepP, Value.cells, maxLen]) rfl (.inr (by kernel_rfl))
theorem ti218 : TIOK Tryz.prog 218 ⟨.func, 1, 8, .nilFunc, [.nilfn]⟩ :=
  TIOK.mk' (by kernel_rfl) Tryz.underlying218 ⟨_, _, _, rfl⟩ rfl (by simp [RepL, RepP, Value.cells, maxLen]) rfl (.inr (by kernel_rfl))
theorem ti219 : TIOK Tryz.prog 219 ⟨.func, 1, 8, .nilFunc, [.nilfn]⟩ :=
  TIOK.mk' (by kernel_rfl) Tryz.underlying219 ⟨_, _, _, rfl⟩ rfl (by simp [RepL, RepP, Value.cells, maxLen]) rfl (.inr (by kernel_rfl))
theorem ti220 : TIOK Tryz.prog 220 ⟨.slice 163, 1, 24, (.slice none 0 0), [.slice []]⟩ :=
  TIOK.mk' (by kernel_rfl) Tryz.underlying220 rfl rfl (by simp [RepL, RepP, Value.cells, maxLen]) rfl (.inr (by kernel_rfl))
theorem ti222 : TIOK Tryz.prog 222 ⟨.func, 1, 8, .nilFunc, [.nilfn]⟩ :=
  TIOK.mk' (by kernel_rfl) Tryz.underlying222 ⟨_, _, _, rfl⟩ rfl (by simp [RepL, RepP, Value.cells, maxLen]) rfl (.inr (by kernel_rfl))
theorem ti223 : TIOK Tryz.prog 223 ⟨.func, 1, 8, .nilFunc, [.nilfn]⟩ :=
  TIOK.mk' (by kernel_rfl) Tryz.underlying223 ⟨_, _, _, rfl⟩ rfl (by simp [RepL, RepP, Value.cells, maxLen]) rfl (.inr (by kernel_rfl))
theorem ti225 : TIOK Tryz.prog 225 ⟨.func, 1, 8, .nilFunc, [.nilfn]⟩ :=
  TIOK.mk' (by kernel_rfl) Tryz.underlying225 ⟨_, _, _, rfl⟩ rfl (by simp [RepL, RepP, Value.cells, maxLen]) rfl (.inr (by kernel_rfl))
theorem ti226 : TIOK Tryz.prog 226 ⟨.func, 1, 8, .nilFunc, [.nilfn]⟩ :=
  TIOK.mk' (by kernel_rfl) Tryz.underlying226 ⟨_, _, _, rfl⟩ rfl (by simp [RepL, RepP, Value.cells, maxLen]) rfl (.inr (by kernel_rfl))
theorem ti227 : TIOK Tryz.prog 227 ⟨.struct [(0, 1), (1, 1), (2, 1)], 3, 24, (.agg #[(.int .i64 0), (.int .i64 0), (.int .i64 0)]), [.int 0, .int 0, .int 0]⟩ :=
  TIOK.mk' (by kernel_rfl) Tryz.underlying227 ⟨_, rfl, by kernel_rfl⟩ rfl (by simp [RepL, RepP, Value.cells, maxLen]) rfl (.inr (by kernel_rfl))
theorem ti228 : TIOK Tryz.prog 228 ⟨.struct [(0, 1), (1, 1), (2, 1)], 3, 24, (.agg #[(.int .i64 0), (.int .i64 0), (.int .i64 0)]), [.int 0, .int 0, .int 0]⟩ :=
  TIOK.mk' (by kernel_rfl) Tryz.underlying228 ⟨_, rfl, by kernel_rfl⟩ rfl (by simp [RepL, RepP, Value.cells, maxLen]) rfl (.inr (by kernel_rfl))
theorem ti229 : TIOK Tryz.prog 229 ⟨.func, 1, 8, .nilFunc, [.nilfn]⟩ :=
  TIOK.mk' (by kernel_rfl) Tryz.underlying229 ⟨_, _, _, rfl⟩ rfl (by simp [RepL, RepP, Value.cells, maxLen]) rfl (.inr (by kernel_rfl))
theorem ti230 : TIOK Tryz.prog 230 ⟨.func, 1, 8, .nilFunc, [.nilfn]⟩ :=
  TIOK.mk' (by kernel_rfl) Tryz.underlying230 ⟨_, _, _, rfl⟩ rfl (by simp [RepL, RepP, Value.cells, maxLen]) rfl (.inr (by kernel_rfl))
theorem ti231 : TIOK Tryz.prog 231 ⟨.func, 1, 8, .nilFunc, [.nilfn]⟩ :=
  TIOK.mk' (by kernel_rfl) Tryz.underlying231 ⟨_, _, _, rfl⟩ rfl (by simp [RepL, RepP, Value.cells, maxLen]) rfl (.inr (by kernel_rfl))
theorem ti232 : TIOK Tryz.prog 232 ⟨.func, 1, 8, .nilFunc, [.nilfn]⟩ :=
  TIOK.mk' (by kernel_rfl) Tryz.underlying232 ⟨_, _, _, rfl⟩ rfl (by simp [RepL, RepP, Value.cells, maxLen]) rfl (.inr (by kernel_rfl))
theorem ti235 : TIOK Tryz.prog 235 ⟨.array 0 16, 0, 0, (.agg #[]), []⟩ :=
  TIOK.mk' (by kernel_rfl) Tryz.underlying235 rfl rfl (by simp [RepL, RepP, Value.cells, maxLen]) rfl (.inr (by kernel_rfl))
theorem ti236 : TIOK Tryz.prog 236 ⟨.struct [(0, 0)], 0, 0, (.agg #[]), []⟩ :=
  TIOK.mk' (by kernel_rfl) Tryz.underlying236 ⟨_, rfl, by kernel_rfl⟩ rfl (by simp [RepL, RepP, Value.cells, maxLen]) rfl (.inr (by kernel_rfl))
theorem ti237 : TIOK Tryz.prog 237 ⟨.struct [(0, 0)], 0, 0, (.agg #[]), []⟩ :=
  TIOK.mk' (by kernel_rfl) Tryz.underlying237 ⟨_, rfl, by kernel_rfl⟩ rfl (by simp [RepL, RepP, Value.cells, maxLen]) rfl (.inr (by kernel_rfl))
theorem ti241 : TIOK Tryz.prog 241 ⟨.func, 1, 8, .nilFunc, [.nilfn]⟩ :=
  TIOK.mk' (by kernel_rfl) Tryz.underlying241 ⟨_, _, _, rfl⟩ rfl (by simp [RepL, RepP, Value.cells, maxLen]) rfl (.inr (by kernel_rfl))
theorem ti242 : TIOK Tryz.prog 242 ⟨.pointer, 1, 8, (.pointer none), [.nil]⟩ :=
  TIOK.mk' (by kernel_rfl) Tryz.underlying242 ⟨_, rfl⟩ rfl (by simp [RepL, RepP, Value.cells, maxLen]) rfl (.inr (by kernel_rfl))
theorem tt1 : tt 1 = some ⟨.func, 1, 8, .nilFunc, [.nilfn]⟩ := rfl
theorem tt2 : tt 2 = some ⟨.other, 1, 8, (.int .i64 0), [.int 0]⟩ := rfl
theorem tt3 : tt 3 = some ⟨.other, 1, 8, (.int .i64 0), [.int 0]⟩ := rfl
theorem tt4 : tt 4 = some ⟨.bool, 1, 1, (.bool false), [.bool false]⟩ := rfl
theorem tt15 : tt 15 = some ⟨.pointer, 1, 8, (.pointer none), [.nil]⟩ := rfl
theorem tt16 : tt 16 = some ⟨.pointer, 1, 8, (.pointer none), [.nil]⟩ := rfl
theorem tt17 : tt 17 = some ⟨.pointer, 1, 8, (.pointer none), [.nil]⟩ := rfl
theorem tt18 : tt 18 = some ⟨.struct [(0, 1)], 1, 8, (.agg #[(.pointer none)]), [.nil]⟩ := rfl
theorem tt19 : tt 19 = some ⟨.struct [(0, 1)], 1, 8, (.agg #[(.pointer none)]), [.nil]⟩ := rfl
theorem tt20 : tt 20 = some ⟨.iface, 1, 16, .nilIface, [.nilif]⟩ := rfl
theorem tt22 : tt 22 = some ⟨.slice 3, 1, 24, (.slice none 0 0), [.slice []]⟩ := rfl
theorem tt23 : tt 23 = some ⟨.func, 1, 8, .nilFunc, [.nilfn]⟩ := rfl
theorem tt24 : tt 24 = some ⟨.func, 1, 8, .nilFunc, [.nilfn]⟩ := rfl
theorem tt25 : tt 25 = some ⟨.slice 27, 1, 24, (.slice none 0 0), [.slice []]⟩ := rfl
theorem tt26 : tt 26 = some ⟨.struct [(0, 1), (1, 1)], 2, 32, (.agg #[(.int .i64 0), (.slice none 0 0)]), [.int 0, .slice []]⟩ := rfl
theorem tt27 : tt 27 = some ⟨.struct [(0, 1), (1, 1)], 2, 32, (.agg #[(.int .i64 0), (.slice none 0 0)]), [.int 0, .slice []]⟩ := rfl
theorem tt28 : tt 28 = some ⟨.slice 30, 1, 24, (.slice none 0 0), [.slice []]⟩ := rfl
theorem tt29 : tt 29 = some ⟨.struct [(0, 1), (1, 1), (2, 2), (4, 1)], 5, 72, (.agg #[(.int .i64 0), (.int .i64 0), (.int .i64 0), (.slice none 0 0), (.slice none 0 0)]), [.int 0, .int 0, .int 0, .slice [], .slice []]⟩ := rfl
theorem tt30 : tt 30 = some ⟨.struct [(0, 1), (1, 1), (2, 2), (4, 1)], 5, 72, (.agg #[(.int .i64 0), (.int .i64 0), (.int .i64 0), (.slice none 0 0), (.slice none 0 0)]), [.int 0, .int 0, .int 0, .slice [], .slice []]⟩ := rfl
theorem tt32 : tt 32 = some ⟨.func, 1, 8, .nilFunc, [.nilfn]⟩ := rfl
theorem tt33 : tt 33 = some ⟨.pointer, 1, 8, (.pointer none), [.nil]⟩ := rfl
theorem tt34 : tt 34 = some ⟨.func, 1, 8, .nilFunc, [.nilfn]⟩ := rfl
theorem tt35 : tt 35 = some ⟨.slice 70, 1, 24, (.slice none 0 0), [.slice []]⟩ := rfl
theorem tt36 : tt 36 = some ⟨.other, 1, 8, (.int .i64 0), [.int 0]⟩ := rfl
theorem tt38 : tt 38 = some ⟨.func, 1, 8, .nilFunc, [.nilfn]⟩ := rfl
theorem tt39 : tt 39 = some ⟨.slice 41, 1, 24, (.slice none 0 0), [.slice []]⟩ := rfl
theorem tt40 : tt 40 = some ⟨.struct [(0, 1), (1, 1), (2, 1), (3, 1)], 4, 64, (.agg #[(.int .i64 0), (.int .i64 0), (.slice none 0 0), (.slice none 0 0)]), [.int 0, .int 0, .slice [], .slice []]⟩ := rfl
theorem tt41 : tt 41 = some ⟨.struct [(0, 1), (1, 1), (2, 1), (3, 1)], 4, 64, (.agg #[(.int .i64 0), (.int .i64 0), (.slice none 0 0), (.slice none 0 0)]), [.int 0, .int 0, .nils, .nils]⟩ := rfl
theorem tt43 : tt 43 = some ⟨.func, 1, 8, .nilFunc, [.nilfn]⟩ := rfl
theorem tt44 : tt 44 = some ⟨.func, 1, 8, .nilFunc, [.nilfn]⟩ := rfl
theorem tt45 : tt 45 = some ⟨.slice 47, 1, 24, (.slice none 0 0), [.slice []]⟩ := rfl
theorem tt46 : tt 46 = some ⟨.struct [(0, 1), (1, 1), (2, 1), (3, 1), (4, 1)], 5, 72, (.agg #[(.int .i64 0), (.int .i64 0), (.int .i64 0), (.slice none 0 0), (.slice none 0 0)]), [.int 0, .int 0, .int 0, .slice [], .slice []]⟩ := rfl
theorem tt47 : tt 47 = some ⟨.struct [(0, 1), (1, 1), (2, 1), (3, 1), (4, 1)], 5, 72, (.agg #[(.int .i64 0), (.int .i64 0), (.int .i64 0), (.slice none 0 0), (.slice none 0 0)]), [.int 0, .int 0, .int 0, .nils, .nils]⟩ := rfl
theorem tt49 : tt 49 = some ⟨.func, 1, 8, .nilFunc, [.nilfn]⟩ := rfl
theorem tt51 : tt 51 = some ⟨.func, 1, 8, .nilFunc, [.nilfn]⟩ := rfl
theorem tt52 : tt 52 = some ⟨.func, 1, 8, .nilFunc, [.nilfn]⟩ := rfl
theorem tt54 : tt 54 = some ⟨.func, 1, 8, .nilFunc, [.nilfn]⟩ := rfl
theorem tt55 : tt 55 = some ⟨.func, 1, 8, .nilFunc, [.nilfn]⟩ := rfl
theorem tt56 : tt 56 = some ⟨.func, 1, 8, .nilFunc, [.nilfn]⟩ := rfl
theorem tt58 : tt 58 = some ⟨.func, 1, 8, .nilFunc, [.nilfn]⟩ := rfl
theorem tt59 : tt 59 = some ⟨.func, 1, 8, .nilFunc, [.nilfn]⟩ := rfl
theorem tt60 : tt 60 = some ⟨.func, 1, 8, .nilFunc, [.nilfn]⟩ := rfl
theorem tt61 : tt 61 = some ⟨.func, 1, 8, .nilFunc, [.nilfn]⟩ := rfl
theorem tt62 : tt 62 = some ⟨.func, 1, 8, .nilFunc, [.nilfn]⟩ := rfl
theorem tt63 : tt 63 = some ⟨.func, 1, 8, .nilFunc, [.nilfn]⟩ := rfl
theorem tt64 : tt 64 = some ⟨.func, 1, 8, .nilFunc, [.nilfn]⟩ := rfl
theorem tt65 : tt 65 = some ⟨.func, 1, 8, .nilFunc, [.nilfn]⟩ := rfl
theorem tt66 : tt 66 = some ⟨.func, 1, 8, .nilFunc, [.nilfn]⟩ := rfl
theorem tt68 : tt 68 = some ⟨.func, 1, 8, .nilFunc, [.nilfn]⟩ := rfl
theorem tt69 : tt 69 = some ⟨.struct [(0, 1), (1, 1)], 2, 16, (.agg #[(.int .i64 0), (.int .i64 0)]), [.int 0, .int 0]⟩ := rfl
theorem tt70 : tt 70 = some ⟨.struct [(0, 1), (1, 1)], 2, 16, (.agg #[(.int .i64 0), (.int .i64 0)]), [.int 0, .int 0]⟩ := rfl
theorem tt72 : tt 72 = some ⟨.func, 1, 8, .nilFunc, [.nilfn]⟩ := rfl
theorem tt73 : tt 73 = some ⟨.func, 1, 8, .nilFunc, [.nilfn]⟩ := rfl
theorem tt74 : tt 74 = some ⟨.func, 1, 8, .nilFunc, [.nilfn]⟩ := rfl
theorem tt75 : tt 75 = some ⟨.struct [(0, 1), (1, 1)], 2, 32, (.agg #[(.slice none 0 0), (.int .i64 0)]), [.slice [], .int 0]⟩ := rfl
theorem tt76 : tt 76 = some ⟨.struct [(0, 1), (1, 1)], 2, 32, (.agg #[(.slice none 0 0), (.int .i64 0)]), [.slice [], .int 0]⟩ := rfl
theorem tt77 : tt 77 = some ⟨.func, 1, 8, .nilFunc, [.nilfn]⟩ := rfl
theorem tt78 : tt 78 = some ⟨.pointer, 1, 8, (.pointer none), [.nil]⟩ := rfl
theorem tt79 : tt 79 = some ⟨.struct [(0, 1), (1, 1), (2, 1)], 3, 72, (.agg #[(.slice none 0 0), (.slice none 0 0), (.slice none 0 0)]), [.slice [], .slice [], .slice []]⟩ := rfl
theorem tt80 : tt 80 = some ⟨.struct [(0, 1), (1, 1), (2, 1)], 3, 72, (.agg #[(.slice none 0 0), (.slice none 0 0), (.slice none 0 0)]), [.nils, .nils, .nils]⟩ := rfl
theorem tt81 : tt 81 = some ⟨.func, 1, 8, .nilFunc, [.nilfn]⟩ := rfl
theorem tt82 : tt 82 = some ⟨.func, 1, 8, .nilFunc, [.nilfn]⟩ := rfl
theorem tt83 : tt 83 = some ⟨.func, 1, 8, .nilFunc, [.nilfn]⟩ := rfl
theorem tt84 : tt 84 = some ⟨.pointer, 1, 8, (.pointer none), [.nil]⟩ := rfl
theorem tt85 : tt 85 = some ⟨.func, 1, 8, .nilFunc, [.nilfn]⟩ := rfl
theorem tt86 : tt 86 = some ⟨.func, 1, 8, .nilFunc, [.nilfn]⟩ := rfl
theorem tt87 : tt 87 = some ⟨.slice 132, 1, 24, (.slice none 0 0), [.slice []]⟩ := rfl
theorem tt88 : tt 88 = some ⟨.slice 206, 1, 24, (.slice none 0 0), [.slice []]⟩ := rfl
theorem tt89 : tt 89 = some ⟨.pointer, 1, 8, (.pointer none), [.nil]⟩ := rfl
theorem tt90 : tt 90 = some ⟨.struct [(0, 1), (1, 1), (2, 1), (3, 1), (4, 1), (5, 1), (6, 1), (7, 1), (8, 1)], 9, 120, (.agg #[(.slice none 0 0), (.int .i64 0), (.int .i64 0), .nilFunc, .nilFunc, (.slice none 0 0), (.slice none 0 0), (.int .i64 0), (.pointer none)]), [.slice [], .int 0, .int 0, .nilfn, .nilfn, .slice [], .slice [], .int 0, .nil]⟩ := rfl
theorem tt91 : tt 91 = some ⟨.struct [(0, 1), (1, 1), (2, 1), (3, 1), (4, 1), (5, 1), (6, 1), (7, 1), (8, 1)], 9, 120, (.agg #[(.slice none 0 0), (.int .i64 0), (.int .i64 0), .nilFunc, .nilFunc, (.slice none 0 0), (.slice none 0 0), (.int .i64 0), (.pointer none)]), [.nils, .int 0, .int 0, .nilfn, .nilfn, .nils, .nils, .int 0, .nil]⟩ := rfl
theorem tt92 : tt 92 = some ⟨.func, 1, 8, .nilFunc, [.nilfn]⟩ := rfl
theorem tt93 : tt 93 = some ⟨.func, 1, 8, .nilFunc, [.nilfn]⟩ := rfl
theorem tt94 : tt 94 = some ⟨.pointer, 1, 8, (.pointer none), [.nil]⟩ := rfl
theorem tt95 : tt 95 = some ⟨.func, 1, 8, .nilFunc, [.nilfn]⟩ := rfl
theorem tt96 : tt 96 = some ⟨.func, 1, 8, .nilFunc, [.nilfn]⟩ := rfl
theorem tt97 : tt 97 = some ⟨.func, 1, 8, .nilFunc, [.nilfn]⟩ := rfl
theorem tt99 : tt 99 = some ⟨.func, 1, 8, .nilFunc, [.nilfn]⟩ := rfl
theorem tt100 : tt 100 = some ⟨.func, 1, 8, .nilFunc, [.nilfn]⟩ := rfl
theorem tt101 : tt 101 = some ⟨.func, 1, 8, .nilFunc, [.nilfn]⟩ := rfl
theorem tt103 : tt 103 = some ⟨.func, 1, 8, .nilFunc, [.nilfn]⟩ := rfl
theorem tt104 : tt 104 = some ⟨.pointer, 1, 8, (.pointer none), [.nil]⟩ := rfl
theorem tt105 : tt 105 = some ⟨.struct [(0, 1), (1, 1), (2, 1)], 3, 24, (.agg #[(.int .i64 0), (.int .i64 0), (.bool false)]), [.int 0, .int 0, .bool false]⟩ := rfl
theorem tt106 : tt 106 = some ⟨.struct [(0, 1), (1, 1), (2, 1)], 3, 24, (.agg #[(.int .i64 0), (.int .i64 0), (.bool false)]), [.int 0, .int 0, .bool false]⟩ := rfl
theorem tt107 : tt 107 = some ⟨.slice 109, 1, 24, (.slice none 0 0), [.slice []]⟩ := rfl
theorem tt108 : tt 108 = some ⟨.struct [(0, 1), (1, 1), (2, 1), (3, 5), (8, 1)], 9, 152, (.agg #[(.int .i64 0), (.slice none 0 0), (.slice none 0 0), (.int .i64 0), (.int .i64 0), (.int .i64 0), (.slice none 0 0), (.slice none 0 0), (.slice none 0 0)]), [.int 0, .slice [], .slice [], .int 0, .int 0, .int 0, .slice [], .slice [], .slice []]⟩ := rfl
theorem tt109 : tt 109 = some ⟨.struct [(0, 1), (1, 1), (2, 1), (3, 5), (8, 1)], 9, 152, (.agg #[(.int .i64 0), (.slice none 0 0), (.slice none 0 0), (.int .i64 0), (.int .i64 0), (.int .i64 0), (.slice none 0 0), (.slice none 0 0), (.slice none 0 0)]), [.int 0, .slice [], .slice [], .int 0, .int 0, .int 0, .slice [], .slice [], .slice []]⟩ := rfl
theorem tt110 : tt 110 = some ⟨.func, 1, 8, .nilFunc, [.nilfn]⟩ := rfl
theorem tt111 : tt 111 = some ⟨.func, 1, 8, .nilFunc, [.nilfn]⟩ := rfl
theorem tt112 : tt 112 = some ⟨.func, 1, 8, .nilFunc, [.nilfn]⟩ := rfl
theorem tt113 : tt 113 = some ⟨.func, 1, 8, .nilFunc, [.nilfn]⟩ := rfl
theorem tt115 : tt 115 = some ⟨.func, 1, 8, .nilFunc, [.nilfn]⟩ := rfl
theorem tt116 : tt 116 = some ⟨.func, 1, 8, .nilFunc, [.nilfn]⟩ := rfl
theorem tt117 : tt 117 = some ⟨.func, 1, 8, .nilFunc, [.nilfn]⟩ := rfl
theorem tt118 : tt 118 = some ⟨.pointer, 1, 8, (.pointer none), [.nil]⟩ := rfl
theorem tt120 : tt 120 = some ⟨.func, 1, 8, .nilFunc, [.nilfn]⟩ := rfl
theorem tt122 : tt 122 = some ⟨.map 132 3, 1, 8, (.map none), [.nilm]⟩ := rfl
theorem tt123 : tt 123 = some ⟨.map 163 3, 1, 8, (.map none), [.nilm]⟩ := rfl
theorem tt124 : tt 124 = some ⟨.map 89 3, 1, 8, (.map none), [.nilm]⟩ := rfl
theorem tt126 : tt 126 = some ⟨.struct [(0, 1), (1, 1), (2, 1), (3, 1), (4, 1), (5, 1)], 6, 48, (.agg #[(.map none), (.map none), (.map none), (.map none), (.map none), (.int .i64 0)]), [.nilm, .nilm, .nilm, .nilm, .nilm, .int 0]⟩ := rfl
theorem tt127 : tt 127 = some ⟨.struct [(0, 1), (1, 1), (2, 1), (3, 1), (4, 1), (5, 1)], 6, 48, (.agg #[(.map none), (.map none), (.map none), (.map none), (.map none), (.int .i64 0)]), [.nilm, .nilm, .nilm, .nilm, .nilm, .int 0]⟩ := rfl
theorem tt129 : tt 129 = some ⟨.func, 1, 8, .nilFunc, [.nilfn]⟩ := rfl
theorem tt130 : tt 130 = some ⟨.func, 1, 8, .nilFunc, [.nilfn]⟩ := rfl
theorem tt131 : tt 131 = some ⟨.func, 1, 8, .nilFunc, [.nilfn]⟩ := rfl
theorem tt132 : tt 132 = some ⟨.pointer, 1, 8, (.pointer none), [.nil]⟩ := rfl
theorem tt133 : tt 133 = some ⟨.func, 1, 8, .nilFunc, [.nilfn]⟩ := rfl
theorem tt134 : tt 134 = some ⟨.func, 1, 8, .nilFunc, [.nilfn]⟩ := rfl
theorem tt135 : tt 135 = some ⟨.func, 1, 8, .nilFunc, [.nilfn]⟩ := rfl
theorem tt136 : tt 136 = some ⟨.func, 1, 8, .nilFunc, [.nilfn]⟩ := rfl
theorem tt137 : tt 137 = some ⟨.func, 1, 8, .nilFunc, [.nilfn]⟩ := rfl
theorem tt138 : tt 138 = some ⟨.func, 1, 8, .nilFunc, [.nilfn]⟩ := rfl
theorem tt139 : tt 139 = some ⟨.func, 1, 8, .nilFunc, [.nilfn]⟩ := rfl
theorem tt140 : tt 140 = some ⟨.func, 1, 8, .nilFunc, [.nilfn]⟩ := rfl
theorem tt141 : tt 141 = some ⟨.func, 1, 8, .nilFunc, [.nilfn]⟩ := rfl
theorem tt142 : tt 142 = some ⟨.func, 1, 8, .nilFunc, [.nilfn]⟩ := rfl
theorem tt144 : tt 144 = some ⟨.func, 1, 8, .nilFunc, [.nilfn]⟩ := rfl
theorem tt146 : tt 146 = some ⟨.func, 1, 8, .nilFunc, [.nilfn]⟩ := rfl
theorem tt147 : tt 147 = some ⟨.func, 1, 8, .nilFunc, [.nilfn]⟩ := rfl
theorem tt148 : tt 148 = some ⟨.func, 1, 8, .nilFunc, [.nilfn]⟩ := rfl
theorem tt149 : tt 149 = some ⟨.func, 1, 8, .nilFunc, [.nilfn]⟩ := rfl
theorem tt150 : tt 150 = some ⟨.func, 1, 8, .nilFunc, [.nilfn]⟩ := rfl
theorem tt151 : tt 151 = some ⟨.func, 1, 8, .nilFunc, [.nilfn]⟩ := rfl
theorem tt152 : tt 152 = some ⟨.pointer, 1, 8, (.pointer none), [.nil]⟩ := rfl
theorem tt153 : tt 153 = some ⟨.slice 186, 1, 24, (.slice none 0 0), [.slice []]⟩ := rfl
theorem tt154 : tt 154 = some ⟨.struct [(0, 1), (1, 1), (2, 1), (3, 1), (4, 1), (5, 1), (6, 1)], 7, 88, (.agg #[(.slice none 0 0), (.int .i64 0), (.int .i64 0), (.int .i64 0), (.bool false), (.slice none 0 0), (.int .i64 0)]), [.slice [], .int 0, .int 0, .int 0, .bool false, .slice [], .int 0]⟩ := rfl
theorem tt155 : tt 155 = some ⟨.struct [(0, 1), (1, 1), (2, 1), (3, 1), (4, 1), (5, 1), (6, 1)], 7, 88, (.agg #[(.slice none 0 0), (.int .i64 0), (.int .i64 0), (.int .i64 0), (.bool false), (.slice none 0 0), (.int .i64 0)]), [.nils, .int 0, .int 0, .int 0, .bool false, .nils, .int 0]⟩ := rfl
theorem tt156 : tt 156 = some ⟨.func, 1, 8, .nilFunc, [.nilfn]⟩ := rfl
theorem tt157 : tt 157 = some ⟨.func, 1, 8, .nilFunc, [.nilfn]⟩ := rfl
theorem tt158 : tt 158 = some ⟨.func, 1, 8, .nilFunc, [.nilfn]⟩ := rfl
theorem tt159 : tt 159 = some ⟨.func, 1, 8, .nilFunc, [.nilfn]⟩ := rfl
theorem tt160 : tt 160 = some ⟨.func, 1, 8, .nilFunc, [.nilfn]⟩ := rfl
theorem tt161 : tt 161 = some ⟨.map 132 47, 1, 8, (.map none), [.nilm]⟩ := rfl
theorem tt163 : tt 163 = some ⟨.pointer, 1, 8, (.pointer none), [.nil]⟩ := rfl
theorem tt164 : tt 164 = some ⟨.array 2 132, 2, 16, (.agg #[(.pointer none), (.pointer none)]), [.nil, .nil]⟩ := rfl
theorem tt165 : tt 165 = some ⟨.struct [(0, 1), (1, 1), (2, 1), (3, 2), (5, 1), (6, 1), (7, 1), (8, 1)], 9, 72, (.agg #[(.int .i64 0), (.int .i64 0), (.pointer none), (.pointer none), (.pointer none), (.int .i64 0), (.pointer none), (.int .i64 0), (.bool false)]), [.int 0, .int 0, .nil, .nil, .nil, .int 0, .nil, .int 0, .bool false]⟩ := rfl
theorem tt166 : tt 166 = some ⟨.struct [(0, 1), (1, 1), (2, 1), (3, 2), (5, 1), (6, 1), (7, 1), (8, 1)], 9, 72, (.agg #[(.int .i64 0), (.int .i64 0), (.pointer none), (.pointer none), (.pointer none), (.int .i64 0), (.pointer none), (.int .i64 0), (.bool false)]), [.int 0, .int 0, .nil, .nil, .nil, .int 0, .nil, .int 0, .bool false]⟩ := rfl
theorem tt167 : tt 167 = some ⟨.struct [(0, 1), (1, 1), (2, 1)], 3, 24, (.agg #[(.int .i64 0), (.int .i64 0), (.pointer none)]), [.int 0, .int 0, .nil]⟩ := rfl
theorem tt168 : tt 168 = some ⟨.struct [(0, 1), (1, 1), (2, 1)], 3, 24, (.agg #[(.int .i64 0), (.int .i64 0), (.pointer none)]), [.int 0, .int 0, .nil]⟩ := rfl
theorem tt169 : tt 169 = some ⟨.func, 1, 8, .nilFunc, [.nilfn]⟩ := rfl
theorem tt170 : tt 170 = some ⟨.struct [(0, 1), (1, 1), (2, 1), (3, 1), (4, 1)], 5, 40, (.agg #[(.pointer none), (.int .i64 0), (.int .i64 0), (.bool false), (.pointer none)]), [.nil, .int 0, .int 0, .bool false, .nil]⟩ := rfl
theorem tt171 : tt 171 = some ⟨.struct [(0, 1), (1, 1), (2, 1), (3, 1), (4, 1)], 5, 40, (.agg #[(.pointer none), (.int .i64 0), (.int .i64 0), (.bool false), (.pointer none)]), [.nil, .int 0, .int 0, .bool false, .nil]⟩ := rfl
theorem tt172 : tt 172 = some ⟨.func, 1, 8, .nilFunc, [.nilfn]⟩ := rfl
theorem tt173 : tt 173 = some ⟨.func, 1, 8, .nilFunc, [.nilfn]⟩ := rfl
theorem tt174 : tt 174 = some ⟨.func, 1, 8, .nilFunc, [.nilfn]⟩ := rfl
theorem tt175 : tt 175 = some ⟨.func, 1, 8, .nilFunc, [.nilfn]⟩ := rfl
theorem tt177 : tt 177 = some ⟨.func, 1, 8, .nilFunc, [.nilfn]⟩ := rfl
theorem tt178 : tt 178 = some ⟨.struct [(0, 1)], 1, 8, (.agg #[(.int .i64 0)]), [.int 0]⟩ := rfl
theorem tt179 : tt 179 = some ⟨.struct [(0, 1)], 1, 8, (.agg #[(.int .i64 0)]), [.int 0]⟩ := rfl
theorem tt180 : tt 180 = some ⟨.func, 1, 8, .nilFunc, [.nilfn]⟩ := rfl
theorem tt181 : tt 181 = some ⟨.func, 1, 8, .nilFunc, [.nilfn]⟩ := rfl
theorem tt182 : tt 182 = some ⟨.func, 1, 8, .nilFunc, [.nilfn]⟩ := rfl
theorem tt183 : tt 183 = some ⟨.func, 1, 8, .nilFunc, [.nilfn]⟩ := rfl
theorem tt184 : tt 184 = some ⟨.func, 1, 8, .nilFunc, [.nilfn]⟩ := rfl
theorem tt185 : tt 185 = some ⟨.struct [(0, 5), (5, 5), (10, 5)], 15, 216, (.agg #[(.int .i64 0), (.int .i64 0), (.int .i64 0), (.slice none 0 0), (.slice none 0 0), (.int .i64 0), (.int .i64 0), (.int .i64 0), (.slice none 0 0), (.slice none 0 0), (.int .i64 0), (.int .i64 0), (.int .i64 0), (.slice none 0 0), (.slice none 0 0)]), [.int 0, .int 0, .int 0, .slice [], .slice [], .int 0, .int 0, .int 0, .slice [], .slice [], .int 0, .int 0, .int 0, .slice [], .slice []]⟩ := rfl
theorem tt186 : tt 186 = some ⟨.struct [(0, 5), (5, 5), (10, 5)], 15, 216, (.agg #[(.int .i64 0), (.int .i64 0), (.int .i64 0), (.slice none 0 0), (.slice none 0 0), (.int .i64 0), (.int .i64 0), (.int .i64 0), (.slice none 0 0), (.slice none 0 0), (.int .i64 0), (.int .i64 0), (.int .i64 0), (.slice none 0 0), (.slice none 0 0)]), [.int 0, .int 0, .int 0, .slice [], .slice [], .int 0, .int 0, .int 0, .slice [], .slice [], .int 0, .int 0, .int 0, .slice [], .slice []]⟩ := rfl
theorem tt188 : tt 188 = some ⟨.array 2 3, 2, 16, (.agg #[(.int .i64 0), (.int .i64 0)]), [.int 0, .int 0]⟩ := rfl
theorem tt189 : tt 189 = some ⟨.func, 1, 8, .nilFunc, [.nilfn]⟩ := rfl
theorem tt190 : tt 190 = some ⟨.struct [(0, 1), (1, 1)], 2, 16, (.agg #[(.int .i64 0), (.int .i64 0)]), [.int 0, .int 0]⟩ := rfl
theorem tt191 : tt 191 = some ⟨.struct [(0, 1), (1, 1)], 2, 16, (.agg #[(.int .i64 0), (.int .i64 0)]), [.int 0, .int 0]⟩ := rfl
theorem tt192 : tt 192 = some ⟨.array 14 191, 28, 224, (.agg #[(.int .i64 0), (.int .i64 0), (.int .i64 0), (.int .i64 0), (.int .i64 0), (.int .i64 0), (.int .i64 0), (.int .i64 0), (.int .i64 0), (.int .i64 0), (.int .i64 0), (.int .i64 0), (.int .i64 0), (.int .i64 0), (.int .i64 0), (.int .i64 0), (.int .i64 0), (.int .i64 0), (.int .i64 0), (.int .i64 0), (.int .i64 0), (.int .i64 0), (.int .i64 0), (.int .i64 0), (.int .i64 0), (.int .i64 0), (.int .i64 0), (.int .i64 0)]), [.int 0, .int 0, .int 0, .int 0, .int 0, .int 0, .int 0, .int 0, .int 0, .int 0, .int 0, .int 0, .int 0, .int 0, .int 0, .int 0, .int 0, .int 0, .int 0, .int 0, .int 0, .int 0, .int 0, .int 0, .int 0, .int 0, .int 0, .int 0]⟩ := rfl
theorem tt193 : tt 193 = some ⟨.func, 1, 8, .nilFunc, [.nilfn]⟩ := rfl
theorem tt194 : tt 194 = some ⟨.func, 1, 8, .nilFunc, [.nilfn]⟩ := rfl
theorem tt195 : tt 195 = some ⟨.func, 1, 8, .nilFunc, [.nilfn]⟩ := rfl
theorem tt196 : tt 196 = some ⟨.func, 1, 8, .nilFunc, [.nilfn]⟩ := rfl
theorem tt197 : tt 197 = some ⟨.func, 1, 8, .nilFunc, [.nilfn]⟩ := rfl
theorem tt198 : tt 198 = some ⟨.pointer, 1, 8, (.pointer none), [.nil]⟩ := rfl
theorem tt199 : tt 199 = some ⟨.func, 1, 8, .nilFunc, [.nilfn]⟩ := rfl
theorem tt201 : tt 201 = some ⟨.func, 1, 8, .nilFunc, [.nilfn]⟩ := rfl
theorem tt202 : tt 202 = some ⟨.slice 87, 1, 24, (.slice none 0 0), [.slice []]⟩ := rfl
theorem tt203 : tt 203 = some ⟨.struct [(0, 1), (1, 1), (2, 1), (3, 1), (4, 1), (5, 1)], 6, 80, (.agg #[(.pointer none), (.int .i64 0), (.slice none 0 0), (.int .i64 0), (.pointer none), (.slice none 0 0)]), [.nil, .int 0, .slice [], .int 0, .nil, .slice []]⟩ := rfl
theorem tt204 : tt 204 = some ⟨.struct [(0, 1), (1, 1), (2, 1), (3, 1), (4, 1), (5, 1)], 6, 80, (.agg #[(.pointer none), (.int .i64 0), (.slice none 0 0), (.int .i64 0), (.pointer none), (.slice none 0 0)]), [.nil, .int 0, .nils, .int 0, .nil, .nils]⟩ := rfl
theorem tt205 : tt 205 = some ⟨.struct [(0, 1), (1, 1), (2, 1), (3, 1), (4, 1)], 5, 40, (.agg #[(.int .i64 0), (.pointer none), (.pointer none), (.pointer none), (.pointer none)]), [.int 0, .nil, .nil, .nil, .nil]⟩ := rfl
theorem tt206 : tt 206 = some ⟨.struct [(0, 1), (1, 1), (2, 1), (3, 1), (4, 1)], 5, 40, (.agg #[(.int .i64 0), (.pointer none), (.pointer none), (.pointer none), (.pointer none)]), [.int 0, .nil, .nil, .nil, .nil]⟩ := rfl
theorem tt207 : tt 207 = some ⟨.func, 1, 8, .nilFunc, [.nilfn]⟩ := rfl
theorem tt208 : tt 208 = some ⟨.func, 1, 8, .nilFunc, [.nilfn]⟩ := rfl
theorem tt209 : tt 209 = some ⟨.func, 1, 8, .nilFunc, [.nilfn]⟩ := rfl
theorem tt210 : tt 210 = some ⟨.func, 1, 8, .nilFunc, [.nilfn]⟩ := rfl
theorem tt212 : tt 212 = some ⟨.func, 1, 8, .nilFunc, [.nilfn]⟩ := rfl
theorem tt213 : tt 213 = some ⟨.func, 1, 8, .nilFunc, [.nilfn]⟩ := rfl
theorem tt214 : tt 214 = some ⟨.func, 1, 8, .nilFunc, [.nilfn]⟩ := rfl
theorem tt215 : tt 215 = some ⟨.func, 1, 8, .nilFunc, [.nilfn]⟩ := rfl
theorem tt216 : tt 216 = some ⟨.func, 1, 8, .nilFunc, [.nilfn]⟩ := rfl
theorem tt217 : tt 217 = some ⟨.func, 1, 8, .nilFunc, [.nilfn]⟩ := rfl
theorem tt218 : tt 218 = some ⟨.func, 1, 8, .nilFunc, [.nilfn]⟩ := rfl
theorem tt219 : tt 219 = some ⟨.func, 1, 8, .nilFunc, [.nilfn]⟩ := rfl
theorem tt220 : tt 220 = some ⟨.slice 163, 1, 24, (.slice none 0 0), [.slice []]⟩ := rfl
theorem tt222 : tt 222 = some ⟨.func, 1, 8, .nilFunc, [.nilfn]⟩ := rfl
theorem tt223 : tt 223 = some ⟨.func, 1, 8, .nilFunc, [.nilfn]⟩ := rfl
theorem tt225 : tt 225 = some ⟨.func, 1, 8, .nilFunc, [.nilfn]⟩ := rfl
theorem tt226 : tt 226 = some ⟨.func, 1, 8, .nilFunc, [.nilfn]⟩ := rfl
theorem tt227 : tt 227 = some ⟨.struct [(0, 1), (1, 1), (2, 1)], 3, 24, (.agg #[(.int .i64 0), (.int .i64 0), (.int .i64 0)]), [.int 0, .int 0, .int 0]⟩ := rfl
theorem tt228 : tt 228 = some ⟨.struct [(0, 1), (1, 1), (2, 1)], 3, 24, (.agg #[(.int .i64 0), (.int .i64 0), (.int .i64 0)]), [.int 0, .int 0, .int 0]⟩ := rfl
theorem tt229 : tt 229 = some ⟨.func, 1, 8, .nilFunc, [.nilfn]⟩ := rfl
theorem tt230 : tt 230 = some ⟨.func, 1, 8, .nilFunc, [.nilfn]⟩ := rfl
theorem tt231 : tt 231 = some ⟨.func, 1, 8, .nilFunc, [.nilfn]⟩ := rfl
theorem tt232 : tt 232 = some ⟨.func, 1, 8, .nilFunc, [.nilfn]⟩ := rfl
theorem tt235 : tt 235 = some ⟨.array 0 16, 0, 0, (.agg #[]), []⟩ := rfl
theorem tt236 : tt 236 = some ⟨.struct [(0, 0)], 0, 0, (.agg #[]), []⟩ := rfl
theorem tt237 : tt 237 = some ⟨.struct [(0, 0)], 0, 0, (.agg #[]), []⟩ := rfl
theorem tt241 : tt 241 = some ⟨.func, 1, 8, .nilFunc, [.nilfn]⟩ := rfl
theorem tt242 : tt 242 = some ⟨.pointer, 1, 8, (.pointer none), [.nil]⟩ := rfl
theorem ttOK : TOK Tryz.prog tt := by
  intro t ti h
  unfold tt at h
  split at h
  · cases h; exact ti1
  · cases h; exact ti2
  · cases h; exact ti3
  · cases h; exact ti4
  · cases h; exact ti15
  · cases h; exact ti16
  · cases h; exact ti17
  · cases h; exact ti18
  · cases h; exact ti19
  · cases h; exact ti20
  · cases h; exact ti22
  · cases h; exact ti23
  · cases h; exact ti24
  · cases h; exact ti25
  · cases h; exact ti26
  · cases h; exact ti27
  · cases h; exact ti28
  · cases h; exact ti29
  · cases h; exact ti30
  · cases h; exact ti32
  · cases h; exact ti33
  · cases h; exact ti34
  · cases h; exact ti35
  · cases h; exact ti36
  · cases h; exact ti38
  · cases h; exact ti39
  · cases h; exact ti40
  · cases h; exact ti41
  · cases h; exact ti43
  · cases h; exact ti44
  · cases h; exact ti45
  · cases h; exact ti46
  · cases h; exact ti47
  · cases h; exact ti49
  · cases h; exact ti51
  · cases h; exact ti52
  · cases h; exact ti54
  · cases h; exact ti55
  · cases h; exact ti56
  · cases h; exact ti58
  · cases h; exact ti59
  · cases h; exact ti60
  · cases h; exact ti61
  · cases h; exact ti62
  · cases h; exact ti63
  · cases h; exact ti64
  · cases h; exact ti65
  · cases h; exact ti66
  · cases h; exact ti68
  · cases h; exact ti69
  · cases h; exact ti70
  · cases h; exact ti72
  · cases h; exact ti73
  · cases h; exact ti74
  · cases h; exact ti75
  · cases h; exact ti76
  · cases h; exact ti77
  · cases h; exact ti78
  · cases h; exact ti79
  · cases h; exact ti80
  · cases h; exact ti81
  · cases h; exact ti82
  · cases h; exact ti83
  · cases h; exact ti84
  · cases h; exact ti85
  · cases h; exact ti86
  · cases h; exact ti87
  · cases h; exact ti88
  · cases h; exact ti89
  · cases h; exact ti90
  · cases h; exact ti91
  · cases h; exact ti92
  · cases h; exact ti93
  · cases h; exact ti94
  · cases h; exact ti95
  · cases h; exact ti96
  · cases h; exact ti97
  · cases h; exact ti99
  · cases h; exact ti100
  · cases h; exact ti101
  · cases h; exact ti103
  · cases h; exact ti104
  · cases h; exact ti105
  · cases h; exact ti106
  · cases h; exact ti107
  · cases h; exact ti108
  · cases h; exact ti109
  · cases h; exact ti110
  · cases h; exact ti111
  · cases h; exact ti112
  · cases h; exact ti113
  · cases h; exact ti115
  · cases h; exact ti116
  · cases h; exact ti117
  · cases h; exact ti118
  · cases h; exact ti120
  · cases h; exact ti122
  · cases h; exact ti123
  · cases h; exact ti124
  · cases h; exact ti126
  · cases h; exact ti127
  · cases h; exact ti129
  · cases h; exact ti130
  · cases h; exact ti131
  · cases h; exact ti132
  · cases h; exact ti133
  · cases h; exact ti134
  · cases h; exact ti135
  · cases h; exact ti136
  · cases h; exact ti137
  · cases h; exact ti138
  · cases h; exact ti139
  · cases h; exact ti140
  · cases h; exact ti141
  · cases h; exact ti142
  · cases h; exact ti144
  · cases h; exact ti146
  · cases h; exact ti147
  · cases h; exact ti148
  · cases h; exact ti149
  · cases h; exact ti150
  · cases h; exact ti151
  · cases h; exact ti152
  · cases h; exact ti153
  · cases h; exact ti154
  · cases h; exact ti155
  · cases h; exact ti156
  · cases h; exact ti157
  · cases h; exact ti158
  · cases h; exact ti159
  · cases h; exact ti160
  · cases h; exact ti161
  · cases h; exact ti163
  · cases h; exact ti164
  · cases h; exact ti165
  · cases h; exact ti166
  · cases h; exact ti167
  · cases h; exact ti168
  · cases h; exact ti169
  · cases h; exact ti170
  · cases h; exact ti171
  · cases h; exact ti172
  · cases h; exact ti173
  · cases h; exact ti174
  · cases h; exact ti175
  · cases h; exact ti177
  · cases h; exact ti178
  · cases h; exact ti179
  · cases h; exact ti180
  · cases h; exact ti181
  · cases h; exact ti182
  · cases h; exact ti183
  · cases h; exact ti184
  · cases h; exact ti185
  · cases h; exact ti186
  · cases h; exact ti188
  · cases h; exact ti189
  · cases h; exact ti190
  · cases h; exact ti191
  · cases h; exact ti192
  · cases h; exact ti193
  · cases h; exact ti194
  · cases h; exact ti195
  · cases h; exact ti196
  · cases h; exact ti197
  · cases h; exact ti198
  · cases h; exact ti199
  · cases h; exact ti201
  · cases h; exact ti202
  · cases h; exact ti203
  · cases h; exact ti204
  · cases h; exact ti205
  · cases h; exact ti206
  · cases h; exact ti207
  · cases h; exact ti208
  · cases h; exact ti209
  · cases h; exact ti210
  · cases h; exact ti212
  · cases h; exact ti213
  · cases h; exact ti214
  · cases h; exact ti215
  · cases h; exact ti216
  · cases h; exact ti217
  · cases h; exact ti218
  · cases h; exact ti219
  · cases h; exact ti220
  · cases h; exact ti222
  · cases h; exact ti223
  · cases h; exact ti225
  · cases h; exact ti226
  · cases h; exact ti227
  · cases h; exact ti228
  · cases h; exact ti229
  · cases h; exact ti230
  · cases h; exact ti231
  · cases h; exact ti232
  · cases h; exact ti235
  · cases h; exact ti236
  · cases h; exact ti237
  · cases h; exact ti241
  · cases h; exact ti242
  · cases h

/-- what is fixed for a function of this program -/
noncomputable def XX (nm : List (Nat × Note)) (nt : Nat) (given : List Nat) : Env1 := ⟨Tryz.prog, tt, gl, nm, nt, given, ttOK, mixed⟩
section
variable {nm : List (Nat × Note)} {nt : Nat} {given : List Nat}
theorem XX_T : (XX nm nt given).T = tt := rfl
theorem XX_gl : (XX nm nt given).gl = gl := rfl
theorem XX_nm : (XX nm nt given).nm = nm := rfl
theorem XX_nt : (XX nm nt given).nt = nt := rfl
theorem XX_given : (XX nm nt given).given = given := rfl
theorem sg1 {p : Prop} (h : p := by simp only [↓evalSeq, ↓evalR_some, ↓evalO_call, ↓evalO_none, ↓evalO_some, ↓evalG_tt, ↓evalG_ff, ↓evalG_tf, ↓evalG_ft, ↓evalG_sk, isCall, ↓cond_true, ↓cond_false, gv, stepOp, stepMove, stepLoad, stepStore, stepIndex, stepLen, stepAppend, stepSlice, stepBin, stepInt, stepEq, srcOf, addrOff, TK.isIface, stepRow, stepUpdate, placesA, PV.nonint, List.any_cons, List.any_nil, Bool.or_true, Bool.true_or, Bool.or_false, Bool.false_or, rdP, rdV, TI.isAgg, boolR, mkAgg, mkSlice, unL, unE, V.un, vc_int, vo_int, po_int, vc_bool, vo_bool, po_bool, vc_nil, vo_nil, po_nil, vc_nils, vo_nils, po_nils, vc_nilfn, vo_nilfn, po_nilfn, vc_nilm, vo_nilm, po_nilm, vc_nilif, vo_nilif, po_nilif, vc_ptr, vo_ptr, po_ptr, vc_slice, vo_slice, po_slice, vc_iface, vo_iface, po_iface, vc_loc, vo_loc, vc_eloc, vo_eloc, vc_arr, vo_arr, vc_map, vo_map, vc_vsl, vo_vsl, vc_fn, vo_fn, vc_agg, vc_aggv, pc_int, pc_bool, pc_nil, pc_nils, pc_nilfn, pc_nilm, pc_nilif, pc_ptr, pc_slice, pc_iface, pc_agg, fillV, sliceParts, putL, St.val, getS, getO, setO, delO, updAll, updO, St.eff, R.eff, R.of, R.ofIf, Env1.note, cst, putS, dstOK, freshL, zipArgs, pvL, skipE, ↓reduceIte, Nat.reduceEqDiff, Nat.reduceLT, Nat.reduceLeDiff, Nat.reduceAdd, Nat.reduceSub, Nat.reduceMul, Int.reduceToNat, Int.toNat_natCast, and_true, true_and, false_and, and_self, forall_const, true_implies, implies_true, not_false_eq_true, not_true_eq_false, List.mem_cons, List.not_mem_nil, or_false, or_self, false_or, List.length_cons, List.length_nil, List.map_cons, List.map_nil, List.nil_append, List.cons_append, List.append_nil, List.take_zero, List.take_succ_cons, List.drop_zero, List.drop_succ_cons, List.take_nil, List.drop_nil, List.getElem?_cons_zero, List.getElem?_cons_succ, List.getElem?_nil, Option.map_some, Option.map_none, Bool.not_true, Bool.not_false, List.all_cons, List.all_nil, Bool.and_self, Bool.true_and, Bool.and_true, reduceCtorEq, Option.some.injEq, List.getD_cons_zero, List.getD_cons_succ, decide_true, decide_false, Nat.succ_ne_self, Nat.zero_add, Nat.add_zero, pvE_take, pvE_get, pvE_app, pvE_len, pvE_all, pvE_one, unE_pvE, List.forall_mem_cons, List.mem_singleton, forall_eq, List.mem_nil_iff, false_implies, XX_T, XX_gl, gl0, XX_nm, XX_nt, noteD, noteOf, tt1, tt2, tt3, tt4, tt15, tt16, tt17, tt18, tt19, tt20, tt22, tt23, tt24, tt25, tt26, tt27, tt28, tt29, tt30, tt32, tt33, tt34, tt35, tt36, tt38, tt39, tt40, tt41, tt43, tt44, tt45, tt46, tt47, tt49, tt51, tt52, tt54, tt55, tt56, tt58, tt59, tt60, tt61, tt62, tt63, tt64, tt65, tt66, tt68, tt69, tt70, tt72, tt73, tt74, tt75, tt76, tt77, tt78, tt79, tt80, tt81, tt82, tt83, tt84, tt85, tt86, tt87, tt88, tt89, tt90, tt91, tt92, tt93, tt94, tt95, tt96, tt97, tt99, tt100, tt101, tt103, tt104, tt105, tt106, tt107, tt108, tt109, tt110, tt111, tt112, tt113, tt115, tt116, tt117, tt118, tt120, tt122, tt123, tt124, tt126, tt127, tt129, tt130, tt131, tt132, tt133, tt134, tt135, tt136, tt137, tt138, tt139, tt140, tt141, tt142, tt144, tt146, tt147, tt148, tt149, tt150, tt151, tt152, tt153, tt154, tt155, tt156, tt157, tt158, tt159, tt160, tt161, tt163, tt164, tt165, tt166, tt167, tt168, tt169, tt170, tt171, tt172, tt173, tt174, tt175, tt177, tt178, tt179, tt180, tt181, tt182, tt183, tt184, tt185, tt186, tt188, tt189, tt190, tt191, tt192, tt193, tt194, tt195, tt196, tt197, tt198, tt199, tt201, tt202, tt203, tt204, tt205, tt206, tt207, tt208, tt209, tt210, tt212, tt213, tt214, tt215, tt216, tt217, tt218, tt219, tt220, tt222, tt223, tt225, tt226, tt227, tt228, tt229, tt230, tt231, tt232, tt235, tt236, tt237, tt241, tt242, Int.cast_ofNat_Int, Int.reduceEq, Int.reduceNe, Int.reduceLT, Int.reduceLE, Int.reduceAdd, Int.reduceSub, Int.reduceMul, Int.reduceNeg, Int.reduceTMod, eq_self, ne_eq, *]; rfl) : p := h
theorem sg2 {p : Prop} (h : p := by first | (simp only [↓evalSeq, ↓evalR_some, ↓evalO_call, ↓evalO_none, ↓evalO_some, ↓evalG_tt, ↓evalG_ff, ↓evalG_tf, ↓evalG_ft, ↓evalG_sk, isCall, ↓cond_true, ↓cond_false, gv, stepOp, stepMove, stepLoad, stepStore, stepIndex, stepLen, stepAppend, stepSlice, stepBin, stepInt, stepEq, srcOf, addrOff, TK.isIface, stepRow, stepUpdate, placesA, PV.nonint, List.any_cons, List.any_nil, Bool.or_true, Bool.true_or, Bool.or_false, Bool.false_or, rdP, rdV, TI.isAgg, boolR, mkAgg, mkSlice, unL, unE, V.un, vc_int, vo_int, po_int, vc_bool, vo_bool, po_bool, vc_nil, vo_nil, po_nil, vc_nils, vo_nils, po_nils, vc_nilfn, vo_nilfn, po_nilfn, vc_nilm, vo_nilm, po_nilm, vc_nilif, vo_nilif, po_nilif, vc_ptr, vo_ptr, po_ptr, vc_slice, vo_slice, po_slice, vc_iface, vo_iface, po_iface, vc_loc, vo_loc, vc_eloc, vo_eloc, vc_arr, vo_arr, vc_map, vo_map, vc_vsl, vo_vsl, vc_fn, vo_fn, vc_agg, vc_aggv, pc_int, pc_bool, pc_nil, pc_nils, pc_nilfn, pc_nilm, pc_nilif, pc_ptr, pc_slice, pc_iface, pc_agg, fillV, sliceParts, putL, St.val, getS, getO, setO, delO, updAll, updO, St.eff, R.eff, R.of, R.ofIf, Env1.note, cst, putS, dstOK, freshL, zipArgs, pvL, skipE, ↓reduceIte, Nat.reduceEqDiff, Nat.reduceLT, Nat.reduceLeDiff, Nat.reduceAdd, Nat.reduceSub, Nat.reduceMul, Int.reduceToNat, Int.toNat_natCast, and_true, true_and, false_and, and_self, forall_const, true_implies, implies_true, not_false_eq_true, not_true_eq_false, List.mem_cons, List.not_mem_nil, or_false, or_self, false_or, List.length_cons, List.length_nil, List.map_cons, List.map_nil, List.nil_append, List.cons_append, List.append_nil, List.take_zero, List.take_succ_cons, List.drop_zero, List.drop_succ_cons, List.take_nil, List.drop_nil, List.getElem?_cons_zero, List.getElem?_cons_succ, List.getElem?_nil, Option.map_some, Option.map_none, Bool.not_true, Bool.not_false, List.all_cons, List.all_nil, Bool.and_self, Bool.true_and, Bool.and_true, reduceCtorEq, Option.some.injEq, List.getD_cons_zero, List.getD_cons_succ, decide_true, decide_false, Nat.succ_ne_self, Nat.zero_add, Nat.add_zero, pvE_take, pvE_get, pvE_app, pvE_len, pvE_all, pvE_one, unE_pvE, List.forall_mem_cons, List.mem_singleton, forall_eq, List.mem_nil_iff, false_implies, XX_T, XX_gl, gl0, XX_nm, XX_nt, noteD, noteOf, tt1, tt2, tt3, tt4, tt15, tt16, tt17, tt18, tt19, tt20, tt22, tt23, tt24, tt25, tt26, tt27, tt28, tt29, tt30, tt32, tt33, tt34, tt35, tt36, tt38, tt39, tt40, tt41, tt43, tt44, tt45, tt46, tt47, tt49, tt51, tt52, tt54, tt55, tt56, tt58, tt59, tt60, tt61, tt62, tt63, tt64, tt65, tt66, tt68, tt69, tt70, tt72, tt73, tt74, tt75, tt76, tt77, tt78, tt79, tt80, tt81, tt82, tt83, tt84, tt85, tt86, tt87, tt88, tt89, tt90, tt91, tt92, tt93, tt94, tt95, tt96, tt97, tt99, tt100, tt101, tt103, tt104, tt105, tt106, tt107, tt108, tt109, tt110, tt111, tt112, tt113, tt115, tt116, tt117, tt118, tt120, tt122, tt123, tt124, tt126, tt127, tt129, tt130, tt131, tt132, tt133, tt134, tt135, tt136, tt137, tt138, tt139, tt140, tt141, tt142, tt144, tt146, tt147, tt148, tt149, tt150, tt151, tt152, tt153, tt154, tt155, tt156, tt157, tt158, tt159, tt160, tt161, tt163, tt164, tt165, tt166, tt167, tt168, tt169, tt170, tt171, tt172, tt173, tt174, tt175, tt177, tt178, tt179, tt180, tt181, tt182, tt183, tt184, tt185, tt186, tt188, tt189, tt190, tt191, tt192, tt193, tt194, tt195, tt196, tt197, tt198, tt199, tt201, tt202, tt203, tt204, tt205, tt206, tt207, tt208, tt209, tt210, tt212, tt213, tt214, tt215, tt216, tt217, tt218, tt219, tt220, tt222, tt223, tt225, tt226, tt227, tt228, tt229, tt230, tt231, tt232, tt235, tt236, tt237, tt241, tt242, calleeOf]; done) | fail) : p := h
theorem sg3 {p : Prop} (h : p := by first | (simp only [↓evalSeq, ↓evalR_some, ↓evalO_call, ↓evalO_none, ↓evalO_some, ↓evalG_tt, ↓evalG_ff, ↓evalG_tf, ↓evalG_ft, ↓evalG_sk, isCall, ↓cond_true, ↓cond_false, gv, stepOp, stepMove, stepLoad, stepStore, stepIndex, stepLen, stepAppend, stepSlice, stepBin, stepInt, stepEq, srcOf, addrOff, TK.isIface, stepRow, stepUpdate, placesA, PV.nonint, List.any_cons, List.any_nil, Bool.or_true, Bool.true_or, Bool.or_false, Bool.false_or, rdP, rdV, TI.isAgg, boolR, mkAgg, mkSlice, unL, unE, V.un, vc_int, vo_int, po_int, vc_bool, vo_bool, po_bool, vc_nil, vo_nil, po_nil, vc_nils, vo_nils, po_nils, vc_nilfn, vo_nilfn, po_nilfn, vc_nilm, vo_nilm, po_nilm, vc_nilif, vo_nilif, po_nilif, vc_ptr, vo_ptr, po_ptr, vc_slice, vo_slice, po_slice, vc_iface, vo_iface, po_iface, vc_loc, vo_loc, vc_eloc, vo_eloc, vc_arr, vo_arr, vc_map, vo_map, vc_vsl, vo_vsl, vc_fn, vo_fn, vc_agg, vc_aggv, pc_int, pc_bool, pc_nil, pc_nils, pc_nilfn, pc_nilm, pc_nilif, pc_ptr, pc_slice, pc_iface, pc_agg, fillV, sliceParts, putL, St.val, getS, getO, setO, delO, updAll, updO, St.eff, R.eff, R.of, R.ofIf, Env1.note, cst, putS, dstOK, freshL, zipArgs, pvL, skipE, ↓reduceIte, Nat.reduceEqDiff, Nat.reduceLT, Nat.reduceLeDiff, Nat.reduceAdd, Nat.reduceSub, Nat.reduceMul, Int.reduceToNat, Int.toNat_natCast, and_true, true_and, false_and, and_self, forall_const, true_implies, implies_true, not_false_eq_true, not_true_eq_false, List.mem_cons, List.not_mem_nil, or_false, or_self, false_or, List.length_cons, List.length_nil, List.map_cons, List.map_nil, List.nil_append, List.cons_append, List.append_nil, List.take_zero, List.take_succ_cons, List.drop_zero, List.drop_succ_cons, List.take_nil, List.drop_nil, List.getElem?_cons_zero, List.getElem?_cons_succ, List.getElem?_nil, Option.map_some, Option.map_none, Bool.not_true, Bool.not_false, List.all_cons, List.all_nil, Bool.and_self, Bool.true_and, Bool.and_true, reduceCtorEq, Option.some.injEq, List.getD_cons_zero, List.getD_cons_succ, decide_true, decide_false, Nat.succ_ne_self, Nat.zero_add, Nat.add_zero, pvE_take, pvE_get, pvE_app, pvE_len, pvE_all, pvE_one, unE_pvE, List.forall_mem_cons, List.mem_singleton, forall_eq, List.mem_nil_iff, false_implies, XX_T, XX_gl, gl0, XX_nm, XX_nt, noteD, noteOf, tt1, tt2, tt3, tt4, tt15, tt16, tt17, tt18, tt19, tt20, tt22, tt23, tt24, tt25, tt26, tt27, tt28, tt29, tt30, tt32, tt33, tt34, tt35, tt36, tt38, tt39, tt40, tt41, tt43, tt44, tt45, tt46, tt47, tt49, tt51, tt52, tt54, tt55, tt56, tt58, tt59, tt60, tt61, tt62, tt63, tt64, tt65, tt66, tt68, tt69, tt70, tt72, tt73, tt74, tt75, tt76, tt77, tt78, tt79, tt80, tt81, tt82, tt83, tt84, tt85, tt86, tt87, tt88, tt89, tt90, tt91, tt92, tt93, tt94, tt95, tt96, tt97, tt99, tt100, tt101, tt103, tt104, tt105, tt106, tt107, tt108, tt109, tt110, tt111, tt112, tt113, tt115, tt116, tt117, tt118, tt120, tt122, tt123, tt124, tt126, tt127, tt129, tt130, tt131, tt132, tt133, tt134, tt135, tt136, tt137, tt138, tt139, tt140, tt141, tt142, tt144, tt146, tt147, tt148, tt149, tt150, tt151, tt152, tt153, tt154, tt155, tt156, tt157, tt158, tt159, tt160, tt161, tt163, tt164, tt165, tt166, tt167, tt168, tt169, tt170, tt171, tt172, tt173, tt174, tt175, tt177, tt178, tt179, tt180, tt181, tt182, tt183, tt184, tt185, tt186, tt188, tt189, tt190, tt191, tt192, tt193, tt194, tt195, tt196, tt197, tt198, tt199, tt201, tt202, tt203, tt204, tt205, tt206, tt207, tt208, tt209, tt210, tt212, tt213, tt214, tt215, tt216, tt217, tt218, tt219, tt220, tt222, tt223, tt225, tt226, tt227, tt228, tt229, tt230, tt231, tt232, tt235, tt236, tt237, tt241, tt242]; done) | fail) : p := h
theorem sg4 {p : Prop} (h : p := by first | (simp only [↓evalSeq, ↓evalR_some, ↓evalO_call, ↓evalO_none, ↓evalO_some, ↓evalG_tt, ↓evalG_ff, ↓evalG_tf, ↓evalG_ft, ↓evalG_sk, isCall, ↓cond_true, ↓cond_false, gv, stepOp, stepMove, stepLoad, stepStore, stepIndex, stepLen, stepAppend, stepSlice, stepBin, stepInt, stepEq, srcOf, addrOff, TK.isIface, stepRow, stepUpdate, placesA, PV.nonint, List.any_cons, List.any_nil, Bool.or_true, Bool.true_or, Bool.or_false, Bool.false_or, rdP, rdV, TI.isAgg, boolR, mkAgg, mkSlice, unL, unE, V.un, vc_int, vo_int, po_int, vc_bool, vo_bool, po_bool, vc_nil, vo_nil, po_nil, vc_nils, vo_nils, po_nils, vc_nilfn, vo_nilfn, po_nilfn, vc_nilm, vo_nilm, po_nilm, vc_nilif, vo_nilif, po_nilif, vc_ptr, vo_ptr, po_ptr, vc_slice, vo_slice, po_slice, vc_iface, vo_iface, po_iface, vc_loc, vo_loc, vc_eloc, vo_eloc, vc_arr, vo_arr, vc_map, vo_map, vc_vsl, vo_vsl, vc_fn, vo_fn, vc_agg, vc_aggv, pc_int, pc_bool, pc_nil, pc_nils, pc_nilfn, pc_nilm, pc_nilif, pc_ptr, pc_slice, pc_iface, pc_agg, fillV, sliceParts, putL, St.val, getS, getO, setO, delO, updAll, updO, St.eff, R.eff, R.of, R.ofIf, Env1.note, cst, putS, dstOK, freshL, zipArgs, pvL, skipE, ↓reduceIte, Nat.reduceEqDiff, Nat.reduceLT, Nat.reduceLeDiff, Nat.reduceAdd, Nat.reduceSub, Nat.reduceMul, Int.reduceToNat, Int.toNat_natCast, and_true, true_and, false_and, and_self, forall_const, true_implies, implies_true, not_false_eq_true, not_true_eq_false, List.mem_cons, List.not_mem_nil, or_false, or_self, false_or, List.length_cons, List.length_nil, List.map_cons, List.map_nil, List.nil_append, List.cons_append, List.append_nil, List.take_zero, List.take_succ_cons, List.drop_zero, List.drop_succ_cons, List.take_nil, List.drop_nil, List.getElem?_cons_zero, List.getElem?_cons_succ, List.getElem?_nil, Option.map_some, Option.map_none, Bool.not_true, Bool.not_false, List.all_cons, List.all_nil, Bool.and_self, Bool.true_and, Bool.and_true, reduceCtorEq, Option.some.injEq, List.getD_cons_zero, List.getD_cons_succ, decide_true, decide_false, Nat.succ_ne_self, Nat.zero_add, Nat.add_zero, pvE_take, pvE_get, pvE_app, pvE_len, pvE_all, pvE_one, unE_pvE, List.forall_mem_cons, List.mem_singleton, forall_eq, List.mem_nil_iff, false_implies, XX_T, XX_gl, gl0, XX_nm, XX_nt, noteD, noteOf, tt1, tt2, tt3, tt4, tt15, tt16, tt17, tt18, tt19, tt20, tt22, tt23, tt24, tt25, tt26, tt27, tt28, tt29, tt30, tt32, tt33, tt34, tt35, tt36, tt38, tt39, tt40, tt41, tt43, tt44, tt45, tt46, tt47, tt49, tt51, tt52, tt54, tt55, tt56, tt58, tt59, tt60, tt61, tt62, tt63, tt64, tt65, tt66, tt68, tt69, tt70, tt72, tt73, tt74, tt75, tt76, tt77, tt78, tt79, tt80, tt81, tt82, tt83, tt84, tt85, tt86, tt87, tt88, tt89, tt90, tt91, tt92, tt93, tt94, tt95, tt96, tt97, tt99, tt100, tt101, tt103, tt104, tt105, tt106, tt107, tt108, tt109, tt110, tt111, tt112, tt113, tt115, tt116, tt117, tt118, tt120, tt122, tt123, tt124, tt126, tt127, tt129, tt130, tt131, tt132, tt133, tt134, tt135, tt136, tt137, tt138, tt139, tt140, tt141, tt142, tt144, tt146, tt147, tt148, tt149, tt150, tt151, tt152, tt153, tt154, tt155, tt156, tt157, tt158, tt159, tt160, tt161, tt163, tt164, tt165, tt166, tt167, tt168, tt169, tt170, tt171, tt172, tt173, tt174, tt175, tt177, tt178, tt179, tt180, tt181, tt182, tt183, tt184, tt185, tt186, tt188, tt189, tt190, tt191, tt192, tt193, tt194, tt195, tt196, tt197, tt198, tt199, tt201, tt202, tt203, tt204, tt205, tt206, tt207, tt208, tt209, tt210, tt212, tt213, tt214, tt215, tt216, tt217, tt218, tt219, tt220, tt222, tt223, tt225, tt226, tt227, tt228, tt229, tt230, tt231, tt232, tt235, tt236, tt237, tt241, tt242, subO]; done) | fail) : p := h
theorem sg5 {p : Prop} (h : p := by first | (simp only [↓evalSeq, ↓evalR_some, ↓evalO_call, ↓evalO_none, ↓evalO_some, ↓evalG_tt, ↓evalG_ff, ↓evalG_tf, ↓evalG_ft, ↓evalG_sk, isCall, ↓cond_true, ↓cond_false, gv, stepOp, stepMove, stepLoad, stepStore, stepIndex, stepLen, stepAppend, stepSlice, stepBin, stepInt, stepEq, srcOf, addrOff, TK.isIface, stepRow, stepUpdate, placesA, PV.nonint, List.any_cons, List.any_nil, Bool.or_true, Bool.true_or, Bool.or_false, Bool.false_or, rdP, rdV, TI.isAgg, boolR, mkAgg, mkSlice, unL, unE, V.un, vc_int, vo_int, po_int, vc_bool, vo_bool, po_bool, vc_nil, vo_nil, po_nil, vc_nils, vo_nils, po_nils, vc_nilfn, vo_nilfn, po_nilfn, vc_nilm, vo_nilm, po_nilm, vc_nilif, vo_nilif, po_nilif, vc_ptr, vo_ptr, po_ptr, vc_slice, vo_slice, po_slice, vc_iface, vo_iface, po_iface, vc_loc, vo_loc, vc_eloc, vo_eloc, vc_arr, vo_arr, vc_map, vo_map, vc_vsl, vo_vsl, vc_fn, vo_fn, vc_agg, vc_aggv, pc_int, pc_bool, pc_nil, pc_nils, pc_nilfn, pc_nilm, pc_nilif, pc_ptr, pc_slice, pc_iface, pc_agg, fillV, sliceParts, putL, St.val, getS, getO, setO, delO, updAll, updO, St.eff, R.eff, R.of, R.ofIf, Env1.note, cst, putS, dstOK, freshL, zipArgs, pvL, skipE, ↓reduceIte, Nat.reduceEqDiff, Nat.reduceLT, Nat.reduceLeDiff, Nat.reduceAdd, Nat.reduceSub, Nat.reduceMul, Int.reduceToNat, Int.toNat_natCast, and_true, true_and, false_and, and_self, forall_const, true_implies, implies_true, not_false_eq_true, not_true_eq_false, List.mem_cons, List.not_mem_nil, or_false, or_self, false_or, List.length_cons, List.length_nil, List.map_cons, List.map_nil, List.nil_append, List.cons_append, List.append_nil, List.take_zero, List.take_succ_cons, List.drop_zero, List.drop_succ_cons, List.take_nil, List.drop_nil, List.getElem?_cons_zero, List.getElem?_cons_succ, List.getElem?_nil, Option.map_some, Option.map_none, Bool.not_true, Bool.not_false, List.all_cons, List.all_nil, Bool.and_self, Bool.true_and, Bool.and_true, reduceCtorEq, Option.some.injEq, List.getD_cons_zero, List.getD_cons_succ, decide_true, decide_false, Nat.succ_ne_self, Nat.zero_add, Nat.add_zero, pvE_take, pvE_get, pvE_app, pvE_len, pvE_all, pvE_one, unE_pvE, List.forall_mem_cons, List.mem_singleton, forall_eq, List.mem_nil_iff, false_implies, XX_T, XX_gl, gl0, XX_nm, XX_nt, noteD, noteOf, tt1, tt2, tt3, tt4, tt15, tt16, tt17, tt18, tt19, tt20, tt22, tt23, tt24, tt25, tt26, tt27, tt28, tt29, tt30, tt32, tt33, tt34, tt35, tt36, tt38, tt39, tt40, tt41, tt43, tt44, tt45, tt46, tt47, tt49, tt51, tt52, tt54, tt55, tt56, tt58, tt59, tt60, tt61, tt62, tt63, tt64, tt65, tt66, tt68, tt69, tt70, tt72, tt73, tt74, tt75, tt76, tt77, tt78, tt79, tt80, tt81, tt82, tt83, tt84, tt85, tt86, tt87, tt88, tt89, tt90, tt91, tt92, tt93, tt94, tt95, tt96, tt97, tt99, tt100, tt101, tt103, tt104, tt105, tt106, tt107, tt108, tt109, tt110, tt111, tt112, tt113, tt115, tt116, tt117, tt118, tt120, tt122, tt123, tt124, tt126, tt127, tt129, tt130, tt131, tt132, tt133, tt134, tt135, tt136, tt137, tt138, tt139, tt140, tt141, tt142, tt144, tt146, tt147, tt148, tt149, tt150, tt151, tt152, tt153, tt154, tt155, tt156, tt157, tt158, tt159, tt160, tt161, tt163, tt164, tt165, tt166, tt167, tt168, tt169, tt170, tt171, tt172, tt173, tt174, tt175, tt177, tt178, tt179, tt180, tt181, tt182, tt183, tt184, tt185, tt186, tt188, tt189, tt190, tt191, tt192, tt193, tt194, tt195, tt196, tt197, tt198, tt199, tt201, tt202, tt203, tt204, tt205, tt206, tt207, tt208, tt209, tt210, tt212, tt213, tt214, tt215, tt216, tt217, tt218, tt219, tt220, tt222, tt223, tt225, tt226, tt227, tt228, tt229, tt230, tt231, tt232, tt235, tt236, tt237, tt241, tt242, callEff, callWr, keysO, List.filter_cons, List.filter_nil, Option.isNone_none, Option.isNone_some, List.reverse_nil, List.reverse_cons]; done) | fail) : p := h
theorem sg6 {p : Prop} (h : p := by simp only [↓evalSeq, ↓evalR_some, ↓evalO_call, ↓evalO_none, ↓evalO_some, ↓evalG_tt, ↓evalG_ff, ↓evalG_tf, ↓evalG_ft, ↓evalG_sk, isCall, ↓cond_true, ↓cond_false, gv, stepOp, stepMove, stepLoad, stepStore, stepIndex, stepLen, stepAppend, stepSlice, stepBin, stepInt, stepEq, srcOf, addrOff, TK.isIface, stepRow, stepUpdate, placesA, PV.nonint, List.any_cons, List.any_nil, Bool.or_true, Bool.true_or, Bool.or_false, Bool.false_or, rdP, rdV, TI.isAgg, boolR, mkAgg, mkSlice, unL, unE, V.un, vc_int, vo_int, po_int, vc_bool, vo_bool, po_bool, vc_nil, vo_nil, po_nil, vc_nils, vo_nils, po_nils, vc_nilfn, vo_nilfn, po_nilfn, vc_nilm, vo_nilm, po_nilm, vc_nilif, vo_nilif, po_nilif, vc_ptr, vo_ptr, po_ptr, vc_slice, vo_slice, po_slice, vc_iface, vo_iface, po_iface, vc_loc, vo_loc, vc_eloc, vo_eloc, vc_arr, vo_arr, vc_map, vo_map, vc_vsl, vo_vsl, vc_fn, vo_fn, vc_agg, vc_aggv, pc_int, pc_bool, pc_nil, pc_nils, pc_nilfn, pc_nilm, pc_nilif, pc_ptr, pc_slice, pc_iface, pc_agg, fillV, sliceParts, putL, St.val, getS, getO, setO, delO, updAll, updO, St.eff, R.eff, R.of, R.ofIf, Env1.note, cst, putS, dstOK, freshL, zipArgs, pvL, skipE, ↓reduceIte, Nat.reduceEqDiff, Nat.reduceLT, Nat.reduceLeDiff, Nat.reduceAdd, Nat.reduceSub, Nat.reduceMul, Int.reduceToNat, Int.toNat_natCast, and_true, true_and, false_and, and_self, forall_const, true_implies, implies_true, not_false_eq_true, not_true_eq_false, List.mem_cons, List.not_mem_nil, or_false, or_self, false_or, List.length_cons, List.length_nil, List.map_cons, List.map_nil, List.nil_append, List.cons_append, List.append_nil, List.take_zero, List.take_succ_cons, List.drop_zero, List.drop_succ_cons, List.take_nil, List.drop_nil, List.getElem?_cons_zero, List.getElem?_cons_succ, List.getElem?_nil, Option.map_some, Option.map_none, Bool.not_true, Bool.not_false, List.all_cons, List.all_nil, Bool.and_self, Bool.true_and, Bool.and_true, reduceCtorEq, Option.some.injEq, List.getD_cons_zero, List.getD_cons_succ, decide_true, decide_false, Nat.succ_ne_self, Nat.zero_add, Nat.add_zero, pvE_take, pvE_get, pvE_app, pvE_len, pvE_all, pvE_one, unE_pvE, List.forall_mem_cons, List.mem_singleton, forall_eq, List.mem_nil_iff, false_implies, XX_T, XX_gl, gl0, XX_nm, XX_nt, noteD, noteOf, tt1, tt2, tt3, tt4, tt15, tt16, tt17, tt18, tt19, tt20, tt22, tt23, tt24, tt25, tt26, tt27, tt28, tt29, tt30, tt32, tt33, tt34, tt35, tt36, tt38, tt39, tt40, tt41, tt43, tt44, tt45, tt46, tt47, tt49, tt51, tt52, tt54, tt55, tt56, tt58, tt59, tt60, tt61, tt62, tt63, tt64, tt65, tt66, tt68, tt69, tt70, tt72, tt73, tt74, tt75, tt76, tt77, tt78, tt79, tt80, tt81, tt82, tt83, tt84, tt85, tt86, tt87, tt88, tt89, tt90, tt91, tt92, tt93, tt94, tt95, tt96, tt97, tt99, tt100, tt101, tt103, tt104, tt105, tt106, tt107, tt108, tt109, tt110, tt111, tt112, tt113, tt115, tt116, tt117, tt118, tt120, tt122, tt123, tt124, tt126, tt127, tt129, tt130, tt131, tt132, tt133, tt134, tt135, tt136, tt137, tt138, tt139, tt140, tt141, tt142, tt144, tt146, tt147, tt148, tt149, tt150, tt151, tt152, tt153, tt154, tt155, tt156, tt157, tt158, tt159, tt160, tt161, tt163, tt164, tt165, tt166, tt167, tt168, tt169, tt170, tt171, tt172, tt173, tt174, tt175, tt177, tt178, tt179, tt180, tt181, tt182, tt183, tt184, tt185, tt186, tt188, tt189, tt190, tt191, tt192, tt193, tt194, tt195, tt196, tt197, tt198, tt199, tt201, tt202, tt203, tt204, tt205, tt206, tt207, tt208, tt209, tt210, tt212, tt213, tt214, tt215, tt216, tt217, tt218, tt219, tt220, tt222, tt223, tt225, tt226, tt227, tt228, tt229, tt230, tt231, tt232, tt235, tt236, tt237, tt241, tt242, callEff, callWr, keysO, List.filter_cons, List.filter_nil, Option.isNone_none, Option.isNone_some, List.reverse_nil, List.reverse_cons]; rfl) : p := h
theorem sg7 {p : Prop} (h : p := by simp only [↓evalSeq, ↓evalR_some, ↓evalO_call, ↓evalO_none, ↓evalO_some, ↓evalG_tt, ↓evalG_ff, ↓evalG_tf, ↓evalG_ft, ↓evalG_sk, isCall, ↓cond_true, ↓cond_false, gv, stepOp, stepMove, stepLoad, stepStore, stepIndex, stepLen, stepAppend, stepSlice, stepBin, stepInt, stepEq, srcOf, addrOff, TK.isIface, stepRow, stepUpdate, placesA, PV.nonint, List.any_cons, List.any_nil, Bool.or_true, Bool.true_or, Bool.or_false, Bool.false_or, rdP, rdV, TI.isAgg, boolR, mkAgg, mkSlice, unL, unE, V.un, vc_int, vo_int, po_int, vc_bool, vo_bool, po_bool, vc_nil, vo_nil, po_nil, vc_nils, vo_nils, po_nils, vc_nilfn, vo_nilfn, po_nilfn, vc_nilm, vo_nilm, po_nilm, vc_nilif, vo_nilif, po_nilif, vc_ptr, vo_ptr, po_ptr, vc_slice, vo_slice, po_slice, vc_iface, vo_iface, po_iface, vc_loc, vo_loc, vc_eloc, vo_eloc, vc_arr, vo_arr, vc_map, vo_map, vc_vsl, vo_vsl, vc_fn, vo_fn, vc_agg, vc_aggv, pc_int, pc_bool, pc_nil, pc_nils, pc_nilfn, pc_nilm, pc_nilif, pc_ptr, pc_slice, pc_iface, pc_agg, fillV, sliceParts, putL, St.val, getS, getO, setO, delO, updAll, updO, St.eff, R.eff, R.of, R.ofIf, Env1.note, cst, putS, dstOK, freshL, zipArgs, pvL, skipE, ↓reduceIte, Nat.reduceEqDiff, Nat.reduceLT, Nat.reduceLeDiff, Nat.reduceAdd, Nat.reduceSub, Nat.reduceMul, Int.reduceToNat, Int.toNat_natCast, and_true, true_and, false_and, and_self, forall_const, true_implies, implies_true, not_false_eq_true, not_true_eq_false, List.mem_cons, List.not_mem_nil, or_false, or_self, false_or, List.length_cons, List.length_nil, List.map_cons, List.map_nil, List.nil_append, List.cons_append, List.append_nil, List.take_zero, List.take_succ_cons, List.drop_zero, List.drop_succ_cons, List.take_nil, List.drop_nil, List.getElem?_cons_zero, List.getElem?_cons_succ, List.getElem?_nil, Option.map_some, Option.map_none, Bool.not_true, Bool.not_false, List.all_cons, List.all_nil, Bool.and_self, Bool.true_and, Bool.and_true, reduceCtorEq, Option.some.injEq, List.getD_cons_zero, List.getD_cons_succ, decide_true, decide_false, Nat.succ_ne_self, Nat.zero_add, Nat.add_zero, pvE_take, pvE_get, pvE_app, pvE_len, pvE_all, pvE_one, unE_pvE, List.forall_mem_cons, List.mem_singleton, forall_eq, List.mem_nil_iff, false_implies, XX_T, XX_gl, gl0, XX_nm, XX_nt, noteD, noteOf, tt1, tt2, tt3, tt4, tt15, tt16, tt17, tt18, tt19, tt20, tt22, tt23, tt24, tt25, tt26, tt27, tt28, tt29, tt30, tt32, tt33, tt34, tt35, tt36, tt38, tt39, tt40, tt41, tt43, tt44, tt45, tt46, tt47, tt49, tt51, tt52, tt54, tt55, tt56, tt58, tt59, tt60, tt61, tt62, tt63, tt64, tt65, tt66, tt68, tt69, tt70, tt72, tt73, tt74, tt75, tt76, tt77, tt78, tt79, tt80, tt81, tt82, tt83, tt84, tt85, tt86, tt87, tt88, tt89, tt90, tt91, tt92, tt93, tt94, tt95, tt96, tt97, tt99, tt100, tt101, tt103, tt104, tt105, tt106, tt107, tt108, tt109, tt110, tt111, tt112, tt113, tt115, tt116, tt117, tt118, tt120, tt122, tt123, tt124, tt126, tt127, tt129, tt130, tt131, tt132, tt133, tt134, tt135, tt136, tt137, tt138, tt139, tt140, tt141, tt142, tt144, tt146, tt147, tt148, tt149, tt150, tt151, tt152, tt153, tt154, tt155, tt156, tt157, tt158, tt159, tt160, tt161, tt163, tt164, tt165, tt166, tt167, tt168, tt169, tt170, tt171, tt172, tt173, tt174, tt175, tt177, tt178, tt179, tt180, tt181, tt182, tt183, tt184, tt185, tt186, tt188, tt189, tt190, tt191, tt192, tt193, tt194, tt195, tt196, tt197, tt198, tt199, tt201, tt202, tt203, tt204, tt205, tt206, tt207, tt208, tt209, tt210, tt212, tt213, tt214, tt215, tt216, tt217, tt218, tt219, tt220, tt222, tt223, tt225, tt226, tt227, tt228, tt229, tt230, tt231, tt232, tt235, tt236, tt237, tt241, tt242]; rfl) : p := h
theorem sg8 {p : Prop} (h : p := by simp only [St.frz, frzS, frzA, frzV, frzL, frzO, frzOb, ↓evalSeq, ↓evalR_some, ↓evalO_call, ↓evalO_none, ↓evalO_some, ↓evalG_tt, ↓evalG_ff, ↓evalG_tf, ↓evalG_ft, ↓evalG_sk, isCall, ↓cond_true, ↓cond_false, gv, stepOp, stepMove, stepLoad, stepStore, stepIndex, stepLen, stepAppend, stepSlice, stepBin, stepInt, stepEq, srcOf, addrOff, TK.isIface, stepRow, stepUpdate, placesA, PV.nonint, List.any_cons, List.any_nil, Bool.or_true, Bool.true_or, Bool.or_false, Bool.false_or, rdP, rdV, TI.isAgg, boolR, mkAgg, mkSlice, unL, unE, V.un, vc_int, vo_int, po_int, vc_bool, vo_bool, po_bool, vc_nil, vo_nil, po_nil, vc_nils, vo_nils, po_nils, vc_nilfn, vo_nilfn, po_nilfn, vc_nilm, vo_nilm, po_nilm, vc_nilif, vo_nilif, po_nilif, vc_ptr, vo_ptr, po_ptr, vc_slice, vo_slice, po_slice, vc_iface, vo_iface, po_iface, vc_loc, vo_loc, vc_eloc, vo_eloc, vc_arr, vo_arr, vc_map, vo_map, vc_vsl, vo_vsl, vc_fn, vo_fn, vc_agg, vc_aggv, pc_int, pc_bool, pc_nil, pc_nils, pc_nilfn, pc_nilm, pc_nilif, pc_ptr, pc_slice, pc_iface, pc_agg, fillV, sliceParts, putL, St.val, getS, getO, setO, delO, updAll, updO, St.eff, R.eff, R.of, R.ofIf, Env1.note, cst, putS, dstOK, freshL, zipArgs, pvL, skipE, ↓reduceIte, Nat.reduceEqDiff, Nat.reduceLT, Nat.reduceLeDiff, Nat.reduceAdd, Nat.reduceSub, Nat.reduceMul, Int.reduceToNat, Int.toNat_natCast, and_true, true_and, false_and, and_self, forall_const, true_implies, implies_true, not_false_eq_true, not_true_eq_false, List.mem_cons, List.not_mem_nil, or_false, or_self, false_or, List.length_cons, List.length_nil, List.map_cons, List.map_nil, List.nil_append, List.cons_append, List.append_nil, List.take_zero, List.take_succ_cons, List.drop_zero, List.drop_succ_cons, List.take_nil, List.drop_nil, List.getElem?_cons_zero, List.getElem?_cons_succ, List.getElem?_nil, Option.map_some, Option.map_none, Bool.not_true, Bool.not_false, List.all_cons, List.all_nil, Bool.and_self, Bool.true_and, Bool.and_true, reduceCtorEq, Option.some.injEq, List.getD_cons_zero, List.getD_cons_succ, decide_true, decide_false, Nat.succ_ne_self, Nat.zero_add, Nat.add_zero, pvE_take, pvE_get, pvE_app, pvE_len, pvE_all, pvE_one, unE_pvE, List.forall_mem_cons, List.mem_singleton, forall_eq, List.mem_nil_iff, false_implies, XX_T, XX_gl, gl0, XX_nm, XX_nt, noteD, noteOf, tt1, tt2, tt3, tt4, tt15, tt16, tt17, tt18, tt19, tt20, tt22, tt23, tt24, tt25, tt26, tt27, tt28, tt29, tt30, tt32, tt33, tt34, tt35, tt36, tt38, tt39, tt40, tt41, tt43, tt44, tt45, tt46, tt47, tt49, tt51, tt52, tt54, tt55, tt56, tt58, tt59, tt60, tt61, tt62, tt63, tt64, tt65, tt66, tt68, tt69, tt70, tt72, tt73, tt74, tt75, tt76, tt77, tt78, tt79, tt80, tt81, tt82, tt83, tt84, tt85, tt86, tt87, tt88, tt89, tt90, tt91, tt92, tt93, tt94, tt95, tt96, tt97, tt99, tt100, tt101, tt103, tt104, tt105, tt106, tt107, tt108, tt109, tt110, tt111, tt112, tt113, tt115, tt116, tt117, tt118, tt120, tt122, tt123, tt124, tt126, tt127, tt129, tt130, tt131, tt132, tt133, tt134, tt135, tt136, tt137, tt138, tt139, tt140, tt141, tt142, tt144, tt146, tt147, tt148, tt149, tt150, tt151, tt152, tt153, tt154, tt155, tt156, tt157, tt158, tt159, tt160, tt161, tt163, tt164, tt165, tt166, tt167, tt168, tt169, tt170, tt171, tt172, tt173, tt174, tt175, tt177, tt178, tt179, tt180, tt181, tt182, tt183, tt184, tt185, tt186, tt188, tt189, tt190, tt191, tt192, tt193, tt194, tt195, tt196, tt197, tt198, tt199, tt201, tt202, tt203, tt204, tt205, tt206, tt207, tt208, tt209, tt210, tt212, tt213, tt214, tt215, tt216, tt217, tt218, tt219, tt220, tt222, tt223, tt225, tt226, tt227, tt228, tt229, tt230, tt231, tt232, tt235, tt236, tt237, tt241, tt242]; rfl) : p := h
theorem sg9 {p : Prop} (h : p := by first | (simp only [↓evalSeq, ↓evalR_some, ↓evalO_call, ↓evalO_none, ↓evalO_some, ↓evalG_tt, ↓evalG_ff, ↓evalG_tf, ↓evalG_ft, ↓evalG_sk, isCall, ↓cond_true, ↓cond_false, gv, stepOp, stepMove, stepLoad, stepStore, stepIndex, stepLen, stepAppend, stepSlice, stepBin, stepInt, stepEq, srcOf, addrOff, TK.isIface, stepRow, stepUpdate, placesA, PV.nonint, List.any_cons, List.any_nil, Bool.or_true, Bool.true_or, Bool.or_false, Bool.false_or, rdP, rdV, TI.isAgg, boolR, mkAgg, mkSlice, unL, unE, V.un, vc_int, vo_int, po_int, vc_bool, vo_bool, po_bool, vc_nil, vo_nil, po_nil, vc_nils, vo_nils, po_nils, vc_nilfn, vo_nilfn, po_nilfn, vc_nilm, vo_nilm, po_nilm, vc_nilif, vo_nilif, po_nilif, vc_ptr, vo_ptr, po_ptr, vc_slice, vo_slice, po_slice, vc_iface, vo_iface, po_iface, vc_loc, vo_loc, vc_eloc, vo_eloc, vc_arr, vo_arr, vc_map, vo_map, vc_vsl, vo_vsl, vc_fn, vo_fn, vc_agg, vc_aggv, pc_int, pc_bool, pc_nil, pc_nils, pc_nilfn, pc_nilm, pc_nilif, pc_ptr, pc_slice, pc_iface, pc_agg, fillV, sliceParts, putL, St.val, getS, getO, setO, delO, updAll, updO, St.eff, R.eff, R.of, R.ofIf, Env1.note, cst, putS, dstOK, freshL, zipArgs, pvL, skipE, ↓reduceIte, Nat.reduceEqDiff, Nat.reduceLT, Nat.reduceLeDiff, Nat.reduceAdd, Nat.reduceSub, Nat.reduceMul, Int.reduceToNat, Int.toNat_natCast, and_true, true_and, false_and, and_self, forall_const, true_implies, implies_true, not_false_eq_true, not_true_eq_false, List.mem_cons, List.not_mem_nil, or_false, or_self, false_or, List.length_cons, List.length_nil, List.map_cons, List.map_nil, List.nil_append, List.cons_append, List.append_nil, List.take_zero, List.take_succ_cons, List.drop_zero, List.drop_succ_cons, List.take_nil, List.drop_nil, List.getElem?_cons_zero, List.getElem?_cons_succ, List.getElem?_nil, Option.map_some, Option.map_none, Bool.not_true, Bool.not_false, List.all_cons, List.all_nil, Bool.and_self, Bool.true_and, Bool.and_true, reduceCtorEq, Option.some.injEq, List.getD_cons_zero, List.getD_cons_succ, decide_true, decide_false, Nat.succ_ne_self, Nat.zero_add, Nat.add_zero, pvE_take, pvE_get, pvE_app, pvE_len, pvE_all, pvE_one, unE_pvE, List.forall_mem_cons, List.mem_singleton, forall_eq, List.mem_nil_iff, false_implies, XX_T, XX_gl, gl0, XX_nm, XX_nt, noteD, noteOf, tt1, tt2, tt3, tt4, tt15, tt16, tt17, tt18, tt19, tt20, tt22, tt23, tt24, tt25, tt26, tt27, tt28, tt29, tt30, tt32, tt33, tt34, tt35, tt36, tt38, tt39, tt40, tt41, tt43, tt44, tt45, tt46, tt47, tt49, tt51, tt52, tt54, tt55, tt56, tt58, tt59, tt60, tt61, tt62, tt63, tt64, tt65, tt66, tt68, tt69, tt70, tt72, tt73, tt74, tt75, tt76, tt77, tt78, tt79, tt80, tt81, tt82, tt83, tt84, tt85, tt86, tt87, tt88, tt89, tt90, tt91, tt92, tt93, tt94, tt95, tt96, tt97, tt99, tt100, tt101, tt103, tt104, tt105, tt106, tt107, tt108, tt109, tt110, tt111, tt112, tt113, tt115, tt116, tt117, tt118, tt120, tt122, tt123, tt124, tt126, tt127, tt129, tt130, tt131, tt132, tt133, tt134, tt135, tt136, tt137, tt138, tt139, tt140, tt141, tt142, tt144, tt146, tt147, tt148, tt149, tt150, tt151, tt152, tt153, tt154, tt155, tt156, tt157, tt158, tt159, tt160, tt161, tt163, tt164, tt165, tt166, tt167, tt168, tt169, tt170, tt171, tt172, tt173, tt174, tt175, tt177, tt178, tt179, tt180, tt181, tt182, tt183, tt184, tt185, tt186, tt188, tt189, tt190, tt191, tt192, tt193, tt194, tt195, tt196, tt197, tt198, tt199, tt201, tt202, tt203, tt204, tt205, tt206, tt207, tt208, tt209, tt210, tt212, tt213, tt214, tt215, tt216, tt217, tt218, tt219, tt220, tt222, tt223, tt225, tt226, tt227, tt228, tt229, tt230, tt231, tt232, tt235, tt236, tt237, tt241, tt242, Int.cast_ofNat_Int, Int.reduceEq, Int.reduceNe, Int.reduceLT, Int.reduceLE, Int.reduceAdd, Int.reduceSub, Int.reduceMul, Int.reduceNeg, Int.reduceTMod, eq_self, ne_eq, *, calleeOf]; done) | fail) : p := h
theorem sg10 {p : Prop} (h : p := by first | (simp only [↓evalSeq, ↓evalR_some, ↓evalO_call, ↓evalO_none, ↓evalO_some, ↓evalG_tt, ↓evalG_ff, ↓evalG_tf, ↓evalG_ft, ↓evalG_sk, isCall, ↓cond_true, ↓cond_false, gv, stepOp, stepMove, stepLoad, stepStore, stepIndex, stepLen, stepAppend, stepSlice, stepBin, stepInt, stepEq, srcOf, addrOff, TK.isIface, stepRow, stepUpdate, placesA, PV.nonint, List.any_cons, List.any_nil, Bool.or_true, Bool.true_or, Bool.or_false, Bool.false_or, rdP, rdV, TI.isAgg, boolR, mkAgg, mkSlice, unL, unE, V.un, vc_int, vo_int, po_int, vc_bool, vo_bool, po_bool, vc_nil, vo_nil, po_nil, vc_nils, vo_nils, po_nils, vc_nilfn, vo_nilfn, po_nilfn, vc_nilm, vo_nilm, po_nilm, vc_nilif, vo_nilif, po_nilif, vc_ptr, vo_ptr, po_ptr, vc_slice, vo_slice, po_slice, vc_iface, vo_iface, po_iface, vc_loc, vo_loc, vc_eloc, vo_eloc, vc_arr, vo_arr, vc_map, vo_map, vc_vsl, vo_vsl, vc_fn, vo_fn, vc_agg, vc_aggv, pc_int, pc_bool, pc_nil, pc_nils, pc_nilfn, pc_nilm, pc_nilif, pc_ptr, pc_slice, pc_iface, pc_agg, fillV, sliceParts, putL, St.val, getS, getO, setO, delO, updAll, updO, St.eff, R.eff, R.of, R.ofIf, Env1.note, cst, putS, dstOK, freshL, zipArgs, pvL, skipE, ↓reduceIte, Nat.reduceEqDiff, Nat.reduceLT, Nat.reduceLeDiff, Nat.reduceAdd, Nat.reduceSub, Nat.reduceMul, Int.reduceToNat, Int.toNat_natCast, and_true, true_and, false_and, and_self, forall_const, true_implies, implies_true, not_false_eq_true, not_true_eq_false, List.mem_cons, List.not_mem_nil, or_false, or_self, false_or, List.length_cons, List.length_nil, List.map_cons, List.map_nil, List.nil_append, List.cons_append, List.append_nil, List.take_zero, List.take_succ_cons, List.drop_zero, List.drop_succ_cons, List.take_nil, List.drop_nil, List.getElem?_cons_zero, List.getElem?_cons_succ, List.getElem?_nil, Option.map_some, Option.map_none, Bool.not_true, Bool.not_false, List.all_cons, List.all_nil, Bool.and_self, Bool.true_and, Bool.and_true, reduceCtorEq, Option.some.injEq, List.getD_cons_zero, List.getD_cons_succ, decide_true, decide_false, Nat.succ_ne_self, Nat.zero_add, Nat.add_zero, pvE_take, pvE_get, pvE_app, pvE_len, pvE_all, pvE_one, unE_pvE, List.forall_mem_cons, List.mem_singleton, forall_eq, List.mem_nil_iff, false_implies, XX_T, XX_gl, gl0, XX_nm, XX_nt, noteD, noteOf, tt1, tt2, tt3, tt4, tt15, tt16, tt17, tt18, tt19, tt20, tt22, tt23, tt24, tt25, tt26, tt27, tt28, tt29, tt30, tt32, tt33, tt34, tt35, tt36, tt38, tt39, tt40, tt41, tt43, tt44, tt45, tt46, tt47, tt49, tt51, tt52, tt54, tt55, tt56, tt58, tt59, tt60, tt61, tt62, tt63, tt64, tt65, tt66, tt68, tt69, tt70, tt72, tt73, tt74, tt75, tt76, tt77, tt78, tt79, tt80, tt81, tt82, tt83, tt84, tt85, tt86, tt87, tt88, tt89, tt90, tt91, tt92, tt93, tt94, tt95, tt96, tt97, tt99, tt100, tt101, tt103, tt104, tt105, tt106, tt107, tt108, tt109, tt110, tt111, tt112, tt113, tt115, tt116, tt117, tt118, tt120, tt122, tt123, tt124, tt126, tt127, tt129, tt130, tt131, tt132, tt133, tt134, tt135, tt136, tt137, tt138, tt139, tt140, tt141, tt142, tt144, tt146, tt147, tt148, tt149, tt150, tt151, tt152, tt153, tt154, tt155, tt156, tt157, tt158, tt159, tt160, tt161, tt163, tt164, tt165, tt166, tt167, tt168, tt169, tt170, tt171, tt172, tt173, tt174, tt175, tt177, tt178, tt179, tt180, tt181, tt182, tt183, tt184, tt185, tt186, tt188, tt189, tt190, tt191, tt192, tt193, tt194, tt195, tt196, tt197, tt198, tt199, tt201, tt202, tt203, tt204, tt205, tt206, tt207, tt208, tt209, tt210, tt212, tt213, tt214, tt215, tt216, tt217, tt218, tt219, tt220, tt222, tt223, tt225, tt226, tt227, tt228, tt229, tt230, tt231, tt232, tt235, tt236, tt237, tt241, tt242, Int.cast_ofNat_Int, Int.reduceEq, Int.reduceNe, Int.reduceLT, Int.reduceLE, Int.reduceAdd, Int.reduceSub, Int.reduceMul, Int.reduceNeg, Int.reduceTMod, eq_self, ne_eq, *, subO]; done) | fail) : p := h
theorem sg11 {p : Prop} (h : p := by first | (simp only [↓evalSeq, ↓evalR_some, ↓evalO_call, ↓evalO_none, ↓evalO_some, ↓evalG_tt, ↓evalG_ff, ↓evalG_tf, ↓evalG_ft, ↓evalG_sk, isCall, ↓cond_true, ↓cond_false, gv, stepOp, stepMove, stepLoad, stepStore, stepIndex, stepLen, stepAppend, stepSlice, stepBin, stepInt, stepEq, srcOf, addrOff, TK.isIface, stepRow, stepUpdate, placesA, PV.nonint, List.any_cons, List.any_nil, Bool.or_true, Bool.true_or, Bool.or_false, Bool.false_or, rdP, rdV, TI.isAgg, boolR, mkAgg, mkSlice, unL, unE, V.un, vc_int, vo_int, po_int, vc_bool, vo_bool, po_bool, vc_nil, vo_nil, po_nil, vc_nils, vo_nils, po_nils, vc_nilfn, vo_nilfn, po_nilfn, vc_nilm, vo_nilm, po_nilm, vc_nilif, vo_nilif, po_nilif, vc_ptr, vo_ptr, po_ptr, vc_slice, vo_slice, po_slice, vc_iface, vo_iface, po_iface, vc_loc, vo_loc, vc_eloc, vo_eloc, vc_arr, vo_arr, vc_map, vo_map, vc_vsl, vo_vsl, vc_fn, vo_fn, vc_agg, vc_aggv, pc_int, pc_bool, pc_nil, pc_nils, pc_nilfn, pc_nilm, pc_nilif, pc_ptr, pc_slice, pc_iface, pc_agg, fillV, sliceParts, putL, St.val, getS, getO, setO, delO, updAll, updO, St.eff, R.eff, R.of, R.ofIf, Env1.note, cst, putS, dstOK, freshL, zipArgs, pvL, skipE, ↓reduceIte, Nat.reduceEqDiff, Nat.reduceLT, Nat.reduceLeDiff, Nat.reduceAdd, Nat.reduceSub, Nat.reduceMul, Int.reduceToNat, Int.toNat_natCast, and_true, true_and, false_and, and_self, forall_const, true_implies, implies_true, not_false_eq_true, not_true_eq_false, List.mem_cons, List.not_mem_nil, or_false, or_self, false_or, List.length_cons, List.length_nil, List.map_cons, List.map_nil, List.nil_append, List.cons_append, List.append_nil, List.take_zero, List.take_succ_cons, List.drop_zero, List.drop_succ_cons, List.take_nil, List.drop_nil, List.getElem?_cons_zero, List.getElem?_cons_succ, List.getElem?_nil, Option.map_some, Option.map_none, Bool.not_true, Bool.not_false, List.all_cons, List.all_nil, Bool.and_self, Bool.true_and, Bool.and_true, reduceCtorEq, Option.some.injEq, List.getD_cons_zero, List.getD_cons_succ, decide_true, decide_false, Nat.succ_ne_self, Nat.zero_add, Nat.add_zero, pvE_take, pvE_get, pvE_app, pvE_len, pvE_all, pvE_one, unE_pvE, List.forall_mem_cons, List.mem_singleton, forall_eq, List.mem_nil_iff, false_implies, XX_T, XX_gl, gl0, XX_nm, XX_nt, noteD, noteOf, tt1, tt2, tt3, tt4, tt15, tt16, tt17, tt18, tt19, tt20, tt22, tt23, tt24, tt25, tt26, tt27, tt28, tt29, tt30, tt32, tt33, tt34, tt35, tt36, tt38, tt39, tt40, tt41, tt43, tt44, tt45, tt46, tt47, tt49, tt51, tt52, tt54, tt55, tt56, tt58, tt59, tt60, tt61, tt62, tt63, tt64, tt65, tt66, tt68, tt69, tt70, tt72, tt73, tt74, tt75, tt76, tt77, tt78, tt79, tt80, tt81, tt82, tt83, tt84, tt85, tt86, tt87, tt88, tt89, tt90, tt91, tt92, tt93, tt94, tt95, tt96, tt97, tt99, tt100, tt101, tt103, tt104, tt105, tt106, tt107, tt108, tt109, tt110, tt111, tt112, tt113, tt115, tt116, tt117, tt118, tt120, tt122, tt123, tt124, tt126, tt127, tt129, tt130, tt131, tt132, tt133, tt134, tt135, tt136, tt137, tt138, tt139, tt140, tt141, tt142, tt144, tt146, tt147, tt148, tt149, tt150, tt151, tt152, tt153, tt154, tt155, tt156, tt157, tt158, tt159, tt160, tt161, tt163, tt164, tt165, tt166, tt167, tt168, tt169, tt170, tt171, tt172, tt173, tt174, tt175, tt177, tt178, tt179, tt180, tt181, tt182, tt183, tt184, tt185, tt186, tt188, tt189, tt190, tt191, tt192, tt193, tt194, tt195, tt196, tt197, tt198, tt199, tt201, tt202, tt203, tt204, tt205, tt206, tt207, tt208, tt209, tt210, tt212, tt213, tt214, tt215, tt216, tt217, tt218, tt219, tt220, tt222, tt223, tt225, tt226, tt227, tt228, tt229, tt230, tt231, tt232, tt235, tt236, tt237, tt241, tt242, Int.cast_ofNat_Int, Int.reduceEq, Int.reduceNe, Int.reduceLT, Int.reduceLE, Int.reduceAdd, Int.reduceSub, Int.reduceMul, Int.reduceNeg, Int.reduceTMod, eq_self, ne_eq, *, callEff, callWr, keysO, List.filter_cons, List.filter_nil, Option.isNone_none, Option.isNone_some, List.reverse_nil, List.reverse_cons]; done) | fail) : p := h
theorem sg12 {p : Prop} (h : p := by simp only [↓evalSeq, ↓evalR_some, ↓evalO_call, ↓evalO_none, ↓evalO_some, ↓evalG_tt, ↓evalG_ff, ↓evalG_tf, ↓evalG_ft, ↓evalG_sk, isCall, ↓cond_true, ↓cond_false, gv, stepOp, stepMove, stepLoad, stepStore, stepIndex, stepLen, stepAppend, stepSlice, stepBin, stepInt, stepEq, srcOf, addrOff, TK.isIface, stepRow, stepUpdate, placesA, PV.nonint, List.any_cons, List.any_nil, Bool.or_true, Bool.true_or, Bool.or_false, Bool.false_or, rdP, rdV, TI.isAgg, boolR, mkAgg, mkSlice, unL, unE, V.un, vc_int, vo_int, po_int, vc_bool, vo_bool, po_bool, vc_nil, vo_nil, po_nil, vc_nils, vo_nils, po_nils, vc_nilfn, vo_nilfn, po_nilfn, vc_nilm, vo_nilm, po_nilm, vc_nilif, vo_nilif, po_nilif, vc_ptr, vo_ptr, po_ptr, vc_slice, vo_slice, po_slice, vc_iface, vo_iface, po_iface, vc_loc, vo_loc, vc_eloc, vo_eloc, vc_arr, vo_arr, vc_map, vo_map, vc_vsl, vo_vsl, vc_fn, vo_fn, vc_agg, vc_aggv, pc_int, pc_bool, pc_nil, pc_nils, pc_nilfn, pc_nilm, pc_nilif, pc_ptr, pc_slice, pc_iface, pc_agg, fillV, sliceParts, putL, St.val, getS, getO, setO, delO, updAll, updO, St.eff, R.eff, R.of, R.ofIf, Env1.note, cst, putS, dstOK, freshL, zipArgs, pvL, skipE, ↓reduceIte, Nat.reduceEqDiff, Nat.reduceLT, Nat.reduceLeDiff, Nat.reduceAdd, Nat.reduceSub, Nat.reduceMul, Int.reduceToNat, Int.toNat_natCast, and_true, true_and, false_and, and_self, forall_const, true_implies, implies_true, not_false_eq_true, not_true_eq_false, List.mem_cons, List.not_mem_nil, or_false, or_self, false_or, List.length_cons, List.length_nil, List.map_cons, List.map_nil, List.nil_append, List.cons_append, List.append_nil, List.take_zero, List.take_succ_cons, List.drop_zero, List.drop_succ_cons, List.take_nil, List.drop_nil, List.getElem?_cons_zero, List.getElem?_cons_succ, List.getElem?_nil, Option.map_some, Option.map_none, Bool.not_true, Bool.not_false, List.all_cons, List.all_nil, Bool.and_self, Bool.true_and, Bool.and_true, reduceCtorEq, Option.some.injEq, List.getD_cons_zero, List.getD_cons_succ, decide_true, decide_false, Nat.succ_ne_self, Nat.zero_add, Nat.add_zero, pvE_take, pvE_get, pvE_app, pvE_len, pvE_all, pvE_one, unE_pvE, List.forall_mem_cons, List.mem_singleton, forall_eq, List.mem_nil_iff, false_implies, XX_T, XX_gl, gl0, XX_nm, XX_nt, noteD, noteOf, tt1, tt2, tt3, tt4, tt15, tt16, tt17, tt18, tt19, tt20, tt22, tt23, tt24, tt25, tt26, tt27, tt28, tt29, tt30, tt32, tt33, tt34, tt35, tt36, tt38, tt39, tt40, tt41, tt43, tt44, tt45, tt46, tt47, tt49, tt51, tt52, tt54, tt55, tt56, tt58, tt59, tt60, tt61, tt62, tt63, tt64, tt65, tt66, tt68, tt69, tt70, tt72, tt73, tt74, tt75, tt76, tt77, tt78, tt79, tt80, tt81, tt82, tt83, tt84, tt85, tt86, tt87, tt88, tt89, tt90, tt91, tt92, tt93, tt94, tt95, tt96, tt97, tt99, tt100, tt101, tt103, tt104, tt105, tt106, tt107, tt108, tt109, tt110, tt111, tt112, tt113, tt115, tt116, tt117, tt118, tt120, tt122, tt123, tt124, tt126, tt127, tt129, tt130, tt131, tt132, tt133, tt134, tt135, tt136, tt137, tt138, tt139, tt140, tt141, tt142, tt144, tt146, tt147, tt148, tt149, tt150, tt151, tt152, tt153, tt154, tt155, tt156, tt157, tt158, tt159, tt160, tt161, tt163, tt164, tt165, tt166, tt167, tt168, tt169, tt170, tt171, tt172, tt173, tt174, tt175, tt177, tt178, tt179, tt180, tt181, tt182, tt183, tt184, tt185, tt186, tt188, tt189, tt190, tt191, tt192, tt193, tt194, tt195, tt196, tt197, tt198, tt199, tt201, tt202, tt203, tt204, tt205, tt206, tt207, tt208, tt209, tt210, tt212, tt213, tt214, tt215, tt216, tt217, tt218, tt219, tt220, tt222, tt223, tt225, tt226, tt227, tt228, tt229, tt230, tt231, tt232, tt235, tt236, tt237, tt241, tt242, Int.cast_ofNat_Int, Int.reduceEq, Int.reduceNe, Int.reduceLT, Int.reduceLE, Int.reduceAdd, Int.reduceSub, Int.reduceMul, Int.reduceNeg, Int.reduceTMod, eq_self, ne_eq, *, callEff, callWr, keysO, List.filter_cons, List.filter_nil, Option.isNone_none, Option.isNone_some, List.reverse_nil, List.reverse_cons]; rfl) : p := h
theorem sg13 {p : Prop} (h : p := by simp only [↓evalSeq, ↓evalR_some, ↓evalO_call, ↓evalO_none, ↓evalO_some, ↓evalG_tt, ↓evalG_ff, ↓evalG_tf, ↓evalG_ft, ↓evalG_sk, isCall, ↓cond_true, ↓cond_false, gv, stepOp, stepMove, stepLoad, stepStore, stepIndex, stepLen, stepAppend, stepSlice, stepBin, stepInt, stepEq, srcOf, addrOff, TK.isIface, stepRow, stepUpdate, placesA, PV.nonint, List.any_cons, List.any_nil, Bool.or_true, Bool.true_or, Bool.or_false, Bool.false_or, rdP, rdV, TI.isAgg, boolR, mkAgg, mkSlice, unL, unE, V.un, vc_int, vo_int, po_int, vc_bool, vo_bool, po_bool, vc_nil, vo_nil, po_nil, vc_nils, vo_nils, po_nils, vc_nilfn, vo_nilfn, po_nilfn, vc_nilm, vo_nilm, po_nilm, vc_nilif, vo_nilif, po_nilif, vc_ptr, vo_ptr, po_ptr, vc_slice, vo_slice, po_slice, vc_iface, vo_iface, po_iface, vc_loc, vo_loc, vc_eloc, vo_eloc, vc_arr, vo_arr, vc_map, vo_map, vc_vsl, vo_vsl, vc_fn, vo_fn, vc_agg, vc_aggv, pc_int, pc_bool, pc_nil, pc_nils, pc_nilfn, pc_nilm, pc_nilif, pc_ptr, pc_slice, pc_iface, pc_agg, fillV, sliceParts, putL, St.val, getS, getO, setO, delO, updAll, updO, St.eff, R.eff, R.of, R.ofIf, Env1.note, cst, putS, dstOK, freshL, zipArgs, pvL, skipE, ↓reduceIte, Nat.reduceEqDiff, Nat.reduceLT, Nat.reduceLeDiff, Nat.reduceAdd, Nat.reduceSub, Nat.reduceMul, Int.reduceToNat, Int.toNat_natCast, and_true, true_and, false_and, and_self, forall_const, true_implies, implies_true, not_false_eq_true, not_true_eq_false, List.mem_cons, List.not_mem_nil, or_false, or_self, false_or, List.length_cons, List.length_nil, List.map_cons, List.map_nil, List.nil_append, List.cons_append, List.append_nil, List.take_zero, List.take_succ_cons, List.drop_zero, List.drop_succ_cons, List.take_nil, List.drop_nil, List.getElem?_cons_zero, List.getElem?_cons_succ, List.getElem?_nil, Option.map_some, Option.map_none, Bool.not_true, Bool.not_false, List.all_cons, List.all_nil, Bool.and_self, Bool.true_and, Bool.and_true, reduceCtorEq, Option.some.injEq, List.getD_cons_zero, List.getD_cons_succ, decide_true, decide_false, Nat.succ_ne_self, Nat.zero_add, Nat.add_zero, pvE_take, pvE_get, pvE_app, pvE_len, pvE_all, pvE_one, unE_pvE, List.forall_mem_cons, List.mem_singleton, forall_eq, List.mem_nil_iff, false_implies, XX_T, XX_gl, gl0, XX_nm, XX_nt, noteD, noteOf, tt1, tt2, tt3, tt4, tt15, tt16, tt17, tt18, tt19, tt20, tt22, tt23, tt24, tt25, tt26, tt27, tt28, tt29, tt30, tt32, tt33, tt34, tt35, tt36, tt38, tt39, tt40, tt41, tt43, tt44, tt45, tt46, tt47, tt49, tt51, tt52, tt54, tt55, tt56, tt58, tt59, tt60, tt61, tt62, tt63, tt64, tt65, tt66, tt68, tt69, tt70, tt72, tt73, tt74, tt75, tt76, tt77, tt78, tt79, tt80, tt81, tt82, tt83, tt84, tt85, tt86, tt87, tt88, tt89, tt90, tt91, tt92, tt93, tt94, tt95, tt96, tt97, tt99, tt100, tt101, tt103, tt104, tt105, tt106, tt107, tt108, tt109, tt110, tt111, tt112, tt113, tt115, tt116, tt117, tt118, tt120, tt122, tt123, tt124, tt126, tt127, tt129, tt130, tt131, tt132, tt133, tt134, tt135, tt136, tt137, tt138, tt139, tt140, tt141, tt142, tt144, tt146, tt147, tt148, tt149, tt150, tt151, tt152, tt153, tt154, tt155, tt156, tt157, tt158, tt159, tt160, tt161, tt163, tt164, tt165, tt166, tt167, tt168, tt169, tt170, tt171, tt172, tt173, tt174, tt175, tt177, tt178, tt179, tt180, tt181, tt182, tt183, tt184, tt185, tt186, tt188, tt189, tt190, tt191, tt192, tt193, tt194, tt195, tt196, tt197, tt198, tt199, tt201, tt202, tt203, tt204, tt205, tt206, tt207, tt208, tt209, tt210, tt212, tt213, tt214, tt215, tt216, tt217, tt218, tt219, tt220, tt222, tt223, tt225, tt226, tt227, tt228, tt229, tt230, tt231, tt232, tt235, tt236, tt237, tt241, tt242, Int.cast_ofNat_Int, Int.reduceEq, Int.reduceNe, Int.reduceLT, Int.reduceLE, Int.reduceAdd, Int.reduceSub, Int.reduceMul, Int.reduceNeg, Int.reduceTMod, eq_self, ne_eq, *, callEffR, callEff, callWr, keysO, List.filter_cons, List.filter_nil, Option.isNone_none, Option.isNone_some, List.reverse_nil, List.reverse_cons]; rfl) : p := h
theorem sg14 {p : Prop} (h : p := by simp only [↓evalSeq, ↓evalR_some, ↓evalO_call, ↓evalO_none, ↓evalO_some, ↓evalG_tt, ↓evalG_ff, ↓evalG_tf, ↓evalG_ft, ↓evalG_sk, isCall, ↓cond_true, ↓cond_false, gv, stepOp, stepMove, stepLoad, stepStore, stepIndex, stepLen, stepAppend, stepSlice, stepBin, stepInt, stepEq, srcOf, addrOff, TK.isIface, stepRow, stepUpdate, placesA, PV.nonint, List.any_cons, List.any_nil, Bool.or_true, Bool.true_or, Bool.or_false, Bool.false_or, rdP, rdV, TI.isAgg, boolR, mkAgg, mkSlice, unL, unE, V.un, vc_int, vo_int, po_int, vc_bool, vo_bool, po_bool, vc_nil, vo_nil, po_nil, vc_nils, vo_nils, po_nils, vc_nilfn, vo_nilfn, po_nilfn, vc_nilm, vo_nilm, po_nilm, vc_nilif, vo_nilif, po_nilif, vc_ptr, vo_ptr, po_ptr, vc_slice, vo_slice, po_slice, vc_iface, vo_iface, po_iface, vc_loc, vo_loc, vc_eloc, vo_eloc, vc_arr, vo_arr, vc_map, vo_map, vc_vsl, vo_vsl, vc_fn, vo_fn, vc_agg, vc_aggv, pc_int, pc_bool, pc_nil, pc_nils, pc_nilfn, pc_nilm, pc_nilif, pc_ptr, pc_slice, pc_iface, pc_agg, fillV, sliceParts, putL, St.val, getS, getO, setO, delO, updAll, updO, St.eff, R.eff, R.of, R.ofIf, Env1.note, cst, putS, dstOK, freshL, zipArgs, pvL, skipE, ↓reduceIte, Nat.reduceEqDiff, Nat.reduceLT, Nat.reduceLeDiff, Nat.reduceAdd, Nat.reduceSub, Nat.reduceMul, Int.reduceToNat, Int.toNat_natCast, and_true, true_and, false_and, and_self, forall_const, true_implies, implies_true, not_false_eq_true, not_true_eq_false, List.mem_cons, List.not_mem_nil, or_false, or_self, false_or, List.length_cons, List.length_nil, List.map_cons, List.map_nil, List.nil_append, List.cons_append, List.append_nil, List.take_zero, List.take_succ_cons, List.drop_zero, List.drop_succ_cons, List.take_nil, List.drop_nil, List.getElem?_cons_zero, List.getElem?_cons_succ, List.getElem?_nil, Option.map_some, Option.map_none, Bool.not_true, Bool.not_false, List.all_cons, List.all_nil, Bool.and_self, Bool.true_and, Bool.and_true, reduceCtorEq, Option.some.injEq, List.getD_cons_zero, List.getD_cons_succ, decide_true, decide_false, Nat.succ_ne_self, Nat.zero_add, Nat.add_zero, pvE_take, pvE_get, pvE_app, pvE_len, pvE_all, pvE_one, unE_pvE, List.forall_mem_cons, List.mem_singleton, forall_eq, List.mem_nil_iff, false_implies, XX_T, XX_gl, gl0, XX_nm, XX_nt, noteD, noteOf, tt1, tt2, tt3, tt4, tt15, tt16, tt17, tt18, tt19, tt20, tt22, tt23, tt24, tt25, tt26, tt27, tt28, tt29, tt30, tt32, tt33, tt34, tt35, tt36, tt38, tt39, tt40, tt41, tt43, tt44, tt45, tt46, tt47, tt49, tt51, tt52, tt54, tt55, tt56, tt58, tt59, tt60, tt61, tt62, tt63, tt64, tt65, tt66, tt68, tt69, tt70, tt72, tt73, tt74, tt75, tt76, tt77, tt78, tt79, tt80, tt81, tt82, tt83, tt84, tt85, tt86, tt87, tt88, tt89, tt90, tt91, tt92, tt93, tt94, tt95, tt96, tt97, tt99, tt100, tt101, tt103, tt104, tt105, tt106, tt107, tt108, tt109, tt110, tt111, tt112, tt113, tt115, tt116, tt117, tt118, tt120, tt122, tt123, tt124, tt126, tt127, tt129, tt130, tt131, tt132, tt133, tt134, tt135, tt136, tt137, tt138, tt139, tt140, tt141, tt142, tt144, tt146, tt147, tt148, tt149, tt150, tt151, tt152, tt153, tt154, tt155, tt156, tt157, tt158, tt159, tt160, tt161, tt163, tt164, tt165, tt166, tt167, tt168, tt169, tt170, tt171, tt172, tt173, tt174, tt175, tt177, tt178, tt179, tt180, tt181, tt182, tt183, tt184, tt185, tt186, tt188, tt189, tt190, tt191, tt192, tt193, tt194, tt195, tt196, tt197, tt198, tt199, tt201, tt202, tt203, tt204, tt205, tt206, tt207, tt208, tt209, tt210, tt212, tt213, tt214, tt215, tt216, tt217, tt218, tt219, tt220, tt222, tt223, tt225, tt226, tt227, tt228, tt229, tt230, tt231, tt232, tt235, tt236, tt237, tt241, tt242, List.set_cons_zero, List.set_cons_succ]; rfl) : p := h
theorem sg15 {p : Prop} (h : p := by simp only [St.frb, frbS, frbV, frbL, frbO, frbOb, ↓evalSeq, ↓evalR_some, ↓evalO_call, ↓evalO_none, ↓evalO_some, ↓evalG_tt, ↓evalG_ff, ↓evalG_tf, ↓evalG_ft, ↓evalG_sk, isCall, ↓cond_true, ↓cond_false, gv, stepOp, stepMove, stepLoad, stepStore, stepIndex, stepLen, stepAppend, stepSlice, stepBin, stepInt, stepEq, srcOf, addrOff, TK.isIface, stepRow, stepUpdate, placesA, PV.nonint, List.any_cons, List.any_nil, Bool.or_true, Bool.true_or, Bool.or_false, Bool.false_or, rdP, rdV, TI.isAgg, boolR, mkAgg, mkSlice, unL, unE, V.un, vc_int, vo_int, po_int, vc_bool, vo_bool, po_bool, vc_nil, vo_nil, po_nil, vc_nils, vo_nils, po_nils, vc_nilfn, vo_nilfn, po_nilfn, vc_nilm, vo_nilm, po_nilm, vc_nilif, vo_nilif, po_nilif, vc_ptr, vo_ptr, po_ptr, vc_slice, vo_slice, po_slice, vc_iface, vo_iface, po_iface, vc_loc, vo_loc, vc_eloc, vo_eloc, vc_arr, vo_arr, vc_map, vo_map, vc_vsl, vo_vsl, vc_fn, vo_fn, vc_agg, vc_aggv, pc_int, pc_bool, pc_nil, pc_nils, pc_nilfn, pc_nilm, pc_nilif, pc_ptr, pc_slice, pc_iface, pc_agg, fillV, sliceParts, putL, St.val, getS, getO, setO, delO, updAll, updO, St.eff, R.eff, R.of, R.ofIf, Env1.note, cst, putS, dstOK, freshL, zipArgs, pvL, skipE, ↓reduceIte, Nat.reduceEqDiff, Nat.reduceLT, Nat.reduceLeDiff, Nat.reduceAdd, Nat.reduceSub, Nat.reduceMul, Int.reduceToNat, Int.toNat_natCast, and_true, true_and, false_and, and_self, forall_const, true_implies, implies_true, not_false_eq_true, not_true_eq_false, List.mem_cons, List.not_mem_nil, or_false, or_self, false_or, List.length_cons, List.length_nil, List.map_cons, List.map_nil, List.nil_append, List.cons_append, List.append_nil, List.take_zero, List.take_succ_cons, List.drop_zero, List.drop_succ_cons, List.take_nil, List.drop_nil, List.getElem?_cons_zero, List.getElem?_cons_succ, List.getElem?_nil, Option.map_some, Option.map_none, Bool.not_true, Bool.not_false, List.all_cons, List.all_nil, Bool.and_self, Bool.true_and, Bool.and_true, reduceCtorEq, Option.some.injEq, List.getD_cons_zero, List.getD_cons_succ, decide_true, decide_false, Nat.succ_ne_self, Nat.zero_add, Nat.add_zero, pvE_take, pvE_get, pvE_app, pvE_len, pvE_all, pvE_one, unE_pvE, List.forall_mem_cons, List.mem_singleton, forall_eq, List.mem_nil_iff, false_implies, XX_T, XX_gl, gl0, XX_nm, XX_nt, noteD, noteOf, tt1, tt2, tt3, tt4, tt15, tt16, tt17, tt18, tt19, tt20, tt22, tt23, tt24, tt25, tt26, tt27, tt28, tt29, tt30, tt32, tt33, tt34, tt35, tt36, tt38, tt39, tt40, tt41, tt43, tt44, tt45, tt46, tt47, tt49, tt51, tt52, tt54, tt55, tt56, tt58, tt59, tt60, tt61, tt62, tt63, tt64, tt65, tt66, tt68, tt69, tt70, tt72, tt73, tt74, tt75, tt76, tt77, tt78, tt79, tt80, tt81, tt82, tt83, tt84, tt85, tt86, tt87, tt88, tt89, tt90, tt91, tt92, tt93, tt94, tt95, tt96, tt97, tt99, tt100, tt101, tt103, tt104, tt105, tt106, tt107, tt108, tt109, tt110, tt111, tt112, tt113, tt115, tt116, tt117, tt118, tt120, tt122, tt123, tt124, tt126, tt127, tt129, tt130, tt131, tt132, tt133, tt134, tt135, tt136, tt137, tt138, tt139, tt140, tt141, tt142, tt144, tt146, tt147, tt148, tt149, tt150, tt151, tt152, tt153, tt154, tt155, tt156, tt157, tt158, tt159, tt160, tt161, tt163, tt164, tt165, tt166, tt167, tt168, tt169, tt170, tt171, tt172, tt173, tt174, tt175, tt177, tt178, tt179, tt180, tt181, tt182, tt183, tt184, tt185, tt186, tt188, tt189, tt190, tt191, tt192, tt193, tt194, tt195, tt196, tt197, tt198, tt199, tt201, tt202, tt203, tt204, tt205, tt206, tt207, tt208, tt209, tt210, tt212, tt213, tt214, tt215, tt216, tt217, tt218, tt219, tt220, tt222, tt223, tt225, tt226, tt227, tt228, tt229, tt230, tt231, tt232, tt235, tt236, tt237, tt241, tt242]; rfl) : p := h
variable {draw : Bool} {ops : List Oper} {K : St → List Eff → Prop} {Qp : PV → St → Prop} {o : Oper} {rest : List Oper} {σ σ' : St} {tr tr' : List Eff} {cs : List C1} {rest' : List Oper}
theorem ev (hc : buildC cs True) (hr : runOps (XX nm nt given) draw ops K Qp rest' σ' tr') (hcall : isCall o.op = false := by rfl) (h : evalSeq (XX nm nt given) draw ops (o :: rest) σ tr [] = some ⟨cs, σ', rest', tr'⟩ := by exact sg1) :
    runOps (XX nm nt given) draw ops K Qp (o :: rest) σ tr := runOps_ev hcall h hc hr
/-- the same, where the conditions are plain -/
theorem go (hr : runOps (XX nm nt given) draw ops K Qp rest' σ' tr') (hcall : isCall o.op = false := by rfl) (h : evalSeq (XX nm nt given) draw ops (o :: rest) σ tr [] = some ⟨cs, σ', rest', tr'⟩ := by exact sg1)
    (hc : buildC cs True := by first | (simp only [buildC, and_true, true_and, implies_true, true_implies, and_self]; done) | (simp only [buildC, and_true, true_and, implies_true, true_implies, and_self]; unfold inI; omega) | (simp [buildC, inI, maxLen, *]; done) | (simp only [buildC, and_true, true_and, implies_true, true_implies, and_self]; (repeat' (first | assumption | with_reducible apply And.intro | intro _)) <;> first | assumption | omega | (unfold inI; omega) | (simp; done)) | (simp [buildC, inI, maxLen]; omega)) : runOps (XX nm nt given) draw ops K Qp (o :: rest) σ tr := runOps_ev hcall h hc hr
theorem call {f : Nat} {args : List V} {objs : List (Nat × Ob)} {x : V} {objs' : List (Nat × Ob)} (hac : AC Tryz.prog gl f args objs (.ret x) objs') (h : runOps (XX nm nt given) draw ops K Qp rest σ' tr')
    (hf : calleeOf (σ.val gl) o.op = some (f, args) := by first | (exact sg2) | fail) (hd : dstOK (XX nm nt given) o.dst := by exact sg3) (hg : guardV ops σ o.guard = some true := by rfl)
    (h1 : subO objs σ.objs := by exact sg4) (h2 : freshL ((keysO objs').filter (fun n => (getO objs n).isNone)) σ.used := by exact sg5)
    (hσ : σ.eff o.dst (callEff x objs objs') = σ' := by exact sg6) (htr : (bif draw then tr ++ [callEff x objs objs'] else tr) = tr' := by exact sg6) : runOps (XX nm nt given) draw ops K Qp (o :: rest) σ tr :=
  runOps_call (X := XX nm nt given) hac hd hg hf h1 h2 hσ htr h
theorem cskip (h : runOps (XX nm nt given) draw ops K Qp rest σ' tr') (hg : guardV ops σ o.guard = some false := by rfl) (hd : dstOK (XX nm nt given) o.dst := by exact sg3)
    (hσ : σ.eff o.dst skipE = σ' := by exact sg7) (htr : (bif draw then tr ++ [skipE] else tr) = tr' := by exact sg7) : runOps (XX nm nt given) draw ops K Qp (o :: rest) σ tr :=
  runOps_call_skip (X := XX nm nt given) hd hg hσ htr h
theorem cd {c : Operand} {x y : Code} {Q : AEx → St → Prop} {v : V} (h : caseB v (AWP (XX nm nt given) x σ Q) (AWP (XX nm nt given) y σ Q)) (hv : σ.val gl c = v := by exact sg1) : AWP (XX nm nt given) (.cond c x y) σ Q := ex_cond hv h
theorem cdt {v : V} {c : Operand} {x y : Code} {Q : AEx → St → Prop} (h : AWP (XX nm nt given) x σ Q) (hv : σ.val gl c = v := by exact sg1) (hb : v = .pv (.bool true) := by rfl) : AWP (XX nm nt given) (.cond c x y) σ Q := ex_cond (hv.trans hb) (by rw [caseB_true]; exact h)
theorem cdf {v : V} {c : Operand} {x y : Code} {Q : AEx → St → Prop} (h : AWP (XX nm nt given) y σ Q) (hv : σ.val gl c = v := by exact sg1) (hb : v = .pv (.bool false) := by rfl) : AWP (XX nm nt given) (.cond c x y) σ Q := ex_cond (hv.trans hb) (by rw [caseB_false]; exact h)
theorem kp {c : Code} {Q : AEx → St → Prop} (ss ns : List Nat) (h : AWP (XX nm nt given) c σ' Q) (hσ : σ.keep ss ns = σ' := by simp only [St.keep, pickS, pickO, getS, getO, ↓reduceIte, Nat.reduceEqDiff]; rfl)
    (hn : subL (namesSl σ'.slots ++ namesOb σ'.objs ++ (XX nm nt given).given) ns := by simp [subL, namesSl, V.names, namesOb, Ob.names, namesL, namesE, namesE_pvE, XX_given]) : AWP (XX nm nt given) c σ Q := ex_keep ss ns hσ hn h
theorem frz {c : Code} {Q : AEx → St → Prop} (n : Nat) {ver sz ty : Nat} {es : List (List PV)} (h : AWP (XX nm nt given) c σ' Q) (ho : getO σ.objs n = some (.arr ver sz ty (pvE es)) := by simp only [getO, ↓reduceIte, Nat.reduceEqDiff]; rfl)
    (hσ : σ.frz n ver es = σ' := by exact sg8) : AWP (XX nm nt given) c σ Q := ex_freeze n ho hσ h
theorem bodyM {f : Nat} {fn : Func} {c : Code} (nm : List (Nat × Note)) (ms : List Nat) {args : List V} {objs : List (Nat × Ob)} {out : Out} {objs' : List (Nat × Ob)} {ks : List Nat} (hf : Tryz.prog.funcs[f]? = some fn) (hnt : fn.ntmps = nt) (h : AWP (XX nm nt ks) c ⟨zipArgs 0 args, objs, ks⟩ (endQ (XX nm nt ks) fn.results.toList out objs'))
    (hb : fn.body = some c := by rfl) (hname : (fn.name == "runtime.NumGoroutine") = false := by kernel_rfl) (hal : args.length ≤ nt := by simp) (hks : keysO objs ++ ms = ks := by first | (simp only [keysO, List.map_cons, List.map_nil, List.nil_append, List.cons_append, List.append_nil]; done) | (simp only [keysO, List.map_cons, List.map_nil, List.nil_append, List.cons_append, List.append_nil]; rfl))
    (hms1 : subL ms (mentL args objs) := by simp [subL, mentL, mentO, namesL, V.names, Ob.names, namesE, namesE_pvE]) (hms2 : ∀ n ∈ ms, n ∉ keysO objs := by simp [keysO]) (hms3 : ∀ n ∈ ms, n ∉ keysO objs' := by simp [keysO])
    (hna : subL (namesL args ++ namesOb objs) ks := by simp [subL, namesL, V.names, namesOb, Ob.names, keysO, namesE, namesE_pvE]) (hno : subL (out.names ++ namesOb objs') (ks ++ keysO objs') := by simp [subL, Out.names, V.names, namesL, namesOb, Ob.names, keysO, namesE, namesE_pvE]) :
    AC Tryz.prog gl f args objs out objs' := by
  subst hks
  exact AC.of_body (X := XX nm nt (keysO objs ++ ms)) ttOK hf hb hname hnt rfl hal hms1 hms2 hms3 hna hno h
theorem body {f : Nat} {fn : Func} {c : Code} (nm : List (Nat × Note)) {args : List V} {objs : List (Nat × Ob)} {out : Out} {objs' : List (Nat × Ob)} {ks : List Nat} (hf : Tryz.prog.funcs[f]? = some fn) (hnt : fn.ntmps = nt) (h : AWP (XX nm nt ks) c ⟨zipArgs 0 args, objs, ks⟩ (endQ (XX nm nt ks) fn.results.toList out objs'))
    (hb : fn.body = some c := by rfl) (hname : (fn.name == "runtime.NumGoroutine") = false := by kernel_rfl) (hal : args.length ≤ nt := by simp) (hks : keysO objs = ks := by first | (simp only [keysO, List.map_cons, List.map_nil]; done) | (simp only [keysO, List.map_cons, List.map_nil]; rfl))
    (hna : subL (namesL args ++ namesOb objs) ks := by simp [subL, namesL, V.names, namesOb, Ob.names, keysO, namesE, namesE_pvE]) (hno : subL (out.names ++ namesOb objs') (ks ++ keysO objs') := by simp [subL, Out.names, V.names, namesL, namesOb, Ob.names, keysO, namesE, namesE_pvE]) :
    AC Tryz.prog gl f args objs out objs' :=
  bodyM nm [] hf hnt h hb hname hal (by simpa using hks) trivial (by simp) (by simp) hna hno
end

section
variable {nm : List (Nat × Note)} {nt : Nat} {given : List Nat}
variable {draw : Bool} {ops : List Oper} {K : St → List Eff → Prop} {Qp : PV → St → Prop} {o : Oper} {rest : List Oper} {σ σ' : St} {tr tr' : List Eff} {cs : List C1} {rest' : List Oper}
/-- a call whose names are known by the facts at hand -/
theorem callS {f : Nat} {args : List V} {objs : List (Nat × Ob)} {x : V} {objs' : List (Nat × Ob)} (hac : AC Tryz.prog gl f args objs (.ret x) objs') (h : runOps (XX nm nt given) draw ops K Qp rest σ' tr')
    (hf : calleeOf (σ.val gl) o.op = some (f, args) := by first | (exact sg9) | fail) (hd : dstOK (XX nm nt given) o.dst := by exact sg3) (hg : guardV ops σ o.guard = some true := by rfl)
    (h1 : subO objs σ.objs := by first | (exact sg10) | fail) (h2 : freshL ((keysO objs').filter (fun n => (getO objs n).isNone)) σ.used := by first | (exact sg11) | (simp [freshL, keysO, getO, *]; done) | fail)
    (hσ : σ.eff o.dst (callEff x objs objs') = σ' := by exact sg12) (htr : (bif draw then tr ++ [callEff x objs objs'] else tr) = tr' := by exact sg12) : runOps (XX nm nt given) draw ops K Qp (o :: rest) σ tr :=
  runOps_call (X := XX nm nt given) hac hd hg hf h1 h2 hσ htr h
/-- a call that leaves some objects as they are -/
theorem callR {f : Nat} {args : List V} {ro objs : List (Nat × Ob)} {x : V} {objs' : List (Nat × Ob)} (hac : AC Tryz.prog gl f args (ro ++ objs) (.ret x) (ro ++ objs')) (h : runOps (XX nm nt given) draw ops K Qp rest σ' tr')
    (hf : calleeOf (σ.val gl) o.op = some (f, args) := by first | (exact sg9) | fail) (hd : dstOK (XX nm nt given) o.dst := by exact sg3) (hg : guardV ops σ o.guard = some true := by rfl)
    (hro : ∀ n ∈ keysO ro, n ∉ keysO objs ∧ n ∉ keysO objs' := by simp [keysO])
    (h1 : subO (ro ++ objs) σ.objs := by first | (exact sg10) | fail) (h2 : freshL ((keysO objs').filter (fun n => (getO objs n).isNone)) σ.used := by first | (exact sg11) | (simp [freshL, keysO, getO, *]; done) | fail)
    (hσ : σ.eff o.dst (callEffR x ro objs objs') = σ' := by exact sg13) (htr : (bif draw then tr ++ [callEffR x ro objs objs'] else tr) = tr' := by exact sg13) : runOps (XX nm nt given) draw ops K Qp (o :: rest) σ tr :=
  runOps_callR (X := XX nm nt given) hac hd hg hf hro h1 h2 hσ htr h
/-- a call that panics -/
theorem callP {f : Nat} {args : List V} {objs : List (Nat × Ob)} {p : PV} {objs' : List (Nat × Ob)} (hac : AC Tryz.prog gl f args objs (.panic p) objs') (h : Qp p σ')
    (hf : calleeOf (σ.val gl) o.op = some (f, args) := by first | (exact sg9) | fail) (hd : dstOK (XX nm nt given) o.dst := by exact sg3) (hg : guardV ops σ o.guard = some true := by rfl)
    (h1 : subO objs σ.objs := by first | (exact sg10) | fail) (h2 : freshL ((keysO objs').filter (fun n => (getO objs n).isNone)) σ.used := by first | (exact sg11) | (simp [freshL, keysO, getO, *]; done) | fail)
    (hσ : σ.eff none (callEff .undef objs objs') = σ' := by exact sg12) : runOps (XX nm nt given) false ops K Qp (o :: rest) σ tr :=
  runOps_call_panic (X := XX nm nt given) hac hd hg hf h1 h2 hσ h
/-- a panic -/
theorem pnc {x : Operand} {t : Nat} {p : PV} (h : Qp (.iface t p) σ) (ho : o.op = .panic x := by rfl) (hd : dstOK (XX nm nt given) o.dst := by exact sg3) (hg : guardV ops σ o.guard = some true := by rfl) (hv : σ.val gl x = .pv (.iface t p) := by first | (exact sg3) | (exact sg7)) : runOps (XX nm nt given) false ops K Qp (o :: rest) σ tr :=
  runOps_panic (X := XX nm nt given) ho hd hg hv h
/-- a look into a table -/
theorem look {t : Nat} {mo ko : Operand} {kt vt s1 s2 : Nat} {s3 : Value} {s4 : List PV} {kv : TK} {sv bv n : Nat} {z : Array Value} {zc ks : List PV} {D : PV → Prop} {F : PV → List PV}
    (hD : D (.ptr ks)) (h : ∀ b : Bool, runOps (XX nm nt given) false ops K Qp rest (σ.eff o.dst ⟨.pv (.tuple [.agg (bif b then F (.ptr ks) else zc), .bool b]), [], [], []⟩) tr)
    (ho : o.op = .lookup t mo ko true := by rfl) (hd : dstOK (XX nm nt given) o.dst := by exact sg3) (hg : guardV ops σ o.guard = some true := by rfl)
    (ht : tt t = some ⟨.map kt vt, s1, s2, s3, s4⟩ := by rfl) (hv : tt vt = some ⟨kv, sv, bv, .agg z, zc⟩ := by rfl) (hm : σ.val gl mo = .map n := by exact sg3) (hk : σ.val gl ko = .pv (.ptr ks) := by exact sg3)
    (hob : getO σ.objs n = some (.cache D F) := by exact sg3) (hni : ks.any PV.nonint = true := by exact sg3) : runOps (XX nm nt given) false ops K Qp (o :: rest) σ tr :=
  runOps_look (X := XX nm nt given) ho hd hg ht hv hm hk hob hD hni h
/-- a nil slice in a variable begins to grow -/
theorem th {c : Code} {Q : AEx → St → Prop} (b i n sz ty : Nat) {cs : List V} (h : AWP (XX nm nt given) c σ' Q) (hb : getO σ.objs b = some (.box cs) := by simp only [getO, ↓reduceIte, Nat.reduceEqDiff]; rfl) (hi : cs[i]? = some (.pv .nils) := by rfl) (hn : n ∉ σ.used := by simp [*])
    (hσ : (⟨σ.slots, setO (setO σ.objs n (.arr 0 sz ty [])) b (.box (cs.set i (.arr n 0 0))), n :: σ.used⟩ : St) = σ' := by exact sg14) : AWP (XX nm nt given) c σ Q := ex_thaw b i n sz ty hb hi hn hσ h
/-- a variable is done -/
theorem fb {c : Code} {Q : AEx → St → Prop} (n : Nat) {ps : List PV} (h : AWP (XX nm nt given) c σ' Q) (ho : getO σ.objs n = some (.box (pvL ps)) := by simp only [getO, ↓reduceIte, Nat.reduceEqDiff]; rfl)
    (hσ : σ.frb n ps = σ' := by exact sg15) : AWP (XX nm nt given) c σ Q := ex_frb n ho hσ h
end

structure Bx (q : Prop) : Type where
  prf : q
theorem gg {p q : Prop} (h : q) (i : Bx q → p := by intro hq; (repeat (first | with_reducible refine ex_seq ?_ | with_reducible refine ex_block ?_ | with_reducible refine ex_draw ?_ | with_reducible refine q_normal ?_ | with_reducible refine b_normal ?_ | with_reducible refine runOps_nil ?_ | with_reducible refine ex_reg ?_ | with_reducible refine ex_skip ?_ | with_reducible refine ex_exit ?_ | with_reducible refine ex_ret ?_ | with_reducible refine q_exit ?_ | with_reducible refine q_ret ?_ | with_reducible refine q_panic ?_ | with_reducible refine b_same ?_ | with_reducible refine b_ret ?_ | with_reducible refine b_panic ?_ | refine b_other rfl ?_ | refine go ?_ | refine cskip ?_ | refine cdt ?_ | refine cdf ?_ | fail)); exact hq.prf) : p := i ⟨h⟩
end Go.Proofs.YtodjpfpmhjdhbaaGreatDoor
