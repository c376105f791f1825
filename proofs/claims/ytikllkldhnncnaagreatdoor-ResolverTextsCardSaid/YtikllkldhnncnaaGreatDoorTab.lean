/- The table of the program's types, as functions, and that it holds. Printed by wip/gen/tab.py from the facts that wip/gen/Gen.lean printed. -/
import Derived.Test.YtikllkldhnncnaaGreatDoorProg
import Derived.Test.YtikllkldhnncnaaGreatDoorAj
set_option linter.all false
namespace Go.Proofs
open Go Go.Aw
set_option maxRecDepth 100000
theorem tk0 : tk Tryz.prog 0 = some TK.other := by kernel_rfl
theorem tk1 : tk Tryz.prog 1 = some TK.func := by kernel_rfl
theorem tk2 : tk Tryz.prog 2 = some (TK.int IntKind.i64) := by kernel_rfl
theorem tk3 : tk Tryz.prog 3 = some (TK.int IntKind.i64) := by kernel_rfl
theorem tk4 : tk Tryz.prog 4 = some TK.bool := by kernel_rfl
theorem tk5 : tk Tryz.prog 5 = some (TK.int IntKind.u8) := by kernel_rfl
theorem tk6 : tk Tryz.prog 6 = some (TK.int IntKind.u8) := by kernel_rfl
theorem tk7 : tk Tryz.prog 7 = some (TK.struct [(0, 1, false), (1, 1, false), (2, 1, false), (3, 1, false)]) := by kernel_rfl
theorem tk8 : tk Tryz.prog 8 = some (TK.struct [(0, 1, false), (1, 1, false), (2, 1, false), (3, 1, false)]) := by kernel_rfl
theorem tk9 : tk Tryz.prog 9 = some TK.str := by kernel_rfl
theorem tk10 : tk Tryz.prog 10 = some TK.str := by kernel_rfl
theorem tk11 : tk Tryz.prog 11 = some TK.str := by kernel_rfl
theorem tk12 : tk Tryz.prog 12 = some (TK.int IntKind.u64) := by kernel_rfl
theorem tk13 : tk Tryz.prog 13 = some (TK.struct [(0, 1, false), (1, 1, false)]) := by kernel_rfl
theorem tk14 : tk Tryz.prog 14 = some (TK.struct [(0, 1, false), (1, 1, false)]) := by kernel_rfl
theorem tk15 : tk Tryz.prog 15 = some (TK.ptr 370) := by kernel_rfl
theorem tk16 : tk Tryz.prog 16 = some (TK.ptr 373) := by kernel_rfl
theorem tk17 : tk Tryz.prog 17 = some (TK.ptr 380) := by kernel_rfl
theorem tk18 : tk Tryz.prog 18 = some (TK.struct [(0, 1, false)]) := by kernel_rfl
theorem tk19 : tk Tryz.prog 19 = some (TK.struct [(0, 1, false)]) := by kernel_rfl
theorem tk20 : tk Tryz.prog 20 = some TK.iface := by kernel_rfl
theorem tk21 : tk Tryz.prog 21 = some (TK.int IntKind.i32) := by kernel_rfl
theorem tk22 : tk Tryz.prog 22 = some (TK.slice 3) := by kernel_rfl
theorem tk23 : tk Tryz.prog 23 = some TK.func := by kernel_rfl
theorem tk24 : tk Tryz.prog 24 = some TK.func := by kernel_rfl
theorem tk25 : tk Tryz.prog 25 = some (TK.ptr 51) := by kernel_rfl
theorem tk26 : tk Tryz.prog 26 = some TK.func := by kernel_rfl
theorem tk27 : tk Tryz.prog 27 = some TK.func := by kernel_rfl
theorem tk28 : tk Tryz.prog 28 = some TK.func := by kernel_rfl
theorem tk29 : tk Tryz.prog 29 = some (TK.arr 2 9) := by kernel_rfl
theorem tk30 : tk Tryz.prog 30 = some (TK.slice 29) := by kernel_rfl
theorem tk31 : tk Tryz.prog 31 = some (TK.int IntKind.i64) := by kernel_rfl
theorem tk32 : tk Tryz.prog 32 = some TK.other := by kernel_rfl
theorem tk33 : tk Tryz.prog 33 = some TK.func := by kernel_rfl
theorem tk34 : tk Tryz.prog 34 = some TK.func := by kernel_rfl
theorem tk35 : tk Tryz.prog 35 = some (TK.slice 9) := by kernel_rfl
theorem tk36 : tk Tryz.prog 36 = some TK.other := by kernel_rfl
theorem tk37 : tk Tryz.prog 37 = some TK.func := by kernel_rfl
theorem tk38 : tk Tryz.prog 38 = some TK.func := by kernel_rfl
theorem tk39 : tk Tryz.prog 39 = some TK.func := by kernel_rfl
theorem tk40 : tk Tryz.prog 40 = some (TK.slice 61) := by kernel_rfl
theorem tk41 : tk Tryz.prog 41 = some (TK.struct [(0, 1, false)]) := by kernel_rfl
theorem tk42 : tk Tryz.prog 42 = some (TK.struct [(0, 1, false)]) := by kernel_rfl
theorem tk43 : tk Tryz.prog 43 = some (TK.slice 72) := by kernel_rfl
theorem tk44 : tk Tryz.prog 44 = some TK.other := by kernel_rfl
theorem tk45 : tk Tryz.prog 45 = some TK.func := by kernel_rfl
theorem tk46 : tk Tryz.prog 46 = some (TK.slice 66) := by kernel_rfl
theorem tk47 : tk Tryz.prog 47 = some (TK.struct [(0, 1, false), (1, 1, false)]) := by kernel_rfl
theorem tk48 : tk Tryz.prog 48 = some (TK.struct [(0, 1, false), (1, 1, false)]) := by kernel_rfl
theorem tk49 : tk Tryz.prog 49 = some TK.func := by kernel_rfl
theorem tk50 : tk Tryz.prog 50 = some (TK.struct [(0, 1, false), (1, 1, false)]) := by kernel_rfl
theorem tk51 : tk Tryz.prog 51 = some (TK.struct [(0, 1, false), (1, 1, false)]) := by kernel_rfl
theorem tk52 : tk Tryz.prog 52 = some TK.func := by kernel_rfl
theorem tk53 : tk Tryz.prog 53 = some TK.func := by kernel_rfl
theorem tk54 : tk Tryz.prog 54 = some TK.func := by kernel_rfl
theorem tk55 : tk Tryz.prog 55 = some TK.func := by kernel_rfl
theorem tk56 : tk Tryz.prog 56 = some (TK.slice 5) := by kernel_rfl
theorem tk57 : tk Tryz.prog 57 = some TK.func := by kernel_rfl
theorem tk58 : tk Tryz.prog 58 = some TK.func := by kernel_rfl
theorem tk59 : tk Tryz.prog 59 = some (TK.slice 110) := by kernel_rfl
theorem tk60 : tk Tryz.prog 60 = some (TK.struct [(0, 1, false), (1, 1, false), (2, 1, false), (3, 1, false), (4, 1, false)]) := by kernel_rfl
theorem tk61 : tk Tryz.prog 61 = some (TK.struct [(0, 1, false), (1, 1, false), (2, 1, false), (3, 1, false), (4, 1, false)]) := by kernel_rfl
theorem tk62 : tk Tryz.prog 62 = some TK.other := by kernel_rfl
theorem tk63 : tk Tryz.prog 63 = some TK.func := by kernel_rfl
theorem tk64 : tk Tryz.prog 64 = some (TK.slice 74) := by kernel_rfl
theorem tk65 : tk Tryz.prog 65 = some (TK.struct [(0, 1, false)]) := by kernel_rfl
theorem tk66 : tk Tryz.prog 66 = some (TK.struct [(0, 1, false)]) := by kernel_rfl
theorem tk67 : tk Tryz.prog 67 = some TK.other := by kernel_rfl
theorem tk68 : tk Tryz.prog 68 = some TK.func := by kernel_rfl
theorem tk69 : tk Tryz.prog 69 = some (TK.struct [(0, 1, false), (1, 1, false), (2, 1, false)]) := by kernel_rfl
theorem tk70 : tk Tryz.prog 70 = some (TK.struct [(0, 1, false), (1, 1, false), (2, 1, false)]) := by kernel_rfl
theorem tk71 : tk Tryz.prog 71 = some (TK.struct [(0, 1, false), (1, 1, false), (2, 1, false), (3, 3, true)]) := by kernel_rfl
theorem tk72 : tk Tryz.prog 72 = some (TK.struct [(0, 1, false), (1, 1, false), (2, 1, false), (3, 3, true)]) := by kernel_rfl
theorem tk73 : tk Tryz.prog 73 = some (TK.struct [(0, 6, true), (6, 1, false), (7, 1, false)]) := by kernel_rfl
theorem tk74 : tk Tryz.prog 74 = some (TK.struct [(0, 6, true), (6, 1, false), (7, 1, false)]) := by kernel_rfl
theorem tk75 : tk Tryz.prog 75 = some TK.func := by kernel_rfl
theorem tk76 : tk Tryz.prog 76 = some TK.func := by kernel_rfl
theorem tk77 : tk Tryz.prog 77 = some (TK.struct [(0, 1, false), (1, 1, false)]) := by kernel_rfl
theorem tk78 : tk Tryz.prog 78 = some (TK.struct [(0, 1, false), (1, 1, false)]) := by kernel_rfl
theorem tk79 : tk Tryz.prog 79 = some (TK.int IntKind.u32) := by kernel_rfl
theorem tk80 : tk Tryz.prog 80 = some (TK.arr 8 79) := by kernel_rfl
theorem tk81 : tk Tryz.prog 81 = some TK.func := by kernel_rfl
theorem tk82 : tk Tryz.prog 82 = some (TK.arr 64 79) := by kernel_rfl
theorem tk83 : tk Tryz.prog 83 = some TK.func := by kernel_rfl
theorem tk84 : tk Tryz.prog 84 = some TK.func := by kernel_rfl
theorem tk85 : tk Tryz.prog 85 = some (TK.int IntKind.u64) := by kernel_rfl
theorem tk86 : tk Tryz.prog 86 = some TK.other := by kernel_rfl
theorem tk87 : tk Tryz.prog 87 = some TK.func := by kernel_rfl
theorem tk88 : tk Tryz.prog 88 = some TK.func := by kernel_rfl
theorem tk89 : tk Tryz.prog 89 = some (TK.ptr 61) := by kernel_rfl
theorem tk90 : tk Tryz.prog 90 = some TK.func := by kernel_rfl
theorem tk91 : tk Tryz.prog 91 = some TK.func := by kernel_rfl
theorem tk92 : tk Tryz.prog 92 = some TK.func := by kernel_rfl
theorem tk93 : tk Tryz.prog 93 = some TK.other := by kernel_rfl
theorem tk94 : tk Tryz.prog 94 = some TK.func := by kernel_rfl
theorem tk95 : tk Tryz.prog 95 = some TK.func := by kernel_rfl
theorem tk96 : tk Tryz.prog 96 = some (TK.int IntKind.u64) := by kernel_rfl
theorem tk97 : tk Tryz.prog 97 = some TK.func := by kernel_rfl
theorem tk98 : tk Tryz.prog 98 = some TK.func := by kernel_rfl
theorem tk99 : tk Tryz.prog 99 = some (TK.struct [(0, 1, false), (1, 1, false)]) := by kernel_rfl
theorem tk100 : tk Tryz.prog 100 = some (TK.struct [(0, 1, false), (1, 1, false)]) := by kernel_rfl
theorem tk101 : tk Tryz.prog 101 = some TK.other := by kernel_rfl
theorem tk102 : tk Tryz.prog 102 = some TK.func := by kernel_rfl
theorem tk103 : tk Tryz.prog 103 = some TK.func := by kernel_rfl
theorem tk104 : tk Tryz.prog 104 = some TK.func := by kernel_rfl
theorem tk105 : tk Tryz.prog 105 = some TK.func := by kernel_rfl
theorem tk106 : tk Tryz.prog 106 = some (TK.struct [(0, 1, false), (1, 1, false)]) := by kernel_rfl
theorem tk107 : tk Tryz.prog 107 = some (TK.struct [(0, 1, false), (1, 1, false)]) := by kernel_rfl
theorem tk108 : tk Tryz.prog 108 = some TK.func := by kernel_rfl
theorem tk109 : tk Tryz.prog 109 = some (TK.struct [(0, 1, false), (1, 1, false)]) := by kernel_rfl
theorem tk110 : tk Tryz.prog 110 = some (TK.struct [(0, 1, false), (1, 1, false)]) := by kernel_rfl
theorem tk111 : tk Tryz.prog 111 = some TK.func := by kernel_rfl
theorem tk112 : tk Tryz.prog 112 = some TK.func := by kernel_rfl
theorem tk113 : tk Tryz.prog 113 = some (TK.map 3 100) := by kernel_rfl
theorem tk114 : tk Tryz.prog 114 = some TK.func := by kernel_rfl
theorem tk115 : tk Tryz.prog 115 = some TK.func := by kernel_rfl
theorem tk116 : tk Tryz.prog 116 = some TK.other := by kernel_rfl
theorem tk117 : tk Tryz.prog 117 = some TK.func := by kernel_rfl
theorem tk118 : tk Tryz.prog 118 = some (TK.ptr 120) := by kernel_rfl
theorem tk119 : tk Tryz.prog 119 = some (TK.struct [(0, 1, false), (1, 1, false)]) := by kernel_rfl
theorem tk120 : tk Tryz.prog 120 = some (TK.struct [(0, 1, false), (1, 1, false)]) := by kernel_rfl
theorem tk121 : tk Tryz.prog 121 = some TK.func := by kernel_rfl
theorem tk122 : tk Tryz.prog 122 = some TK.iface := by kernel_rfl
theorem tk123 : tk Tryz.prog 123 = some TK.iface := by kernel_rfl
theorem tk124 : tk Tryz.prog 124 = some TK.other := by kernel_rfl
theorem tk125 : tk Tryz.prog 125 = some TK.func := by kernel_rfl
theorem tk126 : tk Tryz.prog 126 = some TK.other := by kernel_rfl
theorem tk127 : tk Tryz.prog 127 = some TK.func := by kernel_rfl
theorem tk128 : tk Tryz.prog 128 = some (TK.map 9 3) := by kernel_rfl
theorem tk129 : tk Tryz.prog 129 = some TK.func := by kernel_rfl
theorem tk130 : tk Tryz.prog 130 = some TK.func := by kernel_rfl
theorem tk131 : tk Tryz.prog 131 = some TK.other := by kernel_rfl
theorem tk132 : tk Tryz.prog 132 = some TK.func := by kernel_rfl
theorem tk133 : tk Tryz.prog 133 = some TK.other := by kernel_rfl
theorem tk134 : tk Tryz.prog 134 = some TK.func := by kernel_rfl
theorem tk135 : tk Tryz.prog 135 = some (TK.ptr 5) := by kernel_rfl
theorem tk136 : tk Tryz.prog 136 = some TK.func := by kernel_rfl
theorem tk137 : tk Tryz.prog 137 = some (TK.slice 244) := by kernel_rfl
theorem tk138 : tk Tryz.prog 138 = some (TK.struct [(0, 1, false), (1, 1, false)]) := by kernel_rfl
theorem tk139 : tk Tryz.prog 139 = some (TK.struct [(0, 1, false), (1, 1, false)]) := by kernel_rfl
theorem tk140 : tk Tryz.prog 140 = some (TK.slice 70) := by kernel_rfl
theorem tk141 : tk Tryz.prog 141 = some (TK.struct [(0, 1, false), (1, 1, false), (2, 1, false), (3, 1, false), (4, 1, false), (5, 1, false), (6, 2, true), (8, 1, false), (9, 2, true), (11, 1, false), (12, 1, false), (13, 1, false), (14, 1, false), (15, 1, false), (16, 1, false), (17, 1, false), (18, 1, false)]) := by kernel_rfl
theorem tk142 : tk Tryz.prog 142 = some (TK.struct [(0, 1, false), (1, 1, false), (2, 1, false), (3, 1, false), (4, 1, false), (5, 1, false), (6, 2, true), (8, 1, false), (9, 2, true), (11, 1, false), (12, 1, false), (13, 1, false), (14, 1, false), (15, 1, false), (16, 1, false), (17, 1, false), (18, 1, false)]) := by kernel_rfl
theorem tk143 : tk Tryz.prog 143 = some TK.other := by kernel_rfl
theorem tk144 : tk Tryz.prog 144 = some TK.func := by kernel_rfl
theorem tk145 : tk Tryz.prog 145 = some TK.other := by kernel_rfl
theorem tk146 : tk Tryz.prog 146 = some TK.func := by kernel_rfl
theorem tk147 : tk Tryz.prog 147 = some TK.func := by kernel_rfl
theorem tk148 : tk Tryz.prog 148 = some (TK.arr 256 5) := by kernel_rfl
theorem tk149 : tk Tryz.prog 149 = some TK.func := by kernel_rfl
theorem tk150 : tk Tryz.prog 150 = some (TK.slice 152) := by kernel_rfl
theorem tk151 : tk Tryz.prog 151 = some (TK.struct [(0, 1, false), (1, 1, false), (2, 1, false), (3, 1, false), (4, 1, false), (5, 1, false)]) := by kernel_rfl
theorem tk152 : tk Tryz.prog 152 = some (TK.struct [(0, 1, false), (1, 1, false), (2, 1, false), (3, 1, false), (4, 1, false), (5, 1, false)]) := by kernel_rfl
theorem tk153 : tk Tryz.prog 153 = some (TK.struct [(0, 1, false), (1, 1, false), (2, 1, false), (3, 1, false), (4, 1, false)]) := by kernel_rfl
theorem tk154 : tk Tryz.prog 154 = some (TK.struct [(0, 1, false), (1, 1, false), (2, 1, false), (3, 1, false), (4, 1, false)]) := by kernel_rfl
theorem tk155 : tk Tryz.prog 155 = some TK.other := by kernel_rfl
theorem tk156 : tk Tryz.prog 156 = some TK.func := by kernel_rfl
theorem tk157 : tk Tryz.prog 157 = some TK.func := by kernel_rfl
theorem tk158 : tk Tryz.prog 158 = some TK.func := by kernel_rfl
theorem tk159 : tk Tryz.prog 159 = some (TK.struct [(0, 6, true)]) := by kernel_rfl
theorem tk160 : tk Tryz.prog 160 = some (TK.struct [(0, 6, true)]) := by kernel_rfl
theorem tk161 : tk Tryz.prog 161 = some TK.other := by kernel_rfl
theorem tk162 : tk Tryz.prog 162 = some TK.func := by kernel_rfl
theorem tk163 : tk Tryz.prog 163 = some TK.func := by kernel_rfl
theorem tk164 : tk Tryz.prog 164 = some TK.func := by kernel_rfl
theorem tk165 : tk Tryz.prog 165 = some TK.func := by kernel_rfl
theorem tk166 : tk Tryz.prog 166 = some TK.func := by kernel_rfl
theorem tk167 : tk Tryz.prog 167 = some TK.func := by kernel_rfl
theorem tk168 : tk Tryz.prog 168 = some TK.other := by kernel_rfl
theorem tk169 : tk Tryz.prog 169 = some TK.func := by kernel_rfl
theorem tk170 : tk Tryz.prog 170 = some TK.func := by kernel_rfl
theorem tk171 : tk Tryz.prog 171 = some TK.other := by kernel_rfl
theorem tk172 : tk Tryz.prog 172 = some TK.func := by kernel_rfl
theorem tk173 : tk Tryz.prog 173 = some TK.other := by kernel_rfl
theorem tk174 : tk Tryz.prog 174 = some TK.func := by kernel_rfl
theorem tk175 : tk Tryz.prog 175 = some TK.func := by kernel_rfl
theorem tk176 : tk Tryz.prog 176 = some TK.func := by kernel_rfl
theorem tk177 : tk Tryz.prog 177 = some TK.func := by kernel_rfl
theorem tk178 : tk Tryz.prog 178 = some TK.func := by kernel_rfl
theorem tk179 : tk Tryz.prog 179 = some TK.func := by kernel_rfl
theorem tk180 : tk Tryz.prog 180 = some TK.func := by kernel_rfl
theorem tk181 : tk Tryz.prog 181 = some TK.func := by kernel_rfl
theorem tk182 : tk Tryz.prog 182 = some TK.func := by kernel_rfl
theorem tk183 : tk Tryz.prog 183 = some TK.func := by kernel_rfl
theorem tk184 : tk Tryz.prog 184 = some TK.func := by kernel_rfl
theorem tk185 : tk Tryz.prog 185 = some (TK.ptr 193) := by kernel_rfl
theorem tk186 : tk Tryz.prog 186 = some TK.func := by kernel_rfl
theorem tk187 : tk Tryz.prog 187 = some TK.func := by kernel_rfl
theorem tk188 : tk Tryz.prog 188 = some TK.func := by kernel_rfl
theorem tk189 : tk Tryz.prog 189 = some TK.func := by kernel_rfl
theorem tk190 : tk Tryz.prog 190 = some TK.func := by kernel_rfl
theorem tk191 : tk Tryz.prog 191 = some TK.func := by kernel_rfl
theorem tk192 : tk Tryz.prog 192 = some TK.func := by kernel_rfl
theorem tk193 : tk Tryz.prog 193 = some (TK.struct [(0, 6, true)]) := by kernel_rfl
theorem tk194 : tk Tryz.prog 194 = some TK.func := by kernel_rfl
theorem tk195 : tk Tryz.prog 195 = some TK.func := by kernel_rfl
theorem tk196 : tk Tryz.prog 196 = some TK.func := by kernel_rfl
theorem tk197 : tk Tryz.prog 197 = some TK.other := by kernel_rfl
theorem tk198 : tk Tryz.prog 198 = some TK.func := by kernel_rfl
theorem tk199 : tk Tryz.prog 199 = some TK.func := by kernel_rfl
theorem tk200 : tk Tryz.prog 200 = some TK.func := by kernel_rfl
theorem tk201 : tk Tryz.prog 201 = some (TK.map 3 9) := by kernel_rfl
theorem tk202 : tk Tryz.prog 202 = some TK.func := by kernel_rfl
theorem tk203 : tk Tryz.prog 203 = some TK.func := by kernel_rfl
theorem tk204 : tk Tryz.prog 204 = some TK.func := by kernel_rfl
theorem tk205 : tk Tryz.prog 205 = some (TK.struct [(0, 1, false), (1, 1, false)]) := by kernel_rfl
theorem tk206 : tk Tryz.prog 206 = some (TK.struct [(0, 1, false), (1, 1, false)]) := by kernel_rfl
theorem tk207 : tk Tryz.prog 207 = some TK.other := by kernel_rfl
theorem tk208 : tk Tryz.prog 208 = some (TK.map 3 206) := by kernel_rfl
theorem tk209 : tk Tryz.prog 209 = some TK.func := by kernel_rfl
theorem tk210 : tk Tryz.prog 210 = some TK.func := by kernel_rfl
theorem tk211 : tk Tryz.prog 211 = some TK.func := by kernel_rfl
theorem tk212 : tk Tryz.prog 212 = some TK.func := by kernel_rfl
theorem tk213 : tk Tryz.prog 213 = some TK.func := by kernel_rfl
theorem tk214 : tk Tryz.prog 214 = some TK.func := by kernel_rfl
theorem tk215 : tk Tryz.prog 215 = some TK.func := by kernel_rfl
theorem tk216 : tk Tryz.prog 216 = some TK.func := by kernel_rfl
theorem tk217 : tk Tryz.prog 217 = some TK.other := by kernel_rfl
theorem tk218 : tk Tryz.prog 218 = some TK.func := by kernel_rfl
theorem tk219 : tk Tryz.prog 219 = some TK.other := by kernel_rfl
theorem tk220 : tk Tryz.prog 220 = some TK.func := by kernel_rfl
theorem tk221 : tk Tryz.prog 221 = some TK.func := by kernel_rfl
theorem tk222 : tk Tryz.prog 222 = some TK.func := by kernel_rfl
theorem tk223 : tk Tryz.prog 223 = some TK.func := by kernel_rfl
theorem tk224 : tk Tryz.prog 224 = some TK.func := by kernel_rfl
theorem tk225 : tk Tryz.prog 225 = some TK.func := by kernel_rfl
theorem tk226 : tk Tryz.prog 226 = some TK.func := by kernel_rfl
theorem tk227 : tk Tryz.prog 227 = some TK.func := by kernel_rfl
theorem tk228 : tk Tryz.prog 228 = some TK.func := by kernel_rfl
theorem tk229 : tk Tryz.prog 229 = some TK.func := by kernel_rfl
theorem tk230 : tk Tryz.prog 230 = some TK.func := by kernel_rfl
theorem tk231 : tk Tryz.prog 231 = some TK.func := by kernel_rfl
theorem tk232 : tk Tryz.prog 232 = some TK.func := by kernel_rfl
theorem tk233 : tk Tryz.prog 233 = some TK.func := by kernel_rfl
theorem tk234 : tk Tryz.prog 234 = some TK.func := by kernel_rfl
theorem tk235 : tk Tryz.prog 235 = some TK.func := by kernel_rfl
theorem tk236 : tk Tryz.prog 236 = some TK.func := by kernel_rfl
theorem tk237 : tk Tryz.prog 237 = some TK.func := by kernel_rfl
theorem tk238 : tk Tryz.prog 238 = some TK.other := by kernel_rfl
theorem tk239 : tk Tryz.prog 239 = some TK.func := by kernel_rfl
theorem tk240 : tk Tryz.prog 240 = some TK.other := by kernel_rfl
theorem tk241 : tk Tryz.prog 241 = some TK.func := by kernel_rfl
theorem tk242 : tk Tryz.prog 242 = some TK.func := by kernel_rfl
theorem tk243 : tk Tryz.prog 243 = some TK.func := by kernel_rfl
theorem tk244 : tk Tryz.prog 244 = some (TK.slice 291) := by kernel_rfl
theorem tk245 : tk Tryz.prog 245 = some TK.func := by kernel_rfl
theorem tk246 : tk Tryz.prog 246 = some TK.func := by kernel_rfl
theorem tk247 : tk Tryz.prog 247 = some TK.func := by kernel_rfl
theorem tk248 : tk Tryz.prog 248 = some (TK.slice 35) := by kernel_rfl
theorem tk249 : tk Tryz.prog 249 = some TK.func := by kernel_rfl
theorem tk250 : tk Tryz.prog 250 = some TK.func := by kernel_rfl
theorem tk251 : tk Tryz.prog 251 = some TK.func := by kernel_rfl
theorem tk252 : tk Tryz.prog 252 = some (TK.arr 256 4) := by kernel_rfl
theorem tk253 : tk Tryz.prog 253 = some (TK.arr 256 4) := by kernel_rfl
theorem tk254 : tk Tryz.prog 254 = some TK.other := by kernel_rfl
theorem tk255 : tk Tryz.prog 255 = some TK.func := by kernel_rfl
theorem tk256 : tk Tryz.prog 256 = some TK.func := by kernel_rfl
theorem tk257 : tk Tryz.prog 257 = some (TK.ptr 253) := by kernel_rfl
theorem tk258 : tk Tryz.prog 258 = some TK.func := by kernel_rfl
theorem tk259 : tk Tryz.prog 259 = some TK.other := by kernel_rfl
theorem tk260 : tk Tryz.prog 260 = some TK.func := by kernel_rfl
theorem tk261 : tk Tryz.prog 261 = some TK.func := by kernel_rfl
theorem tk262 : tk Tryz.prog 262 = some TK.func := by kernel_rfl
theorem tk263 : tk Tryz.prog 263 = some (TK.ptr 267) := by kernel_rfl
theorem tk264 : tk Tryz.prog 264 = some (TK.struct [(0, 1, false), (1, 1, false)]) := by kernel_rfl
theorem tk265 : tk Tryz.prog 265 = some (TK.struct [(0, 1, false), (1, 1, false)]) := by kernel_rfl
theorem tk266 : tk Tryz.prog 266 = some (TK.struct [(0, 2, true)]) := by kernel_rfl
theorem tk267 : tk Tryz.prog 267 = some (TK.struct [(0, 2, true)]) := by kernel_rfl
theorem tk268 : tk Tryz.prog 268 = some TK.func := by kernel_rfl
theorem tk269 : tk Tryz.prog 269 = some TK.func := by kernel_rfl
theorem tk270 : tk Tryz.prog 270 = some (TK.ptr 265) := by kernel_rfl
theorem tk271 : tk Tryz.prog 271 = some (TK.ptr 272) := by kernel_rfl
theorem tk272 : tk Tryz.prog 272 = some (TK.struct [(0, 2, true)]) := by kernel_rfl
theorem tk273 : tk Tryz.prog 273 = some (TK.ptr 274) := by kernel_rfl
theorem tk274 : tk Tryz.prog 274 = some (TK.struct [(0, 2, true)]) := by kernel_rfl
theorem tk275 : tk Tryz.prog 275 = some TK.other := by kernel_rfl
theorem tk276 : tk Tryz.prog 276 = some TK.func := by kernel_rfl
theorem tk277 : tk Tryz.prog 277 = some TK.func := by kernel_rfl
theorem tk278 : tk Tryz.prog 278 = some TK.func := by kernel_rfl
theorem tk279 : tk Tryz.prog 279 = some TK.func := by kernel_rfl
theorem tk280 : tk Tryz.prog 280 = some (TK.arr 8 79) := by kernel_rfl
theorem tk281 : tk Tryz.prog 281 = some TK.func := by kernel_rfl
theorem tk282 : tk Tryz.prog 282 = some (TK.ptr 82) := by kernel_rfl
theorem tk283 : tk Tryz.prog 283 = some TK.func := by kernel_rfl
theorem tk284 : tk Tryz.prog 284 = some TK.func := by kernel_rfl
theorem tk285 : tk Tryz.prog 285 = some (TK.arr 32 5) := by kernel_rfl
theorem tk286 : tk Tryz.prog 286 = some TK.func := by kernel_rfl
theorem tk287 : tk Tryz.prog 287 = some TK.other := by kernel_rfl
theorem tk288 : tk Tryz.prog 288 = some TK.func := by kernel_rfl
theorem tk289 : tk Tryz.prog 289 = some TK.func := by kernel_rfl
theorem tk290 : tk Tryz.prog 290 = some (TK.struct [(0, 1, false), (1, 1, false)]) := by kernel_rfl
theorem tk291 : tk Tryz.prog 291 = some (TK.struct [(0, 1, false), (1, 1, false)]) := by kernel_rfl
theorem tk292 : tk Tryz.prog 292 = some TK.func := by kernel_rfl
theorem tk293 : tk Tryz.prog 293 = some (TK.arr 24 5) := by kernel_rfl
theorem tk294 : tk Tryz.prog 294 = some TK.func := by kernel_rfl
theorem tk295 : tk Tryz.prog 295 = some TK.func := by kernel_rfl
theorem tk296 : tk Tryz.prog 296 = some TK.other := by kernel_rfl
theorem tk297 : tk Tryz.prog 297 = some TK.func := by kernel_rfl
theorem tk298 : tk Tryz.prog 298 = some TK.func := by kernel_rfl
theorem tk299 : tk Tryz.prog 299 = some TK.func := by kernel_rfl
theorem tk300 : tk Tryz.prog 300 = some TK.func := by kernel_rfl
theorem tk301 : tk Tryz.prog 301 = some TK.func := by kernel_rfl
theorem tk302 : tk Tryz.prog 302 = some TK.func := by kernel_rfl
theorem tk303 : tk Tryz.prog 303 = some TK.other := by kernel_rfl
theorem tk304 : tk Tryz.prog 304 = some TK.func := by kernel_rfl
theorem tk305 : tk Tryz.prog 305 = some TK.func := by kernel_rfl
theorem tk306 : tk Tryz.prog 306 = some TK.func := by kernel_rfl
theorem tk307 : tk Tryz.prog 307 = some TK.func := by kernel_rfl
theorem tk308 : tk Tryz.prog 308 = some TK.func := by kernel_rfl
theorem tk309 : tk Tryz.prog 309 = some TK.func := by kernel_rfl
theorem tk310 : tk Tryz.prog 310 = some TK.func := by kernel_rfl
theorem tk311 : tk Tryz.prog 311 = some TK.func := by kernel_rfl
theorem tk312 : tk Tryz.prog 312 = some TK.func := by kernel_rfl
theorem tk313 : tk Tryz.prog 313 = some TK.func := by kernel_rfl
theorem tk314 : tk Tryz.prog 314 = some TK.func := by kernel_rfl
theorem tk315 : tk Tryz.prog 315 = some TK.func := by kernel_rfl
theorem tk316 : tk Tryz.prog 316 = some TK.other := by kernel_rfl
theorem tk317 : tk Tryz.prog 317 = some TK.func := by kernel_rfl
theorem tk318 : tk Tryz.prog 318 = some TK.func := by kernel_rfl
theorem tk319 : tk Tryz.prog 319 = some TK.func := by kernel_rfl
theorem tk320 : tk Tryz.prog 320 = some TK.func := by kernel_rfl
theorem tk321 : tk Tryz.prog 321 = some TK.func := by kernel_rfl
theorem tk322 : tk Tryz.prog 322 = some TK.func := by kernel_rfl
theorem tk323 : tk Tryz.prog 323 = some TK.func := by kernel_rfl
theorem tk324 : tk Tryz.prog 324 = some TK.func := by kernel_rfl
theorem tk325 : tk Tryz.prog 325 = some TK.func := by kernel_rfl
theorem tk326 : tk Tryz.prog 326 = some (TK.ptr 280) := by kernel_rfl
theorem tk327 : tk Tryz.prog 327 = some (TK.int IntKind.i64) := by kernel_rfl
theorem tk328 : tk Tryz.prog 328 = some (TK.ptr 353) := by kernel_rfl
theorem tk329 : tk Tryz.prog 329 = some TK.func := by kernel_rfl
theorem tk330 : tk Tryz.prog 330 = some TK.func := by kernel_rfl
theorem tk331 : tk Tryz.prog 331 = some TK.func := by kernel_rfl
theorem tk332 : tk Tryz.prog 332 = some TK.func := by kernel_rfl
theorem tk333 : tk Tryz.prog 333 = some TK.func := by kernel_rfl
theorem tk334 : tk Tryz.prog 334 = some (TK.arr 20 96) := by kernel_rfl
theorem tk335 : tk Tryz.prog 335 = some (TK.arr 65 5) := by kernel_rfl
theorem tk336 : tk Tryz.prog 336 = some TK.func := by kernel_rfl
theorem tk337 : tk Tryz.prog 337 = some TK.func := by kernel_rfl
theorem tk338 : tk Tryz.prog 338 = some TK.func := by kernel_rfl
theorem tk339 : tk Tryz.prog 339 = some TK.func := by kernel_rfl
theorem tk340 : tk Tryz.prog 340 = some (TK.map 5 5) := by kernel_rfl
theorem tk341 : tk Tryz.prog 341 = some TK.func := by kernel_rfl
theorem tk342 : tk Tryz.prog 342 = some TK.other := by kernel_rfl
theorem tk343 : tk Tryz.prog 343 = some TK.func := by kernel_rfl
theorem tk344 : tk Tryz.prog 344 = some TK.func := by kernel_rfl
theorem tk345 : tk Tryz.prog 345 = some TK.func := by kernel_rfl
theorem tk346 : tk Tryz.prog 346 = some TK.func := by kernel_rfl
theorem tk347 : tk Tryz.prog 347 = some (TK.int IntKind.i8) := by kernel_rfl
theorem tk348 : tk Tryz.prog 348 = some (TK.map 9 4) := by kernel_rfl
theorem tk349 : tk Tryz.prog 349 = some TK.func := by kernel_rfl
theorem tk350 : tk Tryz.prog 350 = some TK.func := by kernel_rfl
theorem tk351 : tk Tryz.prog 351 = some TK.func := by kernel_rfl
theorem tk352 : tk Tryz.prog 352 = some (TK.struct [(0, 1, false), (1, 1, false), (2, 1, false)]) := by kernel_rfl
theorem tk353 : tk Tryz.prog 353 = some (TK.struct [(0, 1, false), (1, 1, false), (2, 1, false)]) := by kernel_rfl
theorem tk354 : tk Tryz.prog 354 = some TK.func := by kernel_rfl
theorem tk355 : tk Tryz.prog 355 = some TK.other := by kernel_rfl
theorem tk356 : tk Tryz.prog 356 = some TK.func := by kernel_rfl
theorem tk357 : tk Tryz.prog 357 = some TK.func := by kernel_rfl
theorem tk358 : tk Tryz.prog 358 = some (TK.struct [(0, 1, false), (1, 1, false)]) := by kernel_rfl
theorem tk359 : tk Tryz.prog 359 = some (TK.struct [(0, 1, false), (1, 1, false)]) := by kernel_rfl
theorem tk360 : tk Tryz.prog 360 = some (TK.arr 16 359) := by kernel_rfl
theorem tk361 : tk Tryz.prog 361 = some TK.func := by kernel_rfl
theorem tk362 : tk Tryz.prog 362 = some TK.func := by kernel_rfl
theorem tk363 : tk Tryz.prog 363 = some TK.func := by kernel_rfl
theorem tk364 : tk Tryz.prog 364 = some (TK.ptr 366) := by kernel_rfl
theorem tk365 : tk Tryz.prog 365 = some (TK.struct [(0, 1, false)]) := by kernel_rfl
theorem tk366 : tk Tryz.prog 366 = some (TK.struct [(0, 1, false)]) := by kernel_rfl
theorem tk367 : tk Tryz.prog 367 = some (TK.arr 64 5) := by kernel_rfl
theorem tk368 : tk Tryz.prog 368 = some TK.func := by kernel_rfl
theorem tk369 : tk Tryz.prog 369 = some (TK.struct [(0, 1, false), (1, 1, false), (2, 1, false), (3, 1, false)]) := by kernel_rfl
theorem tk370 : tk Tryz.prog 370 = some (TK.struct [(0, 1, false), (1, 1, false), (2, 1, false), (3, 1, false)]) := by kernel_rfl
theorem tk371 : tk Tryz.prog 371 = some (TK.arr 0 16) := by kernel_rfl
theorem tk372 : tk Tryz.prog 372 = some (TK.struct [(0, 0, true)]) := by kernel_rfl
theorem tk373 : tk Tryz.prog 373 = some (TK.struct [(0, 0, true)]) := by kernel_rfl
theorem tk374 : tk Tryz.prog 374 = some (TK.int IntKind.u8) := by kernel_rfl
theorem tk375 : tk Tryz.prog 375 = some (TK.int IntKind.u8) := by kernel_rfl
theorem tk376 : tk Tryz.prog 376 = some TK.func := by kernel_rfl
theorem tk377 : tk Tryz.prog 377 = some (TK.int IntKind.i32) := by kernel_rfl
theorem tk378 : tk Tryz.prog 378 = some (TK.int IntKind.i32) := by kernel_rfl
theorem tk379 : tk Tryz.prog 379 = some (TK.struct [(0, 1, false), (1, 1, false), (2, 1, false), (3, 1, false), (4, 1, false), (5, 1, false), (6, 1, false), (7, 1, false), (8, 1, false), (9, 1, false), (10, 1, false)]) := by kernel_rfl
theorem tk380 : tk Tryz.prog 380 = some (TK.struct [(0, 1, false), (1, 1, false), (2, 1, false), (3, 1, false), (4, 1, false), (5, 1, false), (6, 1, false), (7, 1, false), (8, 1, false), (9, 1, false), (10, 1, false)]) := by kernel_rfl
theorem sz0 : szT Tryz.prog 0 = some 1 := by kernel_rfl
theorem sz1 : szT Tryz.prog 1 = some 1 := by kernel_rfl
theorem sz2 : szT Tryz.prog 2 = some 1 := by kernel_rfl
theorem sz3 : szT Tryz.prog 3 = some 1 := by kernel_rfl
theorem sz4 : szT Tryz.prog 4 = some 1 := by kernel_rfl
theorem sz5 : szT Tryz.prog 5 = some 1 := by kernel_rfl
theorem sz6 : szT Tryz.prog 6 = some 1 := by kernel_rfl
theorem sz7 : szT Tryz.prog 7 = some 4 := by kernel_rfl
theorem sz8 : szT Tryz.prog 8 = some 4 := by kernel_rfl
theorem sz9 : szT Tryz.prog 9 = some 1 := by kernel_rfl
theorem sz10 : szT Tryz.prog 10 = some 1 := by kernel_rfl
theorem sz11 : szT Tryz.prog 11 = some 1 := by kernel_rfl
theorem sz12 : szT Tryz.prog 12 = some 1 := by kernel_rfl
theorem sz13 : szT Tryz.prog 13 = some 2 := by kernel_rfl
theorem sz14 : szT Tryz.prog 14 = some 2 := by kernel_rfl
theorem sz15 : szT Tryz.prog 15 = some 1 := by kernel_rfl
theorem sz16 : szT Tryz.prog 16 = some 1 := by kernel_rfl
theorem sz17 : szT Tryz.prog 17 = some 1 := by kernel_rfl
theorem sz18 : szT Tryz.prog 18 = some 1 := by kernel_rfl
theorem sz19 : szT Tryz.prog 19 = some 1 := by kernel_rfl
theorem sz20 : szT Tryz.prog 20 = some 1 := by kernel_rfl
theorem sz21 : szT Tryz.prog 21 = some 1 := by kernel_rfl
theorem sz22 : szT Tryz.prog 22 = some 1 := by kernel_rfl
theorem sz23 : szT Tryz.prog 23 = some 1 := by kernel_rfl
theorem sz24 : szT Tryz.prog 24 = some 1 := by kernel_rfl
theorem sz25 : szT Tryz.prog 25 = some 1 := by kernel_rfl
theorem sz26 : szT Tryz.prog 26 = some 1 := by kernel_rfl
theorem sz27 : szT Tryz.prog 27 = some 1 := by kernel_rfl
theorem sz28 : szT Tryz.prog 28 = some 1 := by kernel_rfl
theorem sz29 : szT Tryz.prog 29 = some 2 := by kernel_rfl
theorem sz30 : szT Tryz.prog 30 = some 1 := by kernel_rfl
theorem sz31 : szT Tryz.prog 31 = some 1 := by kernel_rfl
theorem sz32 : szT Tryz.prog 32 = some 1 := by kernel_rfl
theorem sz33 : szT Tryz.prog 33 = some 1 := by kernel_rfl
theorem sz34 : szT Tryz.prog 34 = some 1 := by kernel_rfl
theorem sz35 : szT Tryz.prog 35 = some 1 := by kernel_rfl
theorem sz36 : szT Tryz.prog 36 = some 1 := by kernel_rfl
theorem sz37 : szT Tryz.prog 37 = some 1 := by kernel_rfl
theorem sz38 : szT Tryz.prog 38 = some 1 := by kernel_rfl
theorem sz39 : szT Tryz.prog 39 = some 1 := by kernel_rfl
theorem sz40 : szT Tryz.prog 40 = some 1 := by kernel_rfl
theorem sz41 : szT Tryz.prog 41 = some 1 := by kernel_rfl
theorem sz42 : szT Tryz.prog 42 = some 1 := by kernel_rfl
theorem sz43 : szT Tryz.prog 43 = some 1 := by kernel_rfl
theorem sz44 : szT Tryz.prog 44 = some 1 := by kernel_rfl
theorem sz45 : szT Tryz.prog 45 = some 1 := by kernel_rfl
theorem sz46 : szT Tryz.prog 46 = some 1 := by kernel_rfl
theorem sz47 : szT Tryz.prog 47 = some 2 := by kernel_rfl
theorem sz48 : szT Tryz.prog 48 = some 2 := by kernel_rfl
theorem sz49 : szT Tryz.prog 49 = some 1 := by kernel_rfl
theorem sz50 : szT Tryz.prog 50 = some 2 := by kernel_rfl
theorem sz51 : szT Tryz.prog 51 = some 2 := by kernel_rfl
theorem sz52 : szT Tryz.prog 52 = some 1 := by kernel_rfl
theorem sz53 : szT Tryz.prog 53 = some 1 := by kernel_rfl
theorem sz54 : szT Tryz.prog 54 = some 1 := by kernel_rfl
theorem sz55 : szT Tryz.prog 55 = some 1 := by kernel_rfl
theorem sz56 : szT Tryz.prog 56 = some 1 := by kernel_rfl
theorem sz57 : szT Tryz.prog 57 = some 1 := by kernel_rfl
theorem sz58 : szT Tryz.prog 58 = some 1 := by kernel_rfl
theorem sz59 : szT Tryz.prog 59 = some 1 := by kernel_rfl
theorem sz60 : szT Tryz.prog 60 = some 5 := by kernel_rfl
theorem sz61 : szT Tryz.prog 61 = some 5 := by kernel_rfl
theorem sz62 : szT Tryz.prog 62 = some 1 := by kernel_rfl
theorem sz63 : szT Tryz.prog 63 = some 1 := by kernel_rfl
theorem sz64 : szT Tryz.prog 64 = some 1 := by kernel_rfl
theorem sz65 : szT Tryz.prog 65 = some 1 := by kernel_rfl
theorem sz66 : szT Tryz.prog 66 = some 1 := by kernel_rfl
theorem sz67 : szT Tryz.prog 67 = some 1 := by kernel_rfl
theorem sz68 : szT Tryz.prog 68 = some 1 := by kernel_rfl
theorem sz69 : szT Tryz.prog 69 = some 3 := by kernel_rfl
theorem sz70 : szT Tryz.prog 70 = some 3 := by kernel_rfl
theorem sz71 : szT Tryz.prog 71 = some 6 := by kernel_rfl
theorem sz72 : szT Tryz.prog 72 = some 6 := by kernel_rfl
theorem sz73 : szT Tryz.prog 73 = some 8 := by kernel_rfl
theorem sz74 : szT Tryz.prog 74 = some 8 := by kernel_rfl
theorem sz75 : szT Tryz.prog 75 = some 1 := by kernel_rfl
theorem sz76 : szT Tryz.prog 76 = some 1 := by kernel_rfl
theorem sz77 : szT Tryz.prog 77 = some 2 := by kernel_rfl
theorem sz78 : szT Tryz.prog 78 = some 2 := by kernel_rfl
theorem sz79 : szT Tryz.prog 79 = some 1 := by kernel_rfl
theorem sz80 : szT Tryz.prog 80 = some 8 := by kernel_rfl
theorem sz81 : szT Tryz.prog 81 = some 1 := by kernel_rfl
theorem sz82 : szT Tryz.prog 82 = some 64 := by kernel_rfl
theorem sz83 : szT Tryz.prog 83 = some 1 := by kernel_rfl
theorem sz84 : szT Tryz.prog 84 = some 1 := by kernel_rfl
theorem sz85 : szT Tryz.prog 85 = some 1 := by kernel_rfl
theorem sz86 : szT Tryz.prog 86 = some 1 := by kernel_rfl
theorem sz87 : szT Tryz.prog 87 = some 1 := by kernel_rfl
theorem sz88 : szT Tryz.prog 88 = some 1 := by kernel_rfl
theorem sz89 : szT Tryz.prog 89 = some 1 := by kernel_rfl
theorem sz90 : szT Tryz.prog 90 = some 1 := by kernel_rfl
theorem sz91 : szT Tryz.prog 91 = some 1 := by kernel_rfl
theorem sz92 : szT Tryz.prog 92 = some 1 := by kernel_rfl
theorem sz93 : szT Tryz.prog 93 = some 1 := by kernel_rfl
theorem sz94 : szT Tryz.prog 94 = some 1 := by kernel_rfl
theorem sz95 : szT Tryz.prog 95 = some 1 := by kernel_rfl
theorem sz96 : szT Tryz.prog 96 = some 1 := by kernel_rfl
theorem sz97 : szT Tryz.prog 97 = some 1 := by kernel_rfl
theorem sz98 : szT Tryz.prog 98 = some 1 := by kernel_rfl
theorem sz99 : szT Tryz.prog 99 = some 2 := by kernel_rfl
theorem sz100 : szT Tryz.prog 100 = some 2 := by kernel_rfl
theorem sz101 : szT Tryz.prog 101 = some 1 := by kernel_rfl
theorem sz102 : szT Tryz.prog 102 = some 1 := by kernel_rfl
theorem sz103 : szT Tryz.prog 103 = some 1 := by kernel_rfl
theorem sz104 : szT Tryz.prog 104 = some 1 := by kernel_rfl
theorem sz105 : szT Tryz.prog 105 = some 1 := by kernel_rfl
theorem sz106 : szT Tryz.prog 106 = some 2 := by kernel_rfl
theorem sz107 : szT Tryz.prog 107 = some 2 := by kernel_rfl
theorem sz108 : szT Tryz.prog 108 = some 1 := by kernel_rfl
theorem sz109 : szT Tryz.prog 109 = some 2 := by kernel_rfl
theorem sz110 : szT Tryz.prog 110 = some 2 := by kernel_rfl
theorem sz111 : szT Tryz.prog 111 = some 1 := by kernel_rfl
theorem sz112 : szT Tryz.prog 112 = some 1 := by kernel_rfl
theorem sz113 : szT Tryz.prog 113 = some 1 := by kernel_rfl
theorem sz114 : szT Tryz.prog 114 = some 1 := by kernel_rfl
theorem sz115 : szT Tryz.prog 115 = some 1 := by kernel_rfl
theorem sz116 : szT Tryz.prog 116 = some 1 := by kernel_rfl
theorem sz117 : szT Tryz.prog 117 = some 1 := by kernel_rfl
theorem sz118 : szT Tryz.prog 118 = some 1 := by kernel_rfl
theorem sz119 : szT Tryz.prog 119 = some 2 := by kernel_rfl
theorem sz120 : szT Tryz.prog 120 = some 2 := by kernel_rfl
theorem sz121 : szT Tryz.prog 121 = some 1 := by kernel_rfl
theorem sz122 : szT Tryz.prog 122 = some 1 := by kernel_rfl
theorem sz123 : szT Tryz.prog 123 = some 1 := by kernel_rfl
theorem sz124 : szT Tryz.prog 124 = some 1 := by kernel_rfl
theorem sz125 : szT Tryz.prog 125 = some 1 := by kernel_rfl
theorem sz126 : szT Tryz.prog 126 = some 1 := by kernel_rfl
theorem sz127 : szT Tryz.prog 127 = some 1 := by kernel_rfl
theorem sz128 : szT Tryz.prog 128 = some 1 := by kernel_rfl
theorem sz129 : szT Tryz.prog 129 = some 1 := by kernel_rfl
theorem sz130 : szT Tryz.prog 130 = some 1 := by kernel_rfl
theorem sz131 : szT Tryz.prog 131 = some 1 := by kernel_rfl
theorem sz132 : szT Tryz.prog 132 = some 1 := by kernel_rfl
theorem sz133 : szT Tryz.prog 133 = some 1 := by kernel_rfl
theorem sz134 : szT Tryz.prog 134 = some 1 := by kernel_rfl
theorem sz135 : szT Tryz.prog 135 = some 1 := by kernel_rfl
theorem sz136 : szT Tryz.prog 136 = some 1 := by kernel_rfl
theorem sz137 : szT Tryz.prog 137 = some 1 := by kernel_rfl
theorem sz138 : szT Tryz.prog 138 = some 2 := by kernel_rfl
theorem sz139 : szT Tryz.prog 139 = some 2 := by kernel_rfl
theorem sz140 : szT Tryz.prog 140 = some 1 := by kernel_rfl
theorem sz141 : szT Tryz.prog 141 = some 19 := by kernel_rfl
theorem sz142 : szT Tryz.prog 142 = some 19 := by kernel_rfl
theorem sz143 : szT Tryz.prog 143 = some 1 := by kernel_rfl
theorem sz144 : szT Tryz.prog 144 = some 1 := by kernel_rfl
theorem sz145 : szT Tryz.prog 145 = some 1 := by kernel_rfl
theorem sz146 : szT Tryz.prog 146 = some 1 := by kernel_rfl
theorem sz147 : szT Tryz.prog 147 = some 1 := by kernel_rfl
theorem sz148 : szT Tryz.prog 148 = some 256 := by kernel_rfl
theorem sz149 : szT Tryz.prog 149 = some 1 := by kernel_rfl
theorem sz150 : szT Tryz.prog 150 = some 1 := by kernel_rfl
theorem sz151 : szT Tryz.prog 151 = some 6 := by kernel_rfl
theorem sz152 : szT Tryz.prog 152 = some 6 := by kernel_rfl
theorem sz153 : szT Tryz.prog 153 = some 5 := by kernel_rfl
theorem sz154 : szT Tryz.prog 154 = some 5 := by kernel_rfl
theorem sz155 : szT Tryz.prog 155 = some 1 := by kernel_rfl
theorem sz156 : szT Tryz.prog 156 = some 1 := by kernel_rfl
theorem sz157 : szT Tryz.prog 157 = some 1 := by kernel_rfl
theorem sz158 : szT Tryz.prog 158 = some 1 := by kernel_rfl
theorem sz159 : szT Tryz.prog 159 = some 6 := by kernel_rfl
theorem sz160 : szT Tryz.prog 160 = some 6 := by kernel_rfl
theorem sz161 : szT Tryz.prog 161 = some 1 := by kernel_rfl
theorem sz162 : szT Tryz.prog 162 = some 1 := by kernel_rfl
theorem sz163 : szT Tryz.prog 163 = some 1 := by kernel_rfl
theorem sz164 : szT Tryz.prog 164 = some 1 := by kernel_rfl
theorem sz165 : szT Tryz.prog 165 = some 1 := by kernel_rfl
theorem sz166 : szT Tryz.prog 166 = some 1 := by kernel_rfl
theorem sz167 : szT Tryz.prog 167 = some 1 := by kernel_rfl
theorem sz168 : szT Tryz.prog 168 = some 1 := by kernel_rfl
theorem sz169 : szT Tryz.prog 169 = some 1 := by kernel_rfl
theorem sz170 : szT Tryz.prog 170 = some 1 := by kernel_rfl
theorem sz171 : szT Tryz.prog 171 = some 1 := by kernel_rfl
theorem sz172 : szT Tryz.prog 172 = some 1 := by kernel_rfl
theorem sz173 : szT Tryz.prog 173 = some 1 := by kernel_rfl
theorem sz174 : szT Tryz.prog 174 = some 1 := by kernel_rfl
theorem sz175 : szT Tryz.prog 175 = some 1 := by kernel_rfl
theorem sz176 : szT Tryz.prog 176 = some 1 := by kernel_rfl
theorem sz177 : szT Tryz.prog 177 = some 1 := by kernel_rfl
theorem sz178 : szT Tryz.prog 178 = some 1 := by kernel_rfl
theorem sz179 : szT Tryz.prog 179 = some 1 := by kernel_rfl
theorem sz180 : szT Tryz.prog 180 = some 1 := by kernel_rfl
theorem sz181 : szT Tryz.prog 181 = some 1 := by kernel_rfl
theorem sz182 : szT Tryz.prog 182 = some 1 := by kernel_rfl
theorem sz183 : szT Tryz.prog 183 = some 1 := by kernel_rfl
theorem sz184 : szT Tryz.prog 184 = some 1 := by kernel_rfl
theorem sz185 : szT Tryz.prog 185 = some 1 := by kernel_rfl
theorem sz186 : szT Tryz.prog 186 = some 1 := by kernel_rfl
theorem sz187 : szT Tryz.prog 187 = some 1 := by kernel_rfl
theorem sz188 : szT Tryz.prog 188 = some 1 := by kernel_rfl
theorem sz189 : szT Tryz.prog 189 = some 1 := by kernel_rfl
theorem sz190 : szT Tryz.prog 190 = some 1 := by kernel_rfl
theorem sz191 : szT Tryz.prog 191 = some 1 := by kernel_rfl
theorem sz192 : szT Tryz.prog 192 = some 1 := by kernel_rfl
theorem sz193 : szT Tryz.prog 193 = some 6 := by kernel_rfl
theorem sz194 : szT Tryz.prog 194 = some 1 := by kernel_rfl
theorem sz195 : szT Tryz.prog 195 = some 1 := by kernel_rfl
theorem sz196 : szT Tryz.prog 196 = some 1 := by kernel_rfl
theorem sz197 : szT Tryz.prog 197 = some 1 := by kernel_rfl
theorem sz198 : szT Tryz.prog 198 = some 1 := by kernel_rfl
theorem sz199 : szT Tryz.prog 199 = some 1 := by kernel_rfl
theorem sz200 : szT Tryz.prog 200 = some 1 := by kernel_rfl
theorem sz201 : szT Tryz.prog 201 = some 1 := by kernel_rfl
theorem sz202 : szT Tryz.prog 202 = some 1 := by kernel_rfl
theorem sz203 : szT Tryz.prog 203 = some 1 := by kernel_rfl
theorem sz204 : szT Tryz.prog 204 = some 1 := by kernel_rfl
theorem sz205 : szT Tryz.prog 205 = some 2 := by kernel_rfl
theorem sz206 : szT Tryz.prog 206 = some 2 := by kernel_rfl
theorem sz207 : szT Tryz.prog 207 = some 1 := by kernel_rfl
theorem sz208 : szT Tryz.prog 208 = some 1 := by kernel_rfl
theorem sz209 : szT Tryz.prog 209 = some 1 := by kernel_rfl
theorem sz210 : szT Tryz.prog 210 = some 1 := by kernel_rfl
theorem sz211 : szT Tryz.prog 211 = some 1 := by kernel_rfl
theorem sz212 : szT Tryz.prog 212 = some 1 := by kernel_rfl
theorem sz213 : szT Tryz.prog 213 = some 1 := by kernel_rfl
theorem sz214 : szT Tryz.prog 214 = some 1 := by kernel_rfl
theorem sz215 : szT Tryz.prog 215 = some 1 := by kernel_rfl
theorem sz216 : szT Tryz.prog 216 = some 1 := by kernel_rfl
theorem sz217 : szT Tryz.prog 217 = some 1 := by kernel_rfl
theorem sz218 : szT Tryz.prog 218 = some 1 := by kernel_rfl
theorem sz219 : szT Tryz.prog 219 = some 1 := by kernel_rfl
theorem sz220 : szT Tryz.prog 220 = some 1 := by kernel_rfl
theorem sz221 : szT Tryz.prog 221 = some 1 := by kernel_rfl
theorem sz222 : szT Tryz.prog 222 = some 1 := by kernel_rfl
theorem sz223 : szT Tryz.prog 223 = some 1 := by kernel_rfl
theorem sz224 : szT Tryz.prog 224 = some 1 := by kernel_rfl
theorem sz225 : szT Tryz.prog 225 = some 1 := by kernel_rfl
theorem sz226 : szT Tryz.prog 226 = some 1 := by kernel_rfl
theorem sz227 : szT Tryz.prog 227 = some 1 := by kernel_rfl
theorem sz228 : szT Tryz.prog 228 = some 1 := by kernel_rfl
theorem sz229 : szT Tryz.prog 229 = some 1 := by kernel_rfl
theorem sz230 : szT Tryz.prog 230 = some 1 := by kernel_rfl
theorem sz231 : szT Tryz.prog 231 = some 1 := by kernel_rfl
theorem sz232 : szT Tryz.prog 232 = some 1 := by kernel_rfl
theorem sz233 : szT Tryz.prog 233 = some 1 := by kernel_rfl
theorem sz234 : szT Tryz.prog 234 = some 1 := by kernel_rfl
theorem sz235 : szT Tryz.prog 235 = some 1 := by kernel_rfl
theorem sz236 : szT Tryz.prog 236 = some 1 := by kernel_rfl
theorem sz237 : szT Tryz.prog 237 = some 1 := by kernel_rfl
theorem sz238 : szT Tryz.prog 238 = some 1 := by kernel_rfl
theorem sz239 : szT Tryz.prog 239 = some 1 := by kernel_rfl
theorem sz240 : szT Tryz.prog 240 = some 1 := by kernel_rfl
theorem sz241 : szT Tryz.prog 241 = some 1 := by kernel_rfl
theorem sz242 : szT Tryz.prog 242 = some 1 := by kernel_rfl
theorem sz243 : szT Tryz.prog 243 = some 1 := by kernel_rfl
theorem sz244 : szT Tryz.prog 244 = some 1 := by kernel_rfl
theorem sz245 : szT Tryz.prog 245 = some 1 := by kernel_rfl
theorem sz246 : szT Tryz.prog 246 = some 1 := by kernel_rfl
theorem sz247 : szT Tryz.prog 247 = some 1 := by kernel_rfl
theorem sz248 : szT Tryz.prog 248 = some 1 := by kernel_rfl
theorem sz249 : szT Tryz.prog 249 = some 1 := by kernel_rfl
theorem sz250 : szT Tryz.prog 250 = some 1 := by kernel_rfl
theorem sz251 : szT Tryz.prog 251 = some 1 := by kernel_rfl
theorem sz252 : szT Tryz.prog 252 = some 256 := by kernel_rfl
theorem sz253 : szT Tryz.prog 253 = some 256 := by kernel_rfl
theorem sz254 : szT Tryz.prog 254 = some 1 := by kernel_rfl
theorem sz255 : szT Tryz.prog 255 = some 1 := by kernel_rfl
theorem sz256 : szT Tryz.prog 256 = some 1 := by kernel_rfl
theorem sz257 : szT Tryz.prog 257 = some 1 := by kernel_rfl
theorem sz258 : szT Tryz.prog 258 = some 1 := by kernel_rfl
theorem sz259 : szT Tryz.prog 259 = some 1 := by kernel_rfl
theorem sz260 : szT Tryz.prog 260 = some 1 := by kernel_rfl
theorem sz261 : szT Tryz.prog 261 = some 1 := by kernel_rfl
theorem sz262 : szT Tryz.prog 262 = some 1 := by kernel_rfl
theorem sz263 : szT Tryz.prog 263 = some 1 := by kernel_rfl
theorem sz264 : szT Tryz.prog 264 = some 2 := by kernel_rfl
theorem sz265 : szT Tryz.prog 265 = some 2 := by kernel_rfl
theorem sz266 : szT Tryz.prog 266 = some 2 := by kernel_rfl
theorem sz267 : szT Tryz.prog 267 = some 2 := by kernel_rfl
theorem sz268 : szT Tryz.prog 268 = some 1 := by kernel_rfl
theorem sz269 : szT Tryz.prog 269 = some 1 := by kernel_rfl
theorem sz270 : szT Tryz.prog 270 = some 1 := by kernel_rfl
theorem sz271 : szT Tryz.prog 271 = some 1 := by kernel_rfl
theorem sz272 : szT Tryz.prog 272 = some 2 := by kernel_rfl
theorem sz273 : szT Tryz.prog 273 = some 1 := by kernel_rfl
theorem sz274 : szT Tryz.prog 274 = some 2 := by kernel_rfl
theorem sz275 : szT Tryz.prog 275 = some 1 := by kernel_rfl
theorem sz276 : szT Tryz.prog 276 = some 1 := by kernel_rfl
theorem sz277 : szT Tryz.prog 277 = some 1 := by kernel_rfl
theorem sz278 : szT Tryz.prog 278 = some 1 := by kernel_rfl
theorem sz279 : szT Tryz.prog 279 = some 1 := by kernel_rfl
theorem sz280 : szT Tryz.prog 280 = some 8 := by kernel_rfl
theorem sz281 : szT Tryz.prog 281 = some 1 := by kernel_rfl
theorem sz282 : szT Tryz.prog 282 = some 1 := by kernel_rfl
theorem sz283 : szT Tryz.prog 283 = some 1 := by kernel_rfl
theorem sz284 : szT Tryz.prog 284 = some 1 := by kernel_rfl
theorem sz285 : szT Tryz.prog 285 = some 32 := by kernel_rfl
theorem sz286 : szT Tryz.prog 286 = some 1 := by kernel_rfl
theorem sz287 : szT Tryz.prog 287 = some 1 := by kernel_rfl
theorem sz288 : szT Tryz.prog 288 = some 1 := by kernel_rfl
theorem sz289 : szT Tryz.prog 289 = some 1 := by kernel_rfl
theorem sz290 : szT Tryz.prog 290 = some 2 := by kernel_rfl
theorem sz291 : szT Tryz.prog 291 = some 2 := by kernel_rfl
theorem sz292 : szT Tryz.prog 292 = some 1 := by kernel_rfl
theorem sz293 : szT Tryz.prog 293 = some 24 := by kernel_rfl
theorem sz294 : szT Tryz.prog 294 = some 1 := by kernel_rfl
theorem sz295 : szT Tryz.prog 295 = some 1 := by kernel_rfl
theorem sz296 : szT Tryz.prog 296 = some 1 := by kernel_rfl
theorem sz297 : szT Tryz.prog 297 = some 1 := by kernel_rfl
theorem sz298 : szT Tryz.prog 298 = some 1 := by kernel_rfl
theorem sz299 : szT Tryz.prog 299 = some 1 := by kernel_rfl
theorem sz300 : szT Tryz.prog 300 = some 1 := by kernel_rfl
theorem sz301 : szT Tryz.prog 301 = some 1 := by kernel_rfl
theorem sz302 : szT Tryz.prog 302 = some 1 := by kernel_rfl
theorem sz303 : szT Tryz.prog 303 = some 1 := by kernel_rfl
theorem sz304 : szT Tryz.prog 304 = some 1 := by kernel_rfl
theorem sz305 : szT Tryz.prog 305 = some 1 := by kernel_rfl
theorem sz306 : szT Tryz.prog 306 = some 1 := by kernel_rfl
theorem sz307 : szT Tryz.prog 307 = some 1 := by kernel_rfl
theorem sz308 : szT Tryz.prog 308 = some 1 := by kernel_rfl
theorem sz309 : szT Tryz.prog 309 = some 1 := by kernel_rfl
theorem sz310 : szT Tryz.prog 310 = some 1 := by kernel_rfl
theorem sz311 : szT Tryz.prog 311 = some 1 := by kernel_rfl
theorem sz312 : szT Tryz.prog 312 = some 1 := by kernel_rfl
theorem sz313 : szT Tryz.prog 313 = some 1 := by kernel_rfl
theorem sz314 : szT Tryz.prog 314 = some 1 := by kernel_rfl
theorem sz315 : szT Tryz.prog 315 = some 1 := by kernel_rfl
theorem sz316 : szT Tryz.prog 316 = some 1 := by kernel_rfl
theorem sz317 : szT Tryz.prog 317 = some 1 := by kernel_rfl
theorem sz318 : szT Tryz.prog 318 = some 1 := by kernel_rfl
theorem sz319 : szT Tryz.prog 319 = some 1 := by kernel_rfl
theorem sz320 : szT Tryz.prog 320 = some 1 := by kernel_rfl
theorem sz321 : szT Tryz.prog 321 = some 1 := by kernel_rfl
theorem sz322 : szT Tryz.prog 322 = some 1 := by kernel_rfl
theorem sz323 : szT Tryz.prog 323 = some 1 := by kernel_rfl
theorem sz324 : szT Tryz.prog 324 = some 1 := by kernel_rfl
theorem sz325 : szT Tryz.prog 325 = some 1 := by kernel_rfl
theorem sz326 : szT Tryz.prog 326 = some 1 := by kernel_rfl
theorem sz327 : szT Tryz.prog 327 = some 1 := by kernel_rfl
theorem sz328 : szT Tryz.prog 328 = some 1 := by kernel_rfl
theorem sz329 : szT Tryz.prog 329 = some 1 := by kernel_rfl
theorem sz330 : szT Tryz.prog 330 = some 1 := by kernel_rfl
theorem sz331 : szT Tryz.prog 331 = some 1 := by kernel_rfl
theorem sz332 : szT Tryz.prog 332 = some 1 := by kernel_rfl
theorem sz333 : szT Tryz.prog 333 = some 1 := by kernel_rfl
theorem sz334 : szT Tryz.prog 334 = some 20 := by kernel_rfl
theorem sz335 : szT Tryz.prog 335 = some 65 := by kernel_rfl
theorem sz336 : szT Tryz.prog 336 = some 1 := by kernel_rfl
theorem sz337 : szT Tryz.prog 337 = some 1 := by kernel_rfl
theorem sz338 : szT Tryz.prog 338 = some 1 := by kernel_rfl
theorem sz339 : szT Tryz.prog 339 = some 1 := by kernel_rfl
theorem sz340 : szT Tryz.prog 340 = some 1 := by kernel_rfl
theorem sz341 : szT Tryz.prog 341 = some 1 := by kernel_rfl
theorem sz342 : szT Tryz.prog 342 = some 1 := by kernel_rfl
theorem sz343 : szT Tryz.prog 343 = some 1 := by kernel_rfl
theorem sz344 : szT Tryz.prog 344 = some 1 := by kernel_rfl
theorem sz345 : szT Tryz.prog 345 = some 1 := by kernel_rfl
theorem sz346 : szT Tryz.prog 346 = some 1 := by kernel_rfl
theorem sz347 : szT Tryz.prog 347 = some 1 := by kernel_rfl
theorem sz348 : szT Tryz.prog 348 = some 1 := by kernel_rfl
theorem sz349 : szT Tryz.prog 349 = some 1 := by kernel_rfl
theorem sz350 : szT Tryz.prog 350 = some 1 := by kernel_rfl
theorem sz351 : szT Tryz.prog 351 = some 1 := by kernel_rfl
theorem sz352 : szT Tryz.prog 352 = some 3 := by kernel_rfl
theorem sz353 : szT Tryz.prog 353 = some 3 := by kernel_rfl
theorem sz354 : szT Tryz.prog 354 = some 1 := by kernel_rfl
theorem sz355 : szT Tryz.prog 355 = some 1 := by kernel_rfl
theorem sz356 : szT Tryz.prog 356 = some 1 := by kernel_rfl
theorem sz357 : szT Tryz.prog 357 = some 1 := by kernel_rfl
theorem sz358 : szT Tryz.prog 358 = some 2 := by kernel_rfl
theorem sz359 : szT Tryz.prog 359 = some 2 := by kernel_rfl
theorem sz360 : szT Tryz.prog 360 = some 32 := by kernel_rfl
theorem sz361 : szT Tryz.prog 361 = some 1 := by kernel_rfl
theorem sz362 : szT Tryz.prog 362 = some 1 := by kernel_rfl
theorem sz363 : szT Tryz.prog 363 = some 1 := by kernel_rfl
theorem sz364 : szT Tryz.prog 364 = some 1 := by kernel_rfl
theorem sz365 : szT Tryz.prog 365 = some 1 := by kernel_rfl
theorem sz366 : szT Tryz.prog 366 = some 1 := by kernel_rfl
theorem sz367 : szT Tryz.prog 367 = some 64 := by kernel_rfl
theorem sz368 : szT Tryz.prog 368 = some 1 := by kernel_rfl
theorem sz369 : szT Tryz.prog 369 = some 4 := by kernel_rfl
theorem sz370 : szT Tryz.prog 370 = some 4 := by kernel_rfl
theorem sz371 : szT Tryz.prog 371 = some 0 := by kernel_rfl
theorem sz372 : szT Tryz.prog 372 = some 0 := by kernel_rfl
theorem sz373 : szT Tryz.prog 373 = some 0 := by kernel_rfl
theorem sz374 : szT Tryz.prog 374 = some 1 := by kernel_rfl
theorem sz375 : szT Tryz.prog 375 = some 1 := by kernel_rfl
theorem sz376 : szT Tryz.prog 376 = some 1 := by kernel_rfl
theorem sz377 : szT Tryz.prog 377 = some 1 := by kernel_rfl
theorem sz378 : szT Tryz.prog 378 = some 1 := by kernel_rfl
theorem sz379 : szT Tryz.prog 379 = some 11 := by kernel_rfl
theorem sz380 : szT Tryz.prog 380 = some 11 := by kernel_rfl
theorem by0 : byT Tryz.prog 0 = some 0 := by kernel_rfl
theorem by1 : byT Tryz.prog 1 = some 8 := by kernel_rfl
theorem by2 : byT Tryz.prog 2 = some 8 := by kernel_rfl
theorem by3 : byT Tryz.prog 3 = some 8 := by kernel_rfl
theorem by4 : byT Tryz.prog 4 = some 1 := by kernel_rfl
theorem by5 : byT Tryz.prog 5 = some 1 := by kernel_rfl
theorem by6 : byT Tryz.prog 6 = some 1 := by kernel_rfl
theorem by7 : byT Tryz.prog 7 = some 24 := by kernel_rfl
theorem by8 : byT Tryz.prog 8 = some 24 := by kernel_rfl
theorem by9 : byT Tryz.prog 9 = some 16 := by kernel_rfl
theorem by10 : byT Tryz.prog 10 = some 16 := by kernel_rfl
theorem by11 : byT Tryz.prog 11 = some 16 := by kernel_rfl
theorem by12 : byT Tryz.prog 12 = some 8 := by kernel_rfl
theorem by13 : byT Tryz.prog 13 = some 24 := by kernel_rfl
theorem by14 : byT Tryz.prog 14 = some 24 := by kernel_rfl
theorem by15 : byT Tryz.prog 15 = some 8 := by kernel_rfl
theorem by16 : byT Tryz.prog 16 = some 8 := by kernel_rfl
theorem by17 : byT Tryz.prog 17 = some 8 := by kernel_rfl
theorem by18 : byT Tryz.prog 18 = some 8 := by kernel_rfl
theorem by19 : byT Tryz.prog 19 = some 8 := by kernel_rfl
theorem by20 : byT Tryz.prog 20 = some 16 := by kernel_rfl
theorem by21 : byT Tryz.prog 21 = some 4 := by kernel_rfl
theorem by22 : byT Tryz.prog 22 = some 24 := by kernel_rfl
theorem by23 : byT Tryz.prog 23 = some 8 := by kernel_rfl
theorem by24 : byT Tryz.prog 24 = some 8 := by kernel_rfl
theorem by25 : byT Tryz.prog 25 = some 8 := by kernel_rfl
theorem by26 : byT Tryz.prog 26 = some 8 := by kernel_rfl
theorem by27 : byT Tryz.prog 27 = some 8 := by kernel_rfl
theorem by28 : byT Tryz.prog 28 = some 8 := by kernel_rfl
theorem by29 : byT Tryz.prog 29 = some 32 := by kernel_rfl
theorem by30 : byT Tryz.prog 30 = some 24 := by kernel_rfl
theorem by31 : byT Tryz.prog 31 = some 8 := by kernel_rfl
theorem by32 : byT Tryz.prog 32 = some 0 := by kernel_rfl
theorem by33 : byT Tryz.prog 33 = some 8 := by kernel_rfl
theorem by34 : byT Tryz.prog 34 = some 8 := by kernel_rfl
theorem by35 : byT Tryz.prog 35 = some 24 := by kernel_rfl
theorem by36 : byT Tryz.prog 36 = some 0 := by kernel_rfl
theorem by37 : byT Tryz.prog 37 = some 8 := by kernel_rfl
theorem by38 : byT Tryz.prog 38 = some 8 := by kernel_rfl
theorem by39 : byT Tryz.prog 39 = some 8 := by kernel_rfl
theorem by40 : byT Tryz.prog 40 = some 24 := by kernel_rfl
theorem by41 : byT Tryz.prog 41 = some 24 := by kernel_rfl
theorem by42 : byT Tryz.prog 42 = some 24 := by kernel_rfl
theorem by43 : byT Tryz.prog 43 = some 24 := by kernel_rfl
theorem by44 : byT Tryz.prog 44 = some 0 := by kernel_rfl
theorem by45 : byT Tryz.prog 45 = some 8 := by kernel_rfl
theorem by46 : byT Tryz.prog 46 = some 24 := by kernel_rfl
theorem by47 : byT Tryz.prog 47 = some 48 := by kernel_rfl
theorem by48 : byT Tryz.prog 48 = some 48 := by kernel_rfl
theorem by49 : byT Tryz.prog 49 = some 8 := by kernel_rfl
theorem by50 : byT Tryz.prog 50 = some 32 := by kernel_rfl
theorem by51 : byT Tryz.prog 51 = some 32 := by kernel_rfl
theorem by52 : byT Tryz.prog 52 = some 8 := by kernel_rfl
theorem by53 : byT Tryz.prog 53 = some 8 := by kernel_rfl
theorem by54 : byT Tryz.prog 54 = some 8 := by kernel_rfl
theorem by55 : byT Tryz.prog 55 = some 8 := by kernel_rfl
theorem by56 : byT Tryz.prog 56 = some 24 := by kernel_rfl
theorem by57 : byT Tryz.prog 57 = some 8 := by kernel_rfl
theorem by58 : byT Tryz.prog 58 = some 8 := by kernel_rfl
theorem by59 : byT Tryz.prog 59 = some 24 := by kernel_rfl
theorem by60 : byT Tryz.prog 60 = some 72 := by kernel_rfl
theorem by61 : byT Tryz.prog 61 = some 72 := by kernel_rfl
theorem by62 : byT Tryz.prog 62 = some 0 := by kernel_rfl
theorem by63 : byT Tryz.prog 63 = some 8 := by kernel_rfl
theorem by64 : byT Tryz.prog 64 = some 24 := by kernel_rfl
theorem by65 : byT Tryz.prog 65 = some 24 := by kernel_rfl
theorem by66 : byT Tryz.prog 66 = some 24 := by kernel_rfl
theorem by67 : byT Tryz.prog 67 = some 0 := by kernel_rfl
theorem by68 : byT Tryz.prog 68 = some 8 := by kernel_rfl
theorem by69 : byT Tryz.prog 69 = some 40 := by kernel_rfl
theorem by70 : byT Tryz.prog 70 = some 40 := by kernel_rfl
theorem by71 : byT Tryz.prog 71 = some 104 := by kernel_rfl
theorem by72 : byT Tryz.prog 72 = some 104 := by kernel_rfl
theorem by73 : byT Tryz.prog 73 = some 120 := by kernel_rfl
theorem by74 : byT Tryz.prog 74 = some 120 := by kernel_rfl
theorem by75 : byT Tryz.prog 75 = some 8 := by kernel_rfl
theorem by76 : byT Tryz.prog 76 = some 8 := by kernel_rfl
theorem by77 : byT Tryz.prog 77 = some 24 := by kernel_rfl
theorem by78 : byT Tryz.prog 78 = some 24 := by kernel_rfl
theorem by79 : byT Tryz.prog 79 = some 4 := by kernel_rfl
theorem by80 : byT Tryz.prog 80 = some 32 := by kernel_rfl
theorem by81 : byT Tryz.prog 81 = some 8 := by kernel_rfl
theorem by82 : byT Tryz.prog 82 = some 256 := by kernel_rfl
theorem by83 : byT Tryz.prog 83 = some 8 := by kernel_rfl
theorem by84 : byT Tryz.prog 84 = some 8 := by kernel_rfl
theorem by85 : byT Tryz.prog 85 = some 8 := by kernel_rfl
theorem by86 : byT Tryz.prog 86 = some 0 := by kernel_rfl
theorem by87 : byT Tryz.prog 87 = some 8 := by kernel_rfl
theorem by88 : byT Tryz.prog 88 = some 8 := by kernel_rfl
theorem by89 : byT Tryz.prog 89 = some 8 := by kernel_rfl
theorem by90 : byT Tryz.prog 90 = some 8 := by kernel_rfl
theorem by91 : byT Tryz.prog 91 = some 8 := by kernel_rfl
theorem by92 : byT Tryz.prog 92 = some 8 := by kernel_rfl
theorem by93 : byT Tryz.prog 93 = some 0 := by kernel_rfl
theorem by94 : byT Tryz.prog 94 = some 8 := by kernel_rfl
theorem by95 : byT Tryz.prog 95 = some 8 := by kernel_rfl
theorem by96 : byT Tryz.prog 96 = some 8 := by kernel_rfl
theorem by97 : byT Tryz.prog 97 = some 8 := by kernel_rfl
theorem by98 : byT Tryz.prog 98 = some 8 := by kernel_rfl
theorem by99 : byT Tryz.prog 99 = some 24 := by kernel_rfl
theorem by100 : byT Tryz.prog 100 = some 24 := by kernel_rfl
theorem by101 : byT Tryz.prog 101 = some 0 := by kernel_rfl
theorem by102 : byT Tryz.prog 102 = some 8 := by kernel_rfl
theorem by103 : byT Tryz.prog 103 = some 8 := by kernel_rfl
theorem by104 : byT Tryz.prog 104 = some 8 := by kernel_rfl
theorem by105 : byT Tryz.prog 105 = some 8 := by kernel_rfl
theorem by106 : byT Tryz.prog 106 = some 24 := by kernel_rfl
theorem by107 : byT Tryz.prog 107 = some 24 := by kernel_rfl
theorem by108 : byT Tryz.prog 108 = some 8 := by kernel_rfl
theorem by109 : byT Tryz.prog 109 = some 24 := by kernel_rfl
theorem by110 : byT Tryz.prog 110 = some 24 := by kernel_rfl
theorem by111 : byT Tryz.prog 111 = some 8 := by kernel_rfl
theorem by112 : byT Tryz.prog 112 = some 8 := by kernel_rfl
theorem by113 : byT Tryz.prog 113 = some 8 := by kernel_rfl
theorem by114 : byT Tryz.prog 114 = some 8 := by kernel_rfl
theorem by115 : byT Tryz.prog 115 = some 8 := by kernel_rfl
theorem by116 : byT Tryz.prog 116 = some 0 := by kernel_rfl
theorem by117 : byT Tryz.prog 117 = some 8 := by kernel_rfl
theorem by118 : byT Tryz.prog 118 = some 8 := by kernel_rfl
theorem by119 : byT Tryz.prog 119 = some 32 := by kernel_rfl
theorem by120 : byT Tryz.prog 120 = some 32 := by kernel_rfl
theorem by121 : byT Tryz.prog 121 = some 8 := by kernel_rfl
theorem by122 : byT Tryz.prog 122 = some 16 := by kernel_rfl
theorem by123 : byT Tryz.prog 123 = some 16 := by kernel_rfl
theorem by124 : byT Tryz.prog 124 = some 0 := by kernel_rfl
theorem by125 : byT Tryz.prog 125 = some 8 := by kernel_rfl
theorem by126 : byT Tryz.prog 126 = some 0 := by kernel_rfl
theorem by127 : byT Tryz.prog 127 = some 8 := by kernel_rfl
theorem by128 : byT Tryz.prog 128 = some 8 := by kernel_rfl
theorem by129 : byT Tryz.prog 129 = some 8 := by kernel_rfl
theorem by130 : byT Tryz.prog 130 = some 8 := by kernel_rfl
theorem by131 : byT Tryz.prog 131 = some 0 := by kernel_rfl
theorem by132 : byT Tryz.prog 132 = some 8 := by kernel_rfl
theorem by133 : byT Tryz.prog 133 = some 0 := by kernel_rfl
theorem by134 : byT Tryz.prog 134 = some 8 := by kernel_rfl
theorem by135 : byT Tryz.prog 135 = some 8 := by kernel_rfl
theorem by136 : byT Tryz.prog 136 = some 8 := by kernel_rfl
theorem by137 : byT Tryz.prog 137 = some 24 := by kernel_rfl
theorem by138 : byT Tryz.prog 138 = some 32 := by kernel_rfl
theorem by139 : byT Tryz.prog 139 = some 32 := by kernel_rfl
theorem by140 : byT Tryz.prog 140 = some 24 := by kernel_rfl
theorem by141 : byT Tryz.prog 141 = some 328 := by kernel_rfl
theorem by142 : byT Tryz.prog 142 = some 328 := by kernel_rfl
theorem by143 : byT Tryz.prog 143 = some 0 := by kernel_rfl
theorem by144 : byT Tryz.prog 144 = some 8 := by kernel_rfl
theorem by145 : byT Tryz.prog 145 = some 8 := by kernel_rfl
theorem by146 : byT Tryz.prog 146 = some 8 := by kernel_rfl
theorem by147 : byT Tryz.prog 147 = some 8 := by kernel_rfl
theorem by148 : byT Tryz.prog 148 = some 256 := by kernel_rfl
theorem by149 : byT Tryz.prog 149 = some 8 := by kernel_rfl
theorem by150 : byT Tryz.prog 150 = some 24 := by kernel_rfl
theorem by151 : byT Tryz.prog 151 = some 88 := by kernel_rfl
theorem by152 : byT Tryz.prog 152 = some 88 := by kernel_rfl
theorem by153 : byT Tryz.prog 153 = some 48 := by kernel_rfl
theorem by154 : byT Tryz.prog 154 = some 48 := by kernel_rfl
theorem by155 : byT Tryz.prog 155 = some 0 := by kernel_rfl
theorem by156 : byT Tryz.prog 156 = some 8 := by kernel_rfl
theorem by157 : byT Tryz.prog 157 = some 8 := by kernel_rfl
theorem by158 : byT Tryz.prog 158 = some 8 := by kernel_rfl
theorem by159 : byT Tryz.prog 159 = some 88 := by kernel_rfl
theorem by160 : byT Tryz.prog 160 = some 88 := by kernel_rfl
theorem by161 : byT Tryz.prog 161 = some 0 := by kernel_rfl
theorem by162 : byT Tryz.prog 162 = some 8 := by kernel_rfl
theorem by163 : byT Tryz.prog 163 = some 8 := by kernel_rfl
theorem by164 : byT Tryz.prog 164 = some 8 := by kernel_rfl
theorem by165 : byT Tryz.prog 165 = some 8 := by kernel_rfl
theorem by166 : byT Tryz.prog 166 = some 8 := by kernel_rfl
theorem by167 : byT Tryz.prog 167 = some 8 := by kernel_rfl
theorem by168 : byT Tryz.prog 168 = some 0 := by kernel_rfl
theorem by169 : byT Tryz.prog 169 = some 8 := by kernel_rfl
theorem by170 : byT Tryz.prog 170 = some 8 := by kernel_rfl
theorem by171 : byT Tryz.prog 171 = some 0 := by kernel_rfl
theorem by172 : byT Tryz.prog 172 = some 8 := by kernel_rfl
theorem by173 : byT Tryz.prog 173 = some 0 := by kernel_rfl
theorem by174 : byT Tryz.prog 174 = some 8 := by kernel_rfl
theorem by175 : byT Tryz.prog 175 = some 8 := by kernel_rfl
theorem by176 : byT Tryz.prog 176 = some 8 := by kernel_rfl
theorem by177 : byT Tryz.prog 177 = some 8 := by kernel_rfl
theorem by178 : byT Tryz.prog 178 = some 8 := by kernel_rfl
theorem by179 : byT Tryz.prog 179 = some 8 := by kernel_rfl
theorem by180 : byT Tryz.prog 180 = some 8 := by kernel_rfl
theorem by181 : byT Tryz.prog 181 = some 8 := by kernel_rfl
theorem by182 : byT Tryz.prog 182 = some 8 := by kernel_rfl
theorem by183 : byT Tryz.prog 183 = some 8 := by kernel_rfl
theorem by184 : byT Tryz.prog 184 = some 8 := by kernel_rfl
theorem by185 : byT Tryz.prog 185 = some 8 := by kernel_rfl
theorem by186 : byT Tryz.prog 186 = some 8 := by kernel_rfl
theorem by187 : byT Tryz.prog 187 = some 8 := by kernel_rfl
theorem by188 : byT Tryz.prog 188 = some 8 := by kernel_rfl
theorem by189 : byT Tryz.prog 189 = some 8 := by kernel_rfl
theorem by190 : byT Tryz.prog 190 = some 8 := by kernel_rfl
theorem by191 : byT Tryz.prog 191 = some 8 := by kernel_rfl
theorem by192 : byT Tryz.prog 192 = some 8 := by kernel_rfl
theorem by193 : byT Tryz.prog 193 = some 88 := by kernel_rfl
theorem by194 : byT Tryz.prog 194 = some 8 := by kernel_rfl
theorem by195 : byT Tryz.prog 195 = some 8 := by kernel_rfl
theorem by196 : byT Tryz.prog 196 = some 8 := by kernel_rfl
theorem by197 : byT Tryz.prog 197 = some 0 := by kernel_rfl
theorem by198 : byT Tryz.prog 198 = some 8 := by kernel_rfl
theorem by199 : byT Tryz.prog 199 = some 8 := by kernel_rfl
theorem by200 : byT Tryz.prog 200 = some 8 := by kernel_rfl
theorem by201 : byT Tryz.prog 201 = some 8 := by kernel_rfl
theorem by202 : byT Tryz.prog 202 = some 8 := by kernel_rfl
theorem by203 : byT Tryz.prog 203 = some 8 := by kernel_rfl
theorem by204 : byT Tryz.prog 204 = some 8 := by kernel_rfl
theorem by205 : byT Tryz.prog 205 = some 16 := by kernel_rfl
theorem by206 : byT Tryz.prog 206 = some 16 := by kernel_rfl
theorem by207 : byT Tryz.prog 207 = some 0 := by kernel_rfl
theorem by208 : byT Tryz.prog 208 = some 8 := by kernel_rfl
theorem by209 : byT Tryz.prog 209 = some 8 := by kernel_rfl
theorem by210 : byT Tryz.prog 210 = some 8 := by kernel_rfl
theorem by211 : byT Tryz.prog 211 = some 8 := by kernel_rfl
theorem by212 : byT Tryz.prog 212 = some 8 := by kernel_rfl
theorem by213 : byT Tryz.prog 213 = some 8 := by kernel_rfl
theorem by214 : byT Tryz.prog 214 = some 8 := by kernel_rfl
theorem by215 : byT Tryz.prog 215 = some 8 := by kernel_rfl
theorem by216 : byT Tryz.prog 216 = some 8 := by kernel_rfl
theorem by217 : byT Tryz.prog 217 = some 0 := by kernel_rfl
theorem by218 : byT Tryz.prog 218 = some 8 := by kernel_rfl
theorem by219 : byT Tryz.prog 219 = some 0 := by kernel_rfl
theorem by220 : byT Tryz.prog 220 = some 8 := by kernel_rfl
theorem by221 : byT Tryz.prog 221 = some 8 := by kernel_rfl
theorem by222 : byT Tryz.prog 222 = some 8 := by kernel_rfl
theorem by223 : byT Tryz.prog 223 = some 8 := by kernel_rfl
theorem by224 : byT Tryz.prog 224 = some 8 := by kernel_rfl
theorem by225 : byT Tryz.prog 225 = some 8 := by kernel_rfl
theorem by226 : byT Tryz.prog 226 = some 8 := by kernel_rfl
theorem by227 : byT Tryz.prog 227 = some 8 := by kernel_rfl
theorem by228 : byT Tryz.prog 228 = some 8 := by kernel_rfl
theorem by229 : byT Tryz.prog 229 = some 8 := by kernel_rfl
theorem by230 : byT Tryz.prog 230 = some 8 := by kernel_rfl
theorem by231 : byT Tryz.prog 231 = some 8 := by kernel_rfl
theorem by232 : byT Tryz.prog 232 = some 8 := by kernel_rfl
theorem by233 : byT Tryz.prog 233 = some 8 := by kernel_rfl
theorem by234 : byT Tryz.prog 234 = some 8 := by kernel_rfl
theorem by235 : byT Tryz.prog 235 = some 8 := by kernel_rfl
theorem by236 : byT Tryz.prog 236 = some 8 := by kernel_rfl
theorem by237 : byT Tryz.prog 237 = some 8 := by kernel_rfl
theorem by238 : byT Tryz.prog 238 = some 0 := by kernel_rfl
theorem by239 : byT Tryz.prog 239 = some 8 := by kernel_rfl
theorem by240 : byT Tryz.prog 240 = some 0 := by kernel_rfl
theorem by241 : byT Tryz.prog 241 = some 8 := by kernel_rfl
theorem by242 : byT Tryz.prog 242 = some 8 := by kernel_rfl
theorem by243 : byT Tryz.prog 243 = some 8 := by kernel_rfl
theorem by244 : byT Tryz.prog 244 = some 24 := by kernel_rfl
theorem by245 : byT Tryz.prog 245 = some 8 := by kernel_rfl
theorem by246 : byT Tryz.prog 246 = some 8 := by kernel_rfl
theorem by247 : byT Tryz.prog 247 = some 8 := by kernel_rfl
theorem by248 : byT Tryz.prog 248 = some 24 := by kernel_rfl
theorem by249 : byT Tryz.prog 249 = some 8 := by kernel_rfl
theorem by250 : byT Tryz.prog 250 = some 8 := by kernel_rfl
theorem by251 : byT Tryz.prog 251 = some 8 := by kernel_rfl
theorem by252 : byT Tryz.prog 252 = some 256 := by kernel_rfl
theorem by253 : byT Tryz.prog 253 = some 256 := by kernel_rfl
theorem by254 : byT Tryz.prog 254 = some 0 := by kernel_rfl
theorem by255 : byT Tryz.prog 255 = some 8 := by kernel_rfl
theorem by256 : byT Tryz.prog 256 = some 8 := by kernel_rfl
theorem by257 : byT Tryz.prog 257 = some 8 := by kernel_rfl
theorem by258 : byT Tryz.prog 258 = some 8 := by kernel_rfl
theorem by259 : byT Tryz.prog 259 = some 0 := by kernel_rfl
theorem by260 : byT Tryz.prog 260 = some 8 := by kernel_rfl
theorem by261 : byT Tryz.prog 261 = some 8 := by kernel_rfl
theorem by262 : byT Tryz.prog 262 = some 8 := by kernel_rfl
theorem by263 : byT Tryz.prog 263 = some 8 := by kernel_rfl
theorem by264 : byT Tryz.prog 264 = some 24 := by kernel_rfl
theorem by265 : byT Tryz.prog 265 = some 24 := by kernel_rfl
theorem by266 : byT Tryz.prog 266 = some 24 := by kernel_rfl
theorem by267 : byT Tryz.prog 267 = some 24 := by kernel_rfl
theorem by268 : byT Tryz.prog 268 = some 8 := by kernel_rfl
theorem by269 : byT Tryz.prog 269 = some 8 := by kernel_rfl
theorem by270 : byT Tryz.prog 270 = some 8 := by kernel_rfl
theorem by271 : byT Tryz.prog 271 = some 8 := by kernel_rfl
theorem by272 : byT Tryz.prog 272 = some 24 := by kernel_rfl
theorem by273 : byT Tryz.prog 273 = some 8 := by kernel_rfl
theorem by274 : byT Tryz.prog 274 = some 24 := by kernel_rfl
theorem by275 : byT Tryz.prog 275 = some 0 := by kernel_rfl
theorem by276 : byT Tryz.prog 276 = some 8 := by kernel_rfl
theorem by277 : byT Tryz.prog 277 = some 8 := by kernel_rfl
theorem by278 : byT Tryz.prog 278 = some 8 := by kernel_rfl
theorem by279 : byT Tryz.prog 279 = some 8 := by kernel_rfl
theorem by280 : byT Tryz.prog 280 = some 32 := by kernel_rfl
theorem by281 : byT Tryz.prog 281 = some 8 := by kernel_rfl
theorem by282 : byT Tryz.prog 282 = some 8 := by kernel_rfl
theorem by283 : byT Tryz.prog 283 = some 8 := by kernel_rfl
theorem by284 : byT Tryz.prog 284 = some 8 := by kernel_rfl
theorem by285 : byT Tryz.prog 285 = some 32 := by kernel_rfl
theorem by286 : byT Tryz.prog 286 = some 8 := by kernel_rfl
theorem by287 : byT Tryz.prog 287 = some 0 := by kernel_rfl
theorem by288 : byT Tryz.prog 288 = some 8 := by kernel_rfl
theorem by289 : byT Tryz.prog 289 = some 8 := by kernel_rfl
theorem by290 : byT Tryz.prog 290 = some 16 := by kernel_rfl
theorem by291 : byT Tryz.prog 291 = some 16 := by kernel_rfl
theorem by292 : byT Tryz.prog 292 = some 8 := by kernel_rfl
theorem by293 : byT Tryz.prog 293 = some 24 := by kernel_rfl
theorem by294 : byT Tryz.prog 294 = some 8 := by kernel_rfl
theorem by295 : byT Tryz.prog 295 = some 8 := by kernel_rfl
theorem by296 : byT Tryz.prog 296 = some 0 := by kernel_rfl
theorem by297 : byT Tryz.prog 297 = some 8 := by kernel_rfl
theorem by298 : byT Tryz.prog 298 = some 8 := by kernel_rfl
theorem by299 : byT Tryz.prog 299 = some 8 := by kernel_rfl
theorem by300 : byT Tryz.prog 300 = some 8 := by kernel_rfl
theorem by301 : byT Tryz.prog 301 = some 8 := by kernel_rfl
theorem by302 : byT Tryz.prog 302 = some 8 := by kernel_rfl
theorem by303 : byT Tryz.prog 303 = some 0 := by kernel_rfl
theorem by304 : byT Tryz.prog 304 = some 8 := by kernel_rfl
theorem by305 : byT Tryz.prog 305 = some 8 := by kernel_rfl
theorem by306 : byT Tryz.prog 306 = some 8 := by kernel_rfl
theorem by307 : byT Tryz.prog 307 = some 8 := by kernel_rfl
theorem by308 : byT Tryz.prog 308 = some 8 := by kernel_rfl
theorem by309 : byT Tryz.prog 309 = some 8 := by kernel_rfl
theorem by310 : byT Tryz.prog 310 = some 8 := by kernel_rfl
theorem by311 : byT Tryz.prog 311 = some 8 := by kernel_rfl
theorem by312 : byT Tryz.prog 312 = some 8 := by kernel_rfl
theorem by313 : byT Tryz.prog 313 = some 8 := by kernel_rfl
theorem by314 : byT Tryz.prog 314 = some 8 := by kernel_rfl
theorem by315 : byT Tryz.prog 315 = some 8 := by kernel_rfl
theorem by316 : byT Tryz.prog 316 = some 0 := by kernel_rfl
theorem by317 : byT Tryz.prog 317 = some 8 := by kernel_rfl
theorem by318 : byT Tryz.prog 318 = some 8 := by kernel_rfl
theorem by319 : byT Tryz.prog 319 = some 8 := by kernel_rfl
theorem by320 : byT Tryz.prog 320 = some 8 := by kernel_rfl
theorem by321 : byT Tryz.prog 321 = some 8 := by kernel_rfl
theorem by322 : byT Tryz.prog 322 = some 8 := by kernel_rfl
theorem by323 : byT Tryz.prog 323 = some 8 := by kernel_rfl
theorem by324 : byT Tryz.prog 324 = some 8 := by kernel_rfl
theorem by325 : byT Tryz.prog 325 = some 8 := by kernel_rfl
theorem by326 : byT Tryz.prog 326 = some 8 := by kernel_rfl
theorem by327 : byT Tryz.prog 327 = some 8 := by kernel_rfl
theorem by328 : byT Tryz.prog 328 = some 8 := by kernel_rfl
theorem by329 : byT Tryz.prog 329 = some 8 := by kernel_rfl
theorem by330 : byT Tryz.prog 330 = some 8 := by kernel_rfl
theorem by331 : byT Tryz.prog 331 = some 8 := by kernel_rfl
theorem by332 : byT Tryz.prog 332 = some 8 := by kernel_rfl
theorem by333 : byT Tryz.prog 333 = some 8 := by kernel_rfl
theorem by334 : byT Tryz.prog 334 = some 160 := by kernel_rfl
theorem by335 : byT Tryz.prog 335 = some 65 := by kernel_rfl
theorem by336 : byT Tryz.prog 336 = some 8 := by kernel_rfl
theorem by337 : byT Tryz.prog 337 = some 8 := by kernel_rfl
theorem by338 : byT Tryz.prog 338 = some 8 := by kernel_rfl
theorem by339 : byT Tryz.prog 339 = some 8 := by kernel_rfl
theorem by340 : byT Tryz.prog 340 = some 8 := by kernel_rfl
theorem by341 : byT Tryz.prog 341 = some 8 := by kernel_rfl
theorem by342 : byT Tryz.prog 342 = some 0 := by kernel_rfl
theorem by343 : byT Tryz.prog 343 = some 8 := by kernel_rfl
theorem by344 : byT Tryz.prog 344 = some 8 := by kernel_rfl
theorem by345 : byT Tryz.prog 345 = some 8 := by kernel_rfl
theorem by346 : byT Tryz.prog 346 = some 8 := by kernel_rfl
theorem by347 : byT Tryz.prog 347 = some 1 := by kernel_rfl
theorem by348 : byT Tryz.prog 348 = some 8 := by kernel_rfl
theorem by349 : byT Tryz.prog 349 = some 8 := by kernel_rfl
theorem by350 : byT Tryz.prog 350 = some 8 := by kernel_rfl
theorem by351 : byT Tryz.prog 351 = some 8 := by kernel_rfl
theorem by352 : byT Tryz.prog 352 = some 48 := by kernel_rfl
theorem by353 : byT Tryz.prog 353 = some 48 := by kernel_rfl
theorem by354 : byT Tryz.prog 354 = some 8 := by kernel_rfl
theorem by355 : byT Tryz.prog 355 = some 0 := by kernel_rfl
theorem by356 : byT Tryz.prog 356 = some 8 := by kernel_rfl
theorem by357 : byT Tryz.prog 357 = some 8 := by kernel_rfl
theorem by358 : byT Tryz.prog 358 = some 2 := by kernel_rfl
theorem by359 : byT Tryz.prog 359 = some 2 := by kernel_rfl
theorem by360 : byT Tryz.prog 360 = some 32 := by kernel_rfl
theorem by361 : byT Tryz.prog 361 = some 8 := by kernel_rfl
theorem by362 : byT Tryz.prog 362 = some 8 := by kernel_rfl
theorem by363 : byT Tryz.prog 363 = some 8 := by kernel_rfl
theorem by364 : byT Tryz.prog 364 = some 8 := by kernel_rfl
theorem by365 : byT Tryz.prog 365 = some 16 := by kernel_rfl
theorem by366 : byT Tryz.prog 366 = some 16 := by kernel_rfl
theorem by367 : byT Tryz.prog 367 = some 64 := by kernel_rfl
theorem by368 : byT Tryz.prog 368 = some 8 := by kernel_rfl
theorem by369 : byT Tryz.prog 369 = some 40 := by kernel_rfl
theorem by370 : byT Tryz.prog 370 = some 40 := by kernel_rfl
theorem by371 : byT Tryz.prog 371 = some 0 := by kernel_rfl
theorem by372 : byT Tryz.prog 372 = some 0 := by kernel_rfl
theorem by373 : byT Tryz.prog 373 = some 0 := by kernel_rfl
theorem by374 : byT Tryz.prog 374 = some 1 := by kernel_rfl
theorem by375 : byT Tryz.prog 375 = some 1 := by kernel_rfl
theorem by376 : byT Tryz.prog 376 = some 8 := by kernel_rfl
theorem by377 : byT Tryz.prog 377 = some 4 := by kernel_rfl
theorem by378 : byT Tryz.prog 378 = some 4 := by kernel_rfl
theorem by379 : byT Tryz.prog 379 = some 48 := by kernel_rfl
theorem by380 : byT Tryz.prog 380 = some 48 := by kernel_rfl
theorem ze0 : zeT Tryz.prog 0 = some [AV.lit (Value.tuple { toList := [] })] := by kernel_rfl
theorem ze1 : zeT Tryz.prog 1 = some [AV.lit Value.nilFunc] := by kernel_rfl
theorem ze2 : zeT Tryz.prog 2 = some [AV.lit (Value.int IntKind.i64 0)] := by kernel_rfl
theorem ze3 : zeT Tryz.prog 3 = some [AV.lit (Value.int IntKind.i64 0)] := by kernel_rfl
theorem ze4 : zeT Tryz.prog 4 = some [AV.lit (Value.bool false)] := by kernel_rfl
theorem ze5 : zeT Tryz.prog 5 = some [AV.lit (Value.int IntKind.u8 0)] := by kernel_rfl
theorem ze6 : zeT Tryz.prog 6 = some [AV.lit (Value.int IntKind.u8 0)] := by kernel_rfl
theorem ze7 : zeT Tryz.prog 7 = some [AV.lit (Value.int IntKind.i64 0), AV.lit (Value.int IntKind.i64 0), AV.lit (Value.bool false), AV.lit (Value.int IntKind.u8 0)] := by kernel_rfl
theorem ze8 : zeT Tryz.prog 8 = some [AV.lit (Value.int IntKind.i64 0), AV.lit (Value.int IntKind.i64 0), AV.lit (Value.bool false), AV.lit (Value.int IntKind.u8 0)] := by kernel_rfl
theorem ze9 : zeT Tryz.prog 9 = some [AV.str []] := by kernel_rfl
theorem ze10 : zeT Tryz.prog 10 = some [AV.str []] := by kernel_rfl
theorem ze11 : zeT Tryz.prog 11 = some [AV.str []] := by kernel_rfl
theorem ze12 : zeT Tryz.prog 12 = some [AV.lit (Value.int IntKind.u64 0)] := by kernel_rfl
theorem ze13 : zeT Tryz.prog 13 = some [AV.str [], AV.lit (Value.int IntKind.u64 0)] := by kernel_rfl
theorem ze14 : zeT Tryz.prog 14 = some [AV.str [], AV.lit (Value.int IntKind.u64 0)] := by kernel_rfl
theorem ze15 : zeT Tryz.prog 15 = some [AV.lit (Value.pointer none)] := by kernel_rfl
theorem ze16 : zeT Tryz.prog 16 = some [AV.lit (Value.pointer none)] := by kernel_rfl
theorem ze17 : zeT Tryz.prog 17 = some [AV.lit (Value.pointer none)] := by kernel_rfl
theorem ze18 : zeT Tryz.prog 18 = some [AV.lit (Value.pointer none)] := by kernel_rfl
theorem ze19 : zeT Tryz.prog 19 = some [AV.lit (Value.pointer none)] := by kernel_rfl
theorem ze20 : zeT Tryz.prog 20 = some [AV.lit Value.nilIface] := by kernel_rfl
theorem ze21 : zeT Tryz.prog 21 = some [AV.lit (Value.int IntKind.i32 0)] := by kernel_rfl
theorem ze22 : zeT Tryz.prog 22 = some [AV.lit (Value.slice none 0 0)] := by kernel_rfl
theorem ze23 : zeT Tryz.prog 23 = some [AV.lit Value.nilFunc] := by kernel_rfl
theorem ze24 : zeT Tryz.prog 24 = some [AV.lit Value.nilFunc] := by kernel_rfl
theorem ze25 : zeT Tryz.prog 25 = some [AV.lit (Value.pointer none)] := by kernel_rfl
theorem ze26 : zeT Tryz.prog 26 = some [AV.lit Value.nilFunc] := by kernel_rfl
theorem ze27 : zeT Tryz.prog 27 = some [AV.lit Value.nilFunc] := by kernel_rfl
theorem ze28 : zeT Tryz.prog 28 = some [AV.lit Value.nilFunc] := by kernel_rfl
theorem ze29 : zeT Tryz.prog 29 = some [AV.str [], AV.str []] := by kernel_rfl
theorem ze30 : zeT Tryz.prog 30 = some [AV.lit (Value.slice none 0 0)] := by kernel_rfl
theorem ze31 : zeT Tryz.prog 31 = some [AV.lit (Value.int IntKind.i64 0)] := by kernel_rfl
theorem ze32 : zeT Tryz.prog 32 = some [AV.lit (Value.tuple { toList := [Value.string { data := { toList := [] } }, Value.int IntKind.i64 0] })] := by kernel_rfl
theorem ze33 : zeT Tryz.prog 33 = some [AV.lit Value.nilFunc] := by kernel_rfl
theorem ze34 : zeT Tryz.prog 34 = some [AV.lit Value.nilFunc] := by kernel_rfl
theorem ze35 : zeT Tryz.prog 35 = some [AV.lit (Value.slice none 0 0)] := by kernel_rfl
theorem ze36 : zeT Tryz.prog 36 = some [AV.lit (Value.tuple { toList := [Value.string { data := { toList := [] } }, Value.string { data := { toList := [] } }, Value.int IntKind.i64 0] })] := by kernel_rfl
theorem ze37 : zeT Tryz.prog 37 = some [AV.lit Value.nilFunc] := by kernel_rfl
theorem ze38 : zeT Tryz.prog 38 = some [AV.lit Value.nilFunc] := by kernel_rfl
theorem ze39 : zeT Tryz.prog 39 = some [AV.lit Value.nilFunc] := by kernel_rfl
theorem ze40 : zeT Tryz.prog 40 = some [AV.lit (Value.slice none 0 0)] := by kernel_rfl
theorem ze41 : zeT Tryz.prog 41 = some [AV.lit (Value.slice none 0 0)] := by kernel_rfl
theorem ze42 : zeT Tryz.prog 42 = some [AV.lit (Value.slice none 0 0)] := by kernel_rfl
theorem ze43 : zeT Tryz.prog 43 = some [AV.lit (Value.slice none 0 0)] := by kernel_rfl
theorem ze44 : zeT Tryz.prog 44 = some [AV.lit (Value.tuple { toList := [Value.slice none 0 0, Value.slice none 0 0, Value.int IntKind.i64 0] })] := by kernel_rfl
theorem ze45 : zeT Tryz.prog 45 = some [AV.lit Value.nilFunc] := by kernel_rfl
theorem ze46 : zeT Tryz.prog 46 = some [AV.lit (Value.slice none 0 0)] := by kernel_rfl
theorem ze47 : zeT Tryz.prog 47 = some [AV.lit (Value.slice none 0 0), AV.lit (Value.slice none 0 0)] := by kernel_rfl
theorem ze48 : zeT Tryz.prog 48 = some [AV.lit (Value.slice none 0 0), AV.lit (Value.slice none 0 0)] := by kernel_rfl
theorem ze49 : zeT Tryz.prog 49 = some [AV.lit Value.nilFunc] := by kernel_rfl
theorem ze50 : zeT Tryz.prog 50 = some [AV.lit (Value.slice none 0 0), AV.lit (Value.int IntKind.i64 0)] := by kernel_rfl
theorem ze51 : zeT Tryz.prog 51 = some [AV.lit (Value.slice none 0 0), AV.lit (Value.int IntKind.i64 0)] := by kernel_rfl
theorem ze52 : zeT Tryz.prog 52 = some [AV.lit Value.nilFunc] := by kernel_rfl
theorem ze53 : zeT Tryz.prog 53 = some [AV.lit Value.nilFunc] := by kernel_rfl
theorem ze54 : zeT Tryz.prog 54 = some [AV.lit Value.nilFunc] := by kernel_rfl
theorem ze55 : zeT Tryz.prog 55 = some [AV.lit Value.nilFunc] := by kernel_rfl
theorem ze56 : zeT Tryz.prog 56 = some [AV.lit (Value.slice none 0 0)] := by kernel_rfl
theorem ze57 : zeT Tryz.prog 57 = some [AV.lit Value.nilFunc] := by kernel_rfl
theorem ze58 : zeT Tryz.prog 58 = some [AV.lit Value.nilFunc] := by kernel_rfl
theorem ze59 : zeT Tryz.prog 59 = some [AV.lit (Value.slice none 0 0)] := by kernel_rfl
theorem ze60 : zeT Tryz.prog 60 = some [AV.str [], AV.lit (Value.int IntKind.i64 0), AV.str [], AV.lit (Value.int IntKind.i64 0), AV.lit (Value.slice none 0 0)] := by kernel_rfl
theorem ze61 : zeT Tryz.prog 61 = some [AV.str [], AV.lit (Value.int IntKind.i64 0), AV.str [], AV.lit (Value.int IntKind.i64 0), AV.lit (Value.slice none 0 0)] := by kernel_rfl
theorem ze62 : zeT Tryz.prog 62 = some [AV.lit (Value.tuple { toList := [Value.agg { toList := [Value.string { data := { toList := [] } }, Value.int IntKind.i64 0, Value.string { data := { toList := [] } }, Value.int IntKind.i64 0, Value.slice none 0 0] }, Value.bool false] })] := by kernel_rfl
theorem ze63 : zeT Tryz.prog 63 = some [AV.lit Value.nilFunc] := by kernel_rfl
theorem ze64 : zeT Tryz.prog 64 = some [AV.lit (Value.slice none 0 0)] := by kernel_rfl
theorem ze65 : zeT Tryz.prog 65 = some [AV.lit (Value.slice none 0 0)] := by kernel_rfl
theorem ze66 : zeT Tryz.prog 66 = some [AV.lit (Value.slice none 0 0)] := by kernel_rfl
theorem ze67 : zeT Tryz.prog 67 = some [AV.lit (Value.tuple { toList := [Value.agg { toList := [Value.slice none 0 0] }, Value.bool false] })] := by kernel_rfl
theorem ze68 : zeT Tryz.prog 68 = some [AV.lit Value.nilFunc] := by kernel_rfl
theorem ze69 : zeT Tryz.prog 69 = some [AV.str [], AV.lit (Value.int IntKind.i64 0), AV.str []] := by kernel_rfl
theorem ze70 : zeT Tryz.prog 70 = some [AV.str [], AV.lit (Value.int IntKind.i64 0), AV.str []] := by kernel_rfl
theorem ze71 : zeT Tryz.prog 71 = some [AV.str [], AV.lit (Value.slice none 0 0), AV.lit (Value.slice none 0 0), AV.str [], AV.lit (Value.int IntKind.i64 0), AV.str []] := by kernel_rfl
theorem ze72 : zeT Tryz.prog 72 = some [AV.str [], AV.lit (Value.slice none 0 0), AV.lit (Value.slice none 0 0), AV.str [], AV.lit (Value.int IntKind.i64 0), AV.str []] := by kernel_rfl
theorem ze73 : zeT Tryz.prog 73 = some [AV.str [], AV.lit (Value.slice none 0 0), AV.lit (Value.slice none 0 0), AV.str [], AV.lit (Value.int IntKind.i64 0), AV.str [], AV.lit (Value.int IntKind.i64 0), AV.lit (Value.int IntKind.i64 0)] := by kernel_rfl
theorem ze74 : zeT Tryz.prog 74 = some [AV.str [], AV.lit (Value.slice none 0 0), AV.lit (Value.slice none 0 0), AV.str [], AV.lit (Value.int IntKind.i64 0), AV.str [], AV.lit (Value.int IntKind.i64 0), AV.lit (Value.int IntKind.i64 0)] := by kernel_rfl
theorem ze75 : zeT Tryz.prog 75 = some [AV.lit Value.nilFunc] := by kernel_rfl
theorem ze76 : zeT Tryz.prog 76 = some [AV.lit Value.nilFunc] := by kernel_rfl
theorem ze77 : zeT Tryz.prog 77 = some [AV.lit (Value.int IntKind.i64 0), AV.str []] := by kernel_rfl
theorem ze78 : zeT Tryz.prog 78 = some [AV.lit (Value.int IntKind.i64 0), AV.str []] := by kernel_rfl
theorem ze79 : zeT Tryz.prog 79 = some [AV.lit (Value.int IntKind.u32 0)] := by kernel_rfl
theorem ze80 : zeT Tryz.prog 80 = some [AV.lit (Value.int IntKind.u32 0), AV.lit (Value.int IntKind.u32 0), AV.lit (Value.int IntKind.u32 0), AV.lit (Value.int IntKind.u32 0), AV.lit (Value.int IntKind.u32 0), AV.lit (Value.int IntKind.u32 0), AV.lit (Value.int IntKind.u32 0), AV.lit (Value.int IntKind.u32 0)] := by kernel_rfl
theorem ze81 : zeT Tryz.prog 81 = some [AV.lit Value.nilFunc] := by kernel_rfl
theorem ze82 : zeT Tryz.prog 82 = some (List.replicate 64 (AV.lit (Value.int IntKind.u32 0))) := by kernel_rfl
theorem ze83 : zeT Tryz.prog 83 = some [AV.lit Value.nilFunc] := by kernel_rfl
theorem ze84 : zeT Tryz.prog 84 = some [AV.lit Value.nilFunc] := by kernel_rfl
theorem ze85 : zeT Tryz.prog 85 = some [AV.lit (Value.int IntKind.u64 0)] := by kernel_rfl
theorem ze86 : zeT Tryz.prog 86 = some [AV.lit (Value.tuple { toList := [Value.agg { toList := [Value.int IntKind.i64 0, Value.string { data := { toList := [] } }] }, Value.int IntKind.i64 0, Value.int IntKind.i64 0] })] := by kernel_rfl
theorem ze87 : zeT Tryz.prog 87 = some [AV.lit Value.nilFunc] := by kernel_rfl
theorem ze88 : zeT Tryz.prog 88 = some [AV.lit Value.nilFunc] := by kernel_rfl
theorem ze89 : zeT Tryz.prog 89 = some [AV.lit (Value.pointer none)] := by kernel_rfl
theorem ze90 : zeT Tryz.prog 90 = some [AV.lit Value.nilFunc] := by kernel_rfl
theorem ze91 : zeT Tryz.prog 91 = some [AV.lit Value.nilFunc] := by kernel_rfl
theorem ze92 : zeT Tryz.prog 92 = some [AV.lit Value.nilFunc] := by kernel_rfl
theorem ze93 : zeT Tryz.prog 93 = some [AV.lit (Value.tuple { toList := [Value.string { data := { toList := [] } }, Value.bool false] })] := by kernel_rfl
theorem ze94 : zeT Tryz.prog 94 = some [AV.lit Value.nilFunc] := by kernel_rfl
theorem ze95 : zeT Tryz.prog 95 = some [AV.lit Value.nilFunc] := by kernel_rfl
theorem ze96 : zeT Tryz.prog 96 = some [AV.lit (Value.int IntKind.u64 0)] := by kernel_rfl
theorem ze97 : zeT Tryz.prog 97 = some [AV.lit Value.nilFunc] := by kernel_rfl
theorem ze98 : zeT Tryz.prog 98 = some [AV.lit Value.nilFunc] := by kernel_rfl
theorem ze99 : zeT Tryz.prog 99 = some [AV.str [], AV.lit (Value.int IntKind.i64 0)] := by kernel_rfl
theorem ze100 : zeT Tryz.prog 100 = some [AV.str [], AV.lit (Value.int IntKind.i64 0)] := by kernel_rfl
theorem ze101 : zeT Tryz.prog 101 = some [AV.lit (Value.tuple { toList := [Value.int IntKind.i64 0, Value.agg { toList := [Value.string { data := { toList := [] } }, Value.int IntKind.i64 0] }, Value.bool false] })] := by kernel_rfl
theorem ze102 : zeT Tryz.prog 102 = some [AV.lit Value.nilFunc] := by kernel_rfl
theorem ze103 : zeT Tryz.prog 103 = some [AV.lit Value.nilFunc] := by kernel_rfl
theorem ze104 : zeT Tryz.prog 104 = some [AV.lit Value.nilFunc] := by kernel_rfl
theorem ze105 : zeT Tryz.prog 105 = some [AV.lit Value.nilFunc] := by kernel_rfl
theorem ze106 : zeT Tryz.prog 106 = some [AV.str [], AV.lit (Value.int IntKind.i64 0)] := by kernel_rfl
theorem ze107 : zeT Tryz.prog 107 = some [AV.str [], AV.lit (Value.int IntKind.i64 0)] := by kernel_rfl
theorem ze108 : zeT Tryz.prog 108 = some [AV.lit Value.nilFunc] := by kernel_rfl
theorem ze109 : zeT Tryz.prog 109 = some [AV.lit (Value.int IntKind.i64 0), AV.str []] := by kernel_rfl
theorem ze110 : zeT Tryz.prog 110 = some [AV.lit (Value.int IntKind.i64 0), AV.str []] := by kernel_rfl
theorem ze111 : zeT Tryz.prog 111 = some [AV.lit Value.nilFunc] := by kernel_rfl
theorem ze112 : zeT Tryz.prog 112 = some [AV.lit Value.nilFunc] := by kernel_rfl
theorem ze113 : zeT Tryz.prog 113 = some [AV.lit (Value.map none)] := by kernel_rfl
theorem ze114 : zeT Tryz.prog 114 = some [AV.lit Value.nilFunc] := by kernel_rfl
theorem ze115 : zeT Tryz.prog 115 = some [AV.lit Value.nilFunc] := by kernel_rfl
theorem ze116 : zeT Tryz.prog 116 = some [AV.lit (Value.tuple { toList := [Value.int IntKind.u64 0, Value.int IntKind.u64 0] })] := by kernel_rfl
theorem ze117 : zeT Tryz.prog 117 = some [AV.lit Value.nilFunc] := by kernel_rfl
theorem ze118 : zeT Tryz.prog 118 = some [AV.lit (Value.pointer none)] := by kernel_rfl
theorem ze119 : zeT Tryz.prog 119 = some [AV.lit (Value.pointer none), AV.lit (Value.slice none 0 0)] := by kernel_rfl
theorem ze120 : zeT Tryz.prog 120 = some [AV.lit (Value.pointer none), AV.lit (Value.slice none 0 0)] := by kernel_rfl
theorem ze121 : zeT Tryz.prog 121 = some [AV.lit Value.nilFunc] := by kernel_rfl
theorem ze122 : zeT Tryz.prog 122 = some [AV.lit Value.nilIface] := by kernel_rfl
theorem ze123 : zeT Tryz.prog 123 = some [AV.lit Value.nilIface] := by kernel_rfl
theorem ze124 : zeT Tryz.prog 124 = some [AV.lit (Value.tuple { toList := [Value.int IntKind.i64 0, Value.nilIface] })] := by kernel_rfl
theorem ze125 : zeT Tryz.prog 125 = some [AV.lit Value.nilFunc] := by kernel_rfl
theorem ze126 : zeT Tryz.prog 126 = some [AV.lit (Value.tuple { toList := [Value.int IntKind.i64 0, Value.bool false] })] := by kernel_rfl
theorem ze127 : zeT Tryz.prog 127 = some [AV.lit Value.nilFunc] := by kernel_rfl
theorem ze128 : zeT Tryz.prog 128 = some [AV.lit (Value.map none)] := by kernel_rfl
theorem ze129 : zeT Tryz.prog 129 = some [AV.lit Value.nilFunc] := by kernel_rfl
theorem ze130 : zeT Tryz.prog 130 = some [AV.lit Value.nilFunc] := by kernel_rfl
theorem ze131 : zeT Tryz.prog 131 = some [AV.lit (Value.tuple { toList := [Value.int IntKind.u32 0, Value.int IntKind.u32 0] })] := by kernel_rfl
theorem ze132 : zeT Tryz.prog 132 = some [AV.lit Value.nilFunc] := by kernel_rfl
theorem ze133 : zeT Tryz.prog 133 = some [AV.lit (Value.tuple { toList := [Value.int IntKind.u64 0, Value.int IntKind.u64 0] })] := by kernel_rfl
theorem ze134 : zeT Tryz.prog 134 = some [AV.lit Value.nilFunc] := by kernel_rfl
theorem ze135 : zeT Tryz.prog 135 = some [AV.lit (Value.pointer none)] := by kernel_rfl
theorem ze136 : zeT Tryz.prog 136 = some [AV.lit Value.nilFunc] := by kernel_rfl
theorem ze137 : zeT Tryz.prog 137 = some [AV.lit (Value.slice none 0 0)] := by kernel_rfl
theorem ze138 : zeT Tryz.prog 138 = some [AV.lit (Value.int IntKind.i64 0), AV.lit (Value.slice none 0 0)] := by kernel_rfl
theorem ze139 : zeT Tryz.prog 139 = some [AV.lit (Value.int IntKind.i64 0), AV.lit (Value.slice none 0 0)] := by kernel_rfl
theorem ze140 : zeT Tryz.prog 140 = some [AV.lit (Value.slice none 0 0)] := by kernel_rfl
theorem ze141 : zeT Tryz.prog 141 = some [AV.lit (Value.int IntKind.i64 0), AV.lit (Value.int IntKind.i64 0), AV.str [], AV.str [], AV.lit (Value.int IntKind.i64 0), AV.str [], AV.lit (Value.int IntKind.i64 0), AV.lit (Value.slice none 0 0), AV.lit (Value.slice none 0 0), AV.lit (Value.int IntKind.i64 0), AV.lit (Value.slice none 0 0), AV.lit (Value.slice none 0 0), AV.lit (Value.int IntKind.i64 0), AV.lit (Value.slice none 0 0), AV.lit (Value.slice none 0 0), AV.lit (Value.slice none 0 0), AV.lit (Value.slice none 0 0), AV.lit (Value.slice none 0 0), AV.str []] := by kernel_rfl
theorem ze142 : zeT Tryz.prog 142 = some [AV.lit (Value.int IntKind.i64 0), AV.lit (Value.int IntKind.i64 0), AV.str [], AV.str [], AV.lit (Value.int IntKind.i64 0), AV.str [], AV.lit (Value.int IntKind.i64 0), AV.lit (Value.slice none 0 0), AV.lit (Value.slice none 0 0), AV.lit (Value.int IntKind.i64 0), AV.lit (Value.slice none 0 0), AV.lit (Value.slice none 0 0), AV.lit (Value.int IntKind.i64 0), AV.lit (Value.slice none 0 0), AV.lit (Value.slice none 0 0), AV.lit (Value.slice none 0 0), AV.lit (Value.slice none 0 0), AV.lit (Value.slice none 0 0), AV.str []] := by kernel_rfl
theorem ze143 : zeT Tryz.prog 143 = some [AV.lit (Value.tuple { toList := [Value.agg { toList := [Value.int IntKind.i64 0, Value.int IntKind.i64 0, Value.string { data := { toList := [] } }, Value.string { data := { toList := [] } }, Value.int IntKind.i64 0, Value.string { data := { toList := [] } }, Value.int IntKind.i64 0, Value.slice none 0 0, Value.slice none 0 0, Value.int IntKind.i64 0, Value.slice none 0 0, Value.slice none 0 0, Value.int IntKind.i64 0, Value.slice none 0 0, Value.slice none 0 0, Value.slice none 0 0, Value.slice none 0 0, Value.slice none 0 0, Value.string { data := { toList := [] } }] }, Value.int IntKind.i64 0] })] := by kernel_rfl
theorem ze144 : zeT Tryz.prog 144 = some [AV.lit Value.nilFunc] := by kernel_rfl
theorem ze145 : zeT Tryz.prog 145 = some [AV.lit (Value.pointer none)] := by kernel_rfl
theorem ze146 : zeT Tryz.prog 146 = some [AV.lit Value.nilFunc] := by kernel_rfl
theorem ze147 : zeT Tryz.prog 147 = some [AV.lit Value.nilFunc] := by kernel_rfl
theorem ze148 : zeT Tryz.prog 148 = some (List.replicate 256 (AV.lit (Value.int IntKind.u8 0))) := by kernel_rfl
theorem ze149 : zeT Tryz.prog 149 = some [AV.lit Value.nilFunc] := by kernel_rfl
theorem ze150 : zeT Tryz.prog 150 = some [AV.lit (Value.slice none 0 0)] := by kernel_rfl
theorem ze151 : zeT Tryz.prog 151 = some [AV.lit (Value.int IntKind.i64 0), AV.lit (Value.bool false), AV.lit (Value.int IntKind.i64 0), AV.str [], AV.lit (Value.slice none 0 0), AV.lit (Value.slice none 0 0)] := by kernel_rfl
theorem ze152 : zeT Tryz.prog 152 = some [AV.lit (Value.int IntKind.i64 0), AV.lit (Value.bool false), AV.lit (Value.int IntKind.i64 0), AV.str [], AV.lit (Value.slice none 0 0), AV.lit (Value.slice none 0 0)] := by kernel_rfl
theorem ze153 : zeT Tryz.prog 153 = some [AV.str [], AV.lit (Value.int IntKind.i64 0), AV.lit (Value.int IntKind.i64 0), AV.lit (Value.int IntKind.i64 0), AV.lit (Value.int IntKind.i64 0)] := by kernel_rfl
theorem ze154 : zeT Tryz.prog 154 = some [AV.str [], AV.lit (Value.int IntKind.i64 0), AV.lit (Value.int IntKind.i64 0), AV.lit (Value.int IntKind.i64 0), AV.lit (Value.int IntKind.i64 0)] := by kernel_rfl
theorem ze155 : zeT Tryz.prog 155 = some [AV.lit (Value.tuple { toList := [Value.agg { toList := [Value.int IntKind.i64 0, Value.bool false, Value.int IntKind.i64 0, Value.string { data := { toList := [] } }, Value.slice none 0 0, Value.slice none 0 0] }, Value.agg { toList := [Value.string { data := { toList := [] } }, Value.int IntKind.i64 0, Value.int IntKind.i64 0, Value.int IntKind.i64 0, Value.int IntKind.i64 0] }, Value.int IntKind.i64 0] })] := by kernel_rfl
theorem ze156 : zeT Tryz.prog 156 = some [AV.lit Value.nilFunc] := by kernel_rfl
theorem ze157 : zeT Tryz.prog 157 = some [AV.lit Value.nilFunc] := by kernel_rfl
theorem ze158 : zeT Tryz.prog 158 = some [AV.lit Value.nilFunc] := by kernel_rfl
theorem ze159 : zeT Tryz.prog 159 = some [AV.lit (Value.int IntKind.i64 0), AV.lit (Value.bool false), AV.lit (Value.int IntKind.i64 0), AV.str [], AV.lit (Value.slice none 0 0), AV.lit (Value.slice none 0 0)] := by kernel_rfl
theorem ze160 : zeT Tryz.prog 160 = some [AV.lit (Value.int IntKind.i64 0), AV.lit (Value.bool false), AV.lit (Value.int IntKind.i64 0), AV.str [], AV.lit (Value.slice none 0 0), AV.lit (Value.slice none 0 0)] := by kernel_rfl
theorem ze161 : zeT Tryz.prog 161 = some [AV.lit (Value.tuple { toList := [Value.agg { toList := [Value.int IntKind.i64 0, Value.bool false, Value.int IntKind.i64 0, Value.string { data := { toList := [] } }, Value.slice none 0 0, Value.slice none 0 0] }, Value.string { data := { toList := [] } }, Value.int IntKind.i64 0] })] := by kernel_rfl
theorem ze162 : zeT Tryz.prog 162 = some [AV.lit Value.nilFunc] := by kernel_rfl
theorem ze163 : zeT Tryz.prog 163 = some [AV.lit Value.nilFunc] := by kernel_rfl
theorem ze164 : zeT Tryz.prog 164 = some [AV.lit Value.nilFunc] := by kernel_rfl
theorem ze165 : zeT Tryz.prog 165 = some [AV.lit Value.nilFunc] := by kernel_rfl
theorem ze166 : zeT Tryz.prog 166 = some [AV.lit Value.nilFunc] := by kernel_rfl
theorem ze167 : zeT Tryz.prog 167 = some [AV.lit Value.nilFunc] := by kernel_rfl
theorem ze168 : zeT Tryz.prog 168 = some [AV.lit (Value.tuple { toList := [Value.agg { toList := [Value.string { data := { toList := [] } }, Value.int IntKind.i64 0, Value.int IntKind.i64 0, Value.int IntKind.i64 0, Value.int IntKind.i64 0] }, Value.int IntKind.i64 0, Value.int IntKind.i64 0] })] := by kernel_rfl
theorem ze169 : zeT Tryz.prog 169 = some [AV.lit Value.nilFunc] := by kernel_rfl
theorem ze170 : zeT Tryz.prog 170 = some [AV.lit Value.nilFunc] := by kernel_rfl
theorem ze171 : zeT Tryz.prog 171 = some [AV.lit (Value.tuple { toList := [Value.agg { toList := [Value.int IntKind.i64 0, Value.bool false, Value.int IntKind.i64 0, Value.string { data := { toList := [] } }, Value.slice none 0 0, Value.slice none 0 0] }, Value.int IntKind.i64 0] })] := by kernel_rfl
theorem ze172 : zeT Tryz.prog 172 = some [AV.lit Value.nilFunc] := by kernel_rfl
theorem ze173 : zeT Tryz.prog 173 = some [AV.lit (Value.tuple { toList := [Value.agg { toList := [Value.int IntKind.i64 0, Value.bool false, Value.int IntKind.i64 0, Value.string { data := { toList := [] } }, Value.slice none 0 0, Value.slice none 0 0] }, Value.bool false] })] := by kernel_rfl
theorem ze174 : zeT Tryz.prog 174 = some [AV.lit Value.nilFunc] := by kernel_rfl
theorem ze175 : zeT Tryz.prog 175 = some [AV.lit Value.nilFunc] := by kernel_rfl
theorem ze176 : zeT Tryz.prog 176 = some [AV.lit Value.nilFunc] := by kernel_rfl
theorem ze177 : zeT Tryz.prog 177 = some [AV.lit Value.nilFunc] := by kernel_rfl
theorem ze178 : zeT Tryz.prog 178 = some [AV.lit Value.nilFunc] := by kernel_rfl
theorem ze179 : zeT Tryz.prog 179 = some [AV.lit Value.nilFunc] := by kernel_rfl
theorem ze180 : zeT Tryz.prog 180 = some [AV.lit Value.nilFunc] := by kernel_rfl
theorem ze181 : zeT Tryz.prog 181 = some [AV.lit Value.nilFunc] := by kernel_rfl
theorem ze182 : zeT Tryz.prog 182 = some [AV.lit Value.nilFunc] := by kernel_rfl
theorem ze183 : zeT Tryz.prog 183 = some [AV.lit Value.nilFunc] := by kernel_rfl
theorem ze184 : zeT Tryz.prog 184 = some [AV.lit Value.nilFunc] := by kernel_rfl
theorem ze185 : zeT Tryz.prog 185 = some [AV.lit (Value.pointer none)] := by kernel_rfl
theorem ze186 : zeT Tryz.prog 186 = some [AV.lit Value.nilFunc] := by kernel_rfl
theorem ze187 : zeT Tryz.prog 187 = some [AV.lit Value.nilFunc] := by kernel_rfl
theorem ze188 : zeT Tryz.prog 188 = some [AV.lit Value.nilFunc] := by kernel_rfl
theorem ze189 : zeT Tryz.prog 189 = some [AV.lit Value.nilFunc] := by kernel_rfl
theorem ze190 : zeT Tryz.prog 190 = some [AV.lit Value.nilFunc] := by kernel_rfl
theorem ze191 : zeT Tryz.prog 191 = some [AV.lit Value.nilFunc] := by kernel_rfl
theorem ze192 : zeT Tryz.prog 192 = some [AV.lit Value.nilFunc] := by kernel_rfl
theorem ze193 : zeT Tryz.prog 193 = some [AV.lit (Value.int IntKind.i64 0), AV.lit (Value.bool false), AV.lit (Value.int IntKind.i64 0), AV.str [], AV.lit (Value.slice none 0 0), AV.lit (Value.slice none 0 0)] := by kernel_rfl
theorem ze194 : zeT Tryz.prog 194 = some [AV.lit Value.nilFunc] := by kernel_rfl
theorem ze195 : zeT Tryz.prog 195 = some [AV.lit Value.nilFunc] := by kernel_rfl
theorem ze196 : zeT Tryz.prog 196 = some [AV.lit Value.nilFunc] := by kernel_rfl
theorem ze197 : zeT Tryz.prog 197 = some [AV.lit (Value.tuple { toList := [Value.agg { toList := [Value.string { data := { toList := [] } }, Value.int IntKind.i64 0, Value.int IntKind.i64 0, Value.int IntKind.i64 0, Value.int IntKind.i64 0] }, Value.int IntKind.i64 0] })] := by kernel_rfl
theorem ze198 : zeT Tryz.prog 198 = some [AV.lit Value.nilFunc] := by kernel_rfl
theorem ze199 : zeT Tryz.prog 199 = some [AV.lit Value.nilFunc] := by kernel_rfl
theorem ze200 : zeT Tryz.prog 200 = some [AV.lit Value.nilFunc] := by kernel_rfl
theorem ze201 : zeT Tryz.prog 201 = some [AV.lit (Value.map none)] := by kernel_rfl
theorem ze202 : zeT Tryz.prog 202 = some [AV.lit Value.nilFunc] := by kernel_rfl
theorem ze203 : zeT Tryz.prog 203 = some [AV.lit Value.nilFunc] := by kernel_rfl
theorem ze204 : zeT Tryz.prog 204 = some [AV.lit Value.nilFunc] := by kernel_rfl
theorem ze205 : zeT Tryz.prog 205 = some [AV.lit Value.nilFunc, AV.lit Value.nilFunc] := by kernel_rfl
theorem ze206 : zeT Tryz.prog 206 = some [AV.lit Value.nilFunc, AV.lit Value.nilFunc] := by kernel_rfl
theorem ze207 : zeT Tryz.prog 207 = some [AV.lit (Value.tuple { toList := [Value.agg { toList := [Value.nilFunc, Value.nilFunc] }, Value.bool false] })] := by kernel_rfl
theorem ze208 : zeT Tryz.prog 208 = some [AV.lit (Value.map none)] := by kernel_rfl
theorem ze209 : zeT Tryz.prog 209 = some [AV.lit Value.nilFunc] := by kernel_rfl
theorem ze210 : zeT Tryz.prog 210 = some [AV.lit Value.nilFunc] := by kernel_rfl
theorem ze211 : zeT Tryz.prog 211 = some [AV.lit Value.nilFunc] := by kernel_rfl
theorem ze212 : zeT Tryz.prog 212 = some [AV.lit Value.nilFunc] := by kernel_rfl
theorem ze213 : zeT Tryz.prog 213 = some [AV.lit Value.nilFunc] := by kernel_rfl
theorem ze214 : zeT Tryz.prog 214 = some [AV.lit Value.nilFunc] := by kernel_rfl
theorem ze215 : zeT Tryz.prog 215 = some [AV.lit Value.nilFunc] := by kernel_rfl
theorem ze216 : zeT Tryz.prog 216 = some [AV.lit Value.nilFunc] := by kernel_rfl
theorem ze217 : zeT Tryz.prog 217 = some [AV.lit (Value.tuple { toList := [Value.agg { toList := [Value.int IntKind.i64 0, Value.slice none 0 0] }, Value.int IntKind.i64 0] })] := by kernel_rfl
theorem ze218 : zeT Tryz.prog 218 = some [AV.lit Value.nilFunc] := by kernel_rfl
theorem ze219 : zeT Tryz.prog 219 = some [AV.lit (Value.tuple { toList := [Value.slice none 0 0, Value.bool false] })] := by kernel_rfl
theorem ze220 : zeT Tryz.prog 220 = some [AV.lit Value.nilFunc] := by kernel_rfl
theorem ze221 : zeT Tryz.prog 221 = some [AV.lit Value.nilFunc] := by kernel_rfl
theorem ze222 : zeT Tryz.prog 222 = some [AV.lit Value.nilFunc] := by kernel_rfl
theorem ze223 : zeT Tryz.prog 223 = some [AV.lit Value.nilFunc] := by kernel_rfl
theorem ze224 : zeT Tryz.prog 224 = some [AV.lit Value.nilFunc] := by kernel_rfl
theorem ze225 : zeT Tryz.prog 225 = some [AV.lit Value.nilFunc] := by kernel_rfl
theorem ze226 : zeT Tryz.prog 226 = some [AV.lit Value.nilFunc] := by kernel_rfl
theorem ze227 : zeT Tryz.prog 227 = some [AV.lit Value.nilFunc] := by kernel_rfl
theorem ze228 : zeT Tryz.prog 228 = some [AV.lit Value.nilFunc] := by kernel_rfl
theorem ze229 : zeT Tryz.prog 229 = some [AV.lit Value.nilFunc] := by kernel_rfl
theorem ze230 : zeT Tryz.prog 230 = some [AV.lit Value.nilFunc] := by kernel_rfl
theorem ze231 : zeT Tryz.prog 231 = some [AV.lit Value.nilFunc] := by kernel_rfl
theorem ze232 : zeT Tryz.prog 232 = some [AV.lit Value.nilFunc] := by kernel_rfl
theorem ze233 : zeT Tryz.prog 233 = some [AV.lit Value.nilFunc] := by kernel_rfl
theorem ze234 : zeT Tryz.prog 234 = some [AV.lit Value.nilFunc] := by kernel_rfl
theorem ze235 : zeT Tryz.prog 235 = some [AV.lit Value.nilFunc] := by kernel_rfl
theorem ze236 : zeT Tryz.prog 236 = some [AV.lit Value.nilFunc] := by kernel_rfl
theorem ze237 : zeT Tryz.prog 237 = some [AV.lit Value.nilFunc] := by kernel_rfl
theorem ze238 : zeT Tryz.prog 238 = some [AV.lit (Value.tuple { toList := [Value.int IntKind.i64 0, Value.nilIface] })] := by kernel_rfl
theorem ze239 : zeT Tryz.prog 239 = some [AV.lit Value.nilFunc] := by kernel_rfl
theorem ze240 : zeT Tryz.prog 240 = some [AV.lit (Value.tuple { toList := [Value.agg { toList := [Value.int IntKind.i64 0, Value.slice none 0 0] }, Value.bool false] })] := by kernel_rfl
theorem ze241 : zeT Tryz.prog 241 = some [AV.lit Value.nilFunc] := by kernel_rfl
theorem ze242 : zeT Tryz.prog 242 = some [AV.lit Value.nilFunc] := by kernel_rfl
theorem ze243 : zeT Tryz.prog 243 = some [AV.lit Value.nilFunc] := by kernel_rfl
theorem ze244 : zeT Tryz.prog 244 = some [AV.lit (Value.slice none 0 0)] := by kernel_rfl
theorem ze245 : zeT Tryz.prog 245 = some [AV.lit Value.nilFunc] := by kernel_rfl
theorem ze246 : zeT Tryz.prog 246 = some [AV.lit Value.nilFunc] := by kernel_rfl
theorem ze247 : zeT Tryz.prog 247 = some [AV.lit Value.nilFunc] := by kernel_rfl
theorem ze248 : zeT Tryz.prog 248 = some [AV.lit (Value.slice none 0 0)] := by kernel_rfl
theorem ze249 : zeT Tryz.prog 249 = some [AV.lit Value.nilFunc] := by kernel_rfl
theorem ze250 : zeT Tryz.prog 250 = some [AV.lit Value.nilFunc] := by kernel_rfl
theorem ze251 : zeT Tryz.prog 251 = some [AV.lit Value.nilFunc] := by kernel_rfl
theorem ze255 : zeT Tryz.prog 255 = some [AV.lit Value.nilFunc] := by kernel_rfl
theorem ze256 : zeT Tryz.prog 256 = some [AV.lit Value.nilFunc] := by kernel_rfl
theorem ze257 : zeT Tryz.prog 257 = some [AV.lit (Value.pointer none)] := by kernel_rfl
theorem ze258 : zeT Tryz.prog 258 = some [AV.lit Value.nilFunc] := by kernel_rfl
theorem ze259 : zeT Tryz.prog 259 = some [AV.lit (Value.tuple { toList := [Value.int IntKind.u64 0, Value.nilIface] })] := by kernel_rfl
theorem ze260 : zeT Tryz.prog 260 = some [AV.lit Value.nilFunc] := by kernel_rfl
theorem ze261 : zeT Tryz.prog 261 = some [AV.lit Value.nilFunc] := by kernel_rfl
theorem ze262 : zeT Tryz.prog 262 = some [AV.lit Value.nilFunc] := by kernel_rfl
theorem ze263 : zeT Tryz.prog 263 = some [AV.lit (Value.pointer none)] := by kernel_rfl
theorem ze264 : zeT Tryz.prog 264 = some [AV.str [], AV.lit (Value.bool false)] := by kernel_rfl
theorem ze265 : zeT Tryz.prog 265 = some [AV.str [], AV.lit (Value.bool false)] := by kernel_rfl
theorem ze266 : zeT Tryz.prog 266 = some [AV.str [], AV.lit (Value.bool false)] := by kernel_rfl
theorem ze267 : zeT Tryz.prog 267 = some [AV.str [], AV.lit (Value.bool false)] := by kernel_rfl
theorem ze268 : zeT Tryz.prog 268 = some [AV.lit Value.nilFunc] := by kernel_rfl
theorem ze269 : zeT Tryz.prog 269 = some [AV.lit Value.nilFunc] := by kernel_rfl
theorem ze270 : zeT Tryz.prog 270 = some [AV.lit (Value.pointer none)] := by kernel_rfl
theorem ze271 : zeT Tryz.prog 271 = some [AV.lit (Value.pointer none)] := by kernel_rfl
theorem ze272 : zeT Tryz.prog 272 = some [AV.str [], AV.lit (Value.bool false)] := by kernel_rfl
theorem ze273 : zeT Tryz.prog 273 = some [AV.lit (Value.pointer none)] := by kernel_rfl
theorem ze274 : zeT Tryz.prog 274 = some [AV.str [], AV.lit (Value.bool false)] := by kernel_rfl
theorem ze275 : zeT Tryz.prog 275 = some [AV.lit (Value.tuple { toList := [Value.agg { toList := [Value.string { data := { toList := [] } }, Value.int IntKind.i64 0] }, Value.bool false] })] := by kernel_rfl
theorem ze276 : zeT Tryz.prog 276 = some [AV.lit Value.nilFunc] := by kernel_rfl
theorem ze277 : zeT Tryz.prog 277 = some [AV.lit Value.nilFunc] := by kernel_rfl
theorem ze278 : zeT Tryz.prog 278 = some [AV.lit Value.nilFunc] := by kernel_rfl
theorem ze279 : zeT Tryz.prog 279 = some [AV.lit Value.nilFunc] := by kernel_rfl
theorem ze280 : zeT Tryz.prog 280 = some [AV.lit (Value.int IntKind.u32 0), AV.lit (Value.int IntKind.u32 0), AV.lit (Value.int IntKind.u32 0), AV.lit (Value.int IntKind.u32 0), AV.lit (Value.int IntKind.u32 0), AV.lit (Value.int IntKind.u32 0), AV.lit (Value.int IntKind.u32 0), AV.lit (Value.int IntKind.u32 0)] := by kernel_rfl
theorem ze281 : zeT Tryz.prog 281 = some [AV.lit Value.nilFunc] := by kernel_rfl
theorem ze282 : zeT Tryz.prog 282 = some [AV.lit (Value.pointer none)] := by kernel_rfl
theorem ze283 : zeT Tryz.prog 283 = some [AV.lit Value.nilFunc] := by kernel_rfl
theorem ze284 : zeT Tryz.prog 284 = some [AV.lit Value.nilFunc] := by kernel_rfl
theorem ze285 : zeT Tryz.prog 285 = some [AV.lit (Value.int IntKind.u8 0), AV.lit (Value.int IntKind.u8 0), AV.lit (Value.int IntKind.u8 0), AV.lit (Value.int IntKind.u8 0), AV.lit (Value.int IntKind.u8 0), AV.lit (Value.int IntKind.u8 0), AV.lit (Value.int IntKind.u8 0), AV.lit (Value.int IntKind.u8 0), AV.lit (Value.int IntKind.u8 0), AV.lit (Value.int IntKind.u8 0), AV.lit (Value.int IntKind.u8 0), AV.lit (Value.int IntKind.u8 0), AV.lit (Value.int IntKind.u8 0), AV.lit (Value.int IntKind.u8 0), AV.lit (Value.int IntKind.u8 0), AV.lit (Value.int IntKind.u8 0), AV.lit (Value.int IntKind.u8 0), AV.lit (Value.int IntKind.u8 0), AV.lit (Value.int IntKind.u8 0), AV.lit (Value.int IntKind.u8 0), AV.lit (Value.int IntKind.u8 0), AV.lit (Value.int IntKind.u8 0), AV.lit (Value.int IntKind.u8 0), AV.lit (Value.int IntKind.u8 0), AV.lit (Value.int IntKind.u8 0), AV.lit (Value.int IntKind.u8 0), AV.lit (Value.int IntKind.u8 0), AV.lit (Value.int IntKind.u8 0), AV.lit (Value.int IntKind.u8 0), AV.lit (Value.int IntKind.u8 0), AV.lit (Value.int IntKind.u8 0), AV.lit (Value.int IntKind.u8 0)] := by kernel_rfl
theorem ze286 : zeT Tryz.prog 286 = some [AV.lit Value.nilFunc] := by kernel_rfl
theorem ze287 : zeT Tryz.prog 287 = some [AV.lit (Value.tuple { toList := [Value.slice none 0 0, Value.bool false] })] := by kernel_rfl
theorem ze288 : zeT Tryz.prog 288 = some [AV.lit Value.nilFunc] := by kernel_rfl
theorem ze289 : zeT Tryz.prog 289 = some [AV.lit Value.nilFunc] := by kernel_rfl
theorem ze290 : zeT Tryz.prog 290 = some [AV.lit (Value.int IntKind.i64 0), AV.lit (Value.int IntKind.i64 0)] := by kernel_rfl
theorem ze291 : zeT Tryz.prog 291 = some [AV.lit (Value.int IntKind.i64 0), AV.lit (Value.int IntKind.i64 0)] := by kernel_rfl
theorem ze292 : zeT Tryz.prog 292 = some [AV.lit Value.nilFunc] := by kernel_rfl
theorem ze293 : zeT Tryz.prog 293 = some [AV.lit (Value.int IntKind.u8 0), AV.lit (Value.int IntKind.u8 0), AV.lit (Value.int IntKind.u8 0), AV.lit (Value.int IntKind.u8 0), AV.lit (Value.int IntKind.u8 0), AV.lit (Value.int IntKind.u8 0), AV.lit (Value.int IntKind.u8 0), AV.lit (Value.int IntKind.u8 0), AV.lit (Value.int IntKind.u8 0), AV.lit (Value.int IntKind.u8 0), AV.lit (Value.int IntKind.u8 0), AV.lit (Value.int IntKind.u8 0), AV.lit (Value.int IntKind.u8 0), AV.lit (Value.int IntKind.u8 0), AV.lit (Value.int IntKind.u8 0), AV.lit (Value.int IntKind.u8 0), AV.lit (Value.int IntKind.u8 0), AV.lit (Value.int IntKind.u8 0), AV.lit (Value.int IntKind.u8 0), AV.lit (Value.int IntKind.u8 0), AV.lit (Value.int IntKind.u8 0), AV.lit (Value.int IntKind.u8 0), AV.lit (Value.int IntKind.u8 0), AV.lit (Value.int IntKind.u8 0)] := by kernel_rfl
theorem ze294 : zeT Tryz.prog 294 = some [AV.lit Value.nilFunc] := by kernel_rfl
theorem ze295 : zeT Tryz.prog 295 = some [AV.lit Value.nilFunc] := by kernel_rfl
theorem ze296 : zeT Tryz.prog 296 = some [AV.lit (Value.tuple { toList := [Value.slice none 0 0, Value.string { data := { toList := [] } }] })] := by kernel_rfl
theorem ze297 : zeT Tryz.prog 297 = some [AV.lit Value.nilFunc] := by kernel_rfl
theorem ze298 : zeT Tryz.prog 298 = some [AV.lit Value.nilFunc] := by kernel_rfl
theorem ze299 : zeT Tryz.prog 299 = some [AV.lit Value.nilFunc] := by kernel_rfl
theorem ze300 : zeT Tryz.prog 300 = some [AV.lit Value.nilFunc] := by kernel_rfl
theorem ze301 : zeT Tryz.prog 301 = some [AV.lit Value.nilFunc] := by kernel_rfl
theorem ze302 : zeT Tryz.prog 302 = some [AV.lit Value.nilFunc] := by kernel_rfl
theorem ze303 : zeT Tryz.prog 303 = some [AV.lit (Value.tuple { toList := [Value.int IntKind.i32 0, Value.int IntKind.i64 0] })] := by kernel_rfl
theorem ze304 : zeT Tryz.prog 304 = some [AV.lit Value.nilFunc] := by kernel_rfl
theorem ze305 : zeT Tryz.prog 305 = some [AV.lit Value.nilFunc] := by kernel_rfl
theorem ze306 : zeT Tryz.prog 306 = some [AV.lit Value.nilFunc] := by kernel_rfl
theorem ze307 : zeT Tryz.prog 307 = some [AV.lit Value.nilFunc] := by kernel_rfl
theorem ze308 : zeT Tryz.prog 308 = some [AV.lit Value.nilFunc] := by kernel_rfl
theorem ze309 : zeT Tryz.prog 309 = some [AV.lit Value.nilFunc] := by kernel_rfl
theorem ze310 : zeT Tryz.prog 310 = some [AV.lit Value.nilFunc] := by kernel_rfl
theorem ze311 : zeT Tryz.prog 311 = some [AV.lit Value.nilFunc] := by kernel_rfl
theorem ze312 : zeT Tryz.prog 312 = some [AV.lit Value.nilFunc] := by kernel_rfl
theorem ze313 : zeT Tryz.prog 313 = some [AV.lit Value.nilFunc] := by kernel_rfl
theorem ze314 : zeT Tryz.prog 314 = some [AV.lit Value.nilFunc] := by kernel_rfl
theorem ze315 : zeT Tryz.prog 315 = some [AV.lit Value.nilFunc] := by kernel_rfl
theorem ze316 : zeT Tryz.prog 316 = some [AV.lit (Value.tuple { toList := [Value.int IntKind.i64 0, Value.int IntKind.u64 0] })] := by kernel_rfl
theorem ze317 : zeT Tryz.prog 317 = some [AV.lit Value.nilFunc] := by kernel_rfl
theorem ze318 : zeT Tryz.prog 318 = some [AV.lit Value.nilFunc] := by kernel_rfl
theorem ze319 : zeT Tryz.prog 319 = some [AV.lit Value.nilFunc] := by kernel_rfl
theorem ze320 : zeT Tryz.prog 320 = some [AV.lit Value.nilFunc] := by kernel_rfl
theorem ze321 : zeT Tryz.prog 321 = some [AV.lit Value.nilFunc] := by kernel_rfl
theorem ze322 : zeT Tryz.prog 322 = some [AV.lit Value.nilFunc] := by kernel_rfl
theorem ze323 : zeT Tryz.prog 323 = some [AV.lit Value.nilFunc] := by kernel_rfl
theorem ze324 : zeT Tryz.prog 324 = some [AV.lit Value.nilFunc] := by kernel_rfl
theorem ze325 : zeT Tryz.prog 325 = some [AV.lit Value.nilFunc] := by kernel_rfl
theorem ze326 : zeT Tryz.prog 326 = some [AV.lit (Value.pointer none)] := by kernel_rfl
theorem ze327 : zeT Tryz.prog 327 = some [AV.lit (Value.int IntKind.i64 0)] := by kernel_rfl
theorem ze328 : zeT Tryz.prog 328 = some [AV.lit (Value.pointer none)] := by kernel_rfl
theorem ze329 : zeT Tryz.prog 329 = some [AV.lit Value.nilFunc] := by kernel_rfl
theorem ze330 : zeT Tryz.prog 330 = some [AV.lit Value.nilFunc] := by kernel_rfl
theorem ze331 : zeT Tryz.prog 331 = some [AV.lit Value.nilFunc] := by kernel_rfl
theorem ze332 : zeT Tryz.prog 332 = some [AV.lit Value.nilFunc] := by kernel_rfl
theorem ze333 : zeT Tryz.prog 333 = some [AV.lit Value.nilFunc] := by kernel_rfl
theorem ze334 : zeT Tryz.prog 334 = some [AV.lit (Value.int IntKind.u64 0), AV.lit (Value.int IntKind.u64 0), AV.lit (Value.int IntKind.u64 0), AV.lit (Value.int IntKind.u64 0), AV.lit (Value.int IntKind.u64 0), AV.lit (Value.int IntKind.u64 0), AV.lit (Value.int IntKind.u64 0), AV.lit (Value.int IntKind.u64 0), AV.lit (Value.int IntKind.u64 0), AV.lit (Value.int IntKind.u64 0), AV.lit (Value.int IntKind.u64 0), AV.lit (Value.int IntKind.u64 0), AV.lit (Value.int IntKind.u64 0), AV.lit (Value.int IntKind.u64 0), AV.lit (Value.int IntKind.u64 0), AV.lit (Value.int IntKind.u64 0), AV.lit (Value.int IntKind.u64 0), AV.lit (Value.int IntKind.u64 0), AV.lit (Value.int IntKind.u64 0), AV.lit (Value.int IntKind.u64 0)] := by kernel_rfl
theorem ze336 : zeT Tryz.prog 336 = some [AV.lit Value.nilFunc] := by kernel_rfl
theorem ze337 : zeT Tryz.prog 337 = some [AV.lit Value.nilFunc] := by kernel_rfl
theorem ze338 : zeT Tryz.prog 338 = some [AV.lit Value.nilFunc] := by kernel_rfl
theorem ze339 : zeT Tryz.prog 339 = some [AV.lit Value.nilFunc] := by kernel_rfl
theorem ze340 : zeT Tryz.prog 340 = some [AV.lit (Value.map none)] := by kernel_rfl
theorem ze341 : zeT Tryz.prog 341 = some [AV.lit Value.nilFunc] := by kernel_rfl
theorem ze342 : zeT Tryz.prog 342 = some [AV.lit (Value.tuple { toList := [Value.int IntKind.u8 0, Value.bool false] })] := by kernel_rfl
theorem ze343 : zeT Tryz.prog 343 = some [AV.lit Value.nilFunc] := by kernel_rfl
theorem ze344 : zeT Tryz.prog 344 = some [AV.lit Value.nilFunc] := by kernel_rfl
theorem ze345 : zeT Tryz.prog 345 = some [AV.lit Value.nilFunc] := by kernel_rfl
theorem ze346 : zeT Tryz.prog 346 = some [AV.lit Value.nilFunc] := by kernel_rfl
theorem ze347 : zeT Tryz.prog 347 = some [AV.lit (Value.int IntKind.i8 0)] := by kernel_rfl
theorem ze348 : zeT Tryz.prog 348 = some [AV.lit (Value.map none)] := by kernel_rfl
theorem ze349 : zeT Tryz.prog 349 = some [AV.lit Value.nilFunc] := by kernel_rfl
theorem ze350 : zeT Tryz.prog 350 = some [AV.lit Value.nilFunc] := by kernel_rfl
theorem ze351 : zeT Tryz.prog 351 = some [AV.lit Value.nilFunc] := by kernel_rfl
theorem ze352 : zeT Tryz.prog 352 = some [AV.str [], AV.str [], AV.lit Value.nilIface] := by kernel_rfl
theorem ze353 : zeT Tryz.prog 353 = some [AV.str [], AV.str [], AV.lit Value.nilIface] := by kernel_rfl
theorem ze354 : zeT Tryz.prog 354 = some [AV.lit Value.nilFunc] := by kernel_rfl
theorem ze355 : zeT Tryz.prog 355 = some [AV.lit (Value.tuple { toList := [Value.string { data := { toList := [] } }, Value.string { data := { toList := [] } }, Value.bool false] })] := by kernel_rfl
theorem ze356 : zeT Tryz.prog 356 = some [AV.lit Value.nilFunc] := by kernel_rfl
theorem ze357 : zeT Tryz.prog 357 = some [AV.lit Value.nilFunc] := by kernel_rfl
theorem ze358 : zeT Tryz.prog 358 = some [AV.lit (Value.int IntKind.u8 0), AV.lit (Value.int IntKind.u8 0)] := by kernel_rfl
theorem ze359 : zeT Tryz.prog 359 = some [AV.lit (Value.int IntKind.u8 0), AV.lit (Value.int IntKind.u8 0)] := by kernel_rfl
theorem ze360 : zeT Tryz.prog 360 = some [AV.lit (Value.int IntKind.u8 0), AV.lit (Value.int IntKind.u8 0), AV.lit (Value.int IntKind.u8 0), AV.lit (Value.int IntKind.u8 0), AV.lit (Value.int IntKind.u8 0), AV.lit (Value.int IntKind.u8 0), AV.lit (Value.int IntKind.u8 0), AV.lit (Value.int IntKind.u8 0), AV.lit (Value.int IntKind.u8 0), AV.lit (Value.int IntKind.u8 0), AV.lit (Value.int IntKind.u8 0), AV.lit (Value.int IntKind.u8 0), AV.lit (Value.int IntKind.u8 0), AV.lit (Value.int IntKind.u8 0), AV.lit (Value.int IntKind.u8 0), AV.lit (Value.int IntKind.u8 0), AV.lit (Value.int IntKind.u8 0), AV.lit (Value.int IntKind.u8 0), AV.lit (Value.int IntKind.u8 0), AV.lit (Value.int IntKind.u8 0), AV.lit (Value.int IntKind.u8 0), AV.lit (Value.int IntKind.u8 0), AV.lit (Value.int IntKind.u8 0), AV.lit (Value.int IntKind.u8 0), AV.lit (Value.int IntKind.u8 0), AV.lit (Value.int IntKind.u8 0), AV.lit (Value.int IntKind.u8 0), AV.lit (Value.int IntKind.u8 0), AV.lit (Value.int IntKind.u8 0), AV.lit (Value.int IntKind.u8 0), AV.lit (Value.int IntKind.u8 0), AV.lit (Value.int IntKind.u8 0)] := by kernel_rfl
theorem ze361 : zeT Tryz.prog 361 = some [AV.lit Value.nilFunc] := by kernel_rfl
theorem ze362 : zeT Tryz.prog 362 = some [AV.lit Value.nilFunc] := by kernel_rfl
theorem ze363 : zeT Tryz.prog 363 = some [AV.lit Value.nilFunc] := by kernel_rfl
theorem ze364 : zeT Tryz.prog 364 = some [AV.lit (Value.pointer none)] := by kernel_rfl
theorem ze365 : zeT Tryz.prog 365 = some [AV.str []] := by kernel_rfl
theorem ze366 : zeT Tryz.prog 366 = some [AV.str []] := by kernel_rfl
theorem ze368 : zeT Tryz.prog 368 = some [AV.lit Value.nilFunc] := by kernel_rfl
theorem ze369 : zeT Tryz.prog 369 = some [AV.lit (Value.pointer none), AV.lit (Value.pointer none), AV.lit (Value.pointer none), AV.str []] := by kernel_rfl
theorem ze370 : zeT Tryz.prog 370 = some [AV.lit (Value.pointer none), AV.lit (Value.pointer none), AV.lit (Value.pointer none), AV.str []] := by kernel_rfl
theorem ze371 : zeT Tryz.prog 371 = some [] := by kernel_rfl
theorem ze372 : zeT Tryz.prog 372 = some [] := by kernel_rfl
theorem ze373 : zeT Tryz.prog 373 = some [] := by kernel_rfl
theorem ze374 : zeT Tryz.prog 374 = some [AV.lit (Value.int IntKind.u8 0)] := by kernel_rfl
theorem ze375 : zeT Tryz.prog 375 = some [AV.lit (Value.int IntKind.u8 0)] := by kernel_rfl
theorem ze376 : zeT Tryz.prog 376 = some [AV.lit Value.nilFunc] := by kernel_rfl
theorem ze377 : zeT Tryz.prog 377 = some [AV.lit (Value.int IntKind.i32 0)] := by kernel_rfl
theorem ze378 : zeT Tryz.prog 378 = some [AV.lit (Value.int IntKind.i32 0)] := by kernel_rfl
theorem ze379 : zeT Tryz.prog 379 = some [AV.lit (Value.int IntKind.u64 0), AV.lit (Value.int IntKind.u64 0), AV.lit (Value.int IntKind.u32 0), AV.lit (Value.int IntKind.u8 0), AV.lit (Value.int IntKind.u8 0), AV.lit (Value.int IntKind.u8 0), AV.lit (Value.int IntKind.u8 0), AV.lit Value.nilFunc, AV.lit (Value.pointer none), AV.lit (Value.int IntKind.i32 0), AV.lit (Value.int IntKind.i32 0)] := by kernel_rfl
theorem ze380 : zeT Tryz.prog 380 = some [AV.lit (Value.int IntKind.u64 0), AV.lit (Value.int IntKind.u64 0), AV.lit (Value.int IntKind.u32 0), AV.lit (Value.int IntKind.u8 0), AV.lit (Value.int IntKind.u8 0), AV.lit (Value.int IntKind.u8 0), AV.lit (Value.int IntKind.u8 0), AV.lit Value.nilFunc, AV.lit (Value.pointer none), AV.lit (Value.int IntKind.i32 0), AV.lit (Value.int IntKind.i32 0)] := by kernel_rfl
theorem tnode {α : Type} {c t : Nat} {A B : Option α} {k : α} {p : Prop} (h1 : t < c → A = some k → p) (h2 : c ≤ t → B = some k → p) : (if t < c then A else B) = some k → p := by
  intro h
  split at h
  · rename_i hc; exact h1 hc h
  · rename_i hc; exact h2 (Nat.le_of_not_lt hc) h
theorem tleaf {α : Type} {f : Nat → Option α} {t c : Nat} {x k : α} (hf : f c = some x) (h1 : c ≤ t) (h2 : t < c + 1) : some x = some k → f t = some k := by
  intro h
  have : t = c := by omega
  subst this
  rw [hf, h]
theorem tnone {α : Type} {k : α} {p : Prop} : (none : Option α) = some k → p := fun h => nomatch h
def tab_tk (t : Nat) : Option (TK) := if t < 381 then (if t < 190 then (if t < 95 then (if t < 47 then (if t < 23 then (if t < 11 then (if t < 5 then (if t < 2 then (if t < 1 then some TK.other else some TK.func) else (if t < 3 then some (TK.int IntKind.i64) else (if t < 4 then some (TK.int IntKind.i64) else some TK.bool))) else (if t < 8 then (if t < 6 then some (TK.int IntKind.u8) else (if t < 7 then some (TK.int IntKind.u8) else some (TK.struct [(0, 1, false), (1, 1, false), (2, 1, false), (3, 1, false)]))) else (if t < 9 then some (TK.struct [(0, 1, false), (1, 1, false), (2, 1, false), (3, 1, false)]) else (if t < 10 then some TK.str else some TK.str)))) else (if t < 17 then (if t < 14 then (if t < 12 then some TK.str else (if t < 13 then some (TK.int IntKind.u64) else some (TK.struct [(0, 1, false), (1, 1, false)]))) else (if t < 15 then some (TK.struct [(0, 1, false), (1, 1, false)]) else (if t < 16 then some (TK.ptr 370) else some (TK.ptr 373)))) else (if t < 20 then (if t < 18 then some (TK.ptr 380) else (if t < 19 then some (TK.struct [(0, 1, false)]) else some (TK.struct [(0, 1, false)]))) else (if t < 21 then some TK.iface else (if t < 22 then some (TK.int IntKind.i32) else some (TK.slice 3)))))) else (if t < 35 then (if t < 29 then (if t < 26 then (if t < 24 then some TK.func else (if t < 25 then some TK.func else some (TK.ptr 51))) else (if t < 27 then some TK.func else (if t < 28 then some TK.func else some TK.func))) else (if t < 32 then (if t < 30 then some (TK.arr 2 9) else (if t < 31 then some (TK.slice 29) else some (TK.int IntKind.i64))) else (if t < 33 then some TK.other else (if t < 34 then some TK.func else some TK.func)))) else (if t < 41 then (if t < 38 then (if t < 36 then some (TK.slice 9) else (if t < 37 then some TK.other else some TK.func)) else (if t < 39 then some TK.func else (if t < 40 then some TK.func else some (TK.slice 61)))) else (if t < 44 then (if t < 42 then some (TK.struct [(0, 1, false)]) else (if t < 43 then some (TK.struct [(0, 1, false)]) else some (TK.slice 72))) else (if t < 45 then some TK.other else (if t < 46 then some TK.func else some (TK.slice 66))))))) else (if t < 71 then (if t < 59 then (if t < 53 then (if t < 50 then (if t < 48 then some (TK.struct [(0, 1, false), (1, 1, false)]) else (if t < 49 then some (TK.struct [(0, 1, false), (1, 1, false)]) else some TK.func)) else (if t < 51 then some (TK.struct [(0, 1, false), (1, 1, false)]) else (if t < 52 then some (TK.struct [(0, 1, false), (1, 1, false)]) else some TK.func))) else (if t < 56 then (if t < 54 then some TK.func else (if t < 55 then some TK.func else some TK.func)) else (if t < 57 then some (TK.slice 5) else (if t < 58 then some TK.func else some TK.func)))) else (if t < 65 then (if t < 62 then (if t < 60 then some (TK.slice 110) else (if t < 61 then some (TK.struct [(0, 1, false), (1, 1, false), (2, 1, false), (3, 1, false), (4, 1, false)]) else some (TK.struct [(0, 1, false), (1, 1, false), (2, 1, false), (3, 1, false), (4, 1, false)]))) else (if t < 63 then some TK.other else (if t < 64 then some TK.func else some (TK.slice 74)))) else (if t < 68 then (if t < 66 then some (TK.struct [(0, 1, false)]) else (if t < 67 then some (TK.struct [(0, 1, false)]) else some TK.other)) else (if t < 69 then some TK.func else (if t < 70 then some (TK.struct [(0, 1, false), (1, 1, false), (2, 1, false)]) else some (TK.struct [(0, 1, false), (1, 1, false), (2, 1, false)])))))) else (if t < 83 then (if t < 77 then (if t < 74 then (if t < 72 then some (TK.struct [(0, 1, false), (1, 1, false), (2, 1, false), (3, 3, true)]) else (if t < 73 then some (TK.struct [(0, 1, false), (1, 1, false), (2, 1, false), (3, 3, true)]) else some (TK.struct [(0, 6, true), (6, 1, false), (7, 1, false)]))) else (if t < 75 then some (TK.struct [(0, 6, true), (6, 1, false), (7, 1, false)]) else (if t < 76 then some TK.func else some TK.func))) else (if t < 80 then (if t < 78 then some (TK.struct [(0, 1, false), (1, 1, false)]) else (if t < 79 then some (TK.struct [(0, 1, false), (1, 1, false)]) else some (TK.int IntKind.u32))) else (if t < 81 then some (TK.arr 8 79) else (if t < 82 then some TK.func else some (TK.arr 64 79))))) else (if t < 89 then (if t < 86 then (if t < 84 then some TK.func else (if t < 85 then some TK.func else some (TK.int IntKind.u64))) else (if t < 87 then some TK.other else (if t < 88 then some TK.func else some TK.func))) else (if t < 92 then (if t < 90 then some (TK.ptr 61) else (if t < 91 then some TK.func else some TK.func)) else (if t < 93 then some TK.func else (if t < 94 then some TK.other else some TK.func))))))) else (if t < 142 then (if t < 118 then (if t < 106 then (if t < 100 then (if t < 97 then (if t < 96 then some TK.func else some (TK.int IntKind.u64)) else (if t < 98 then some TK.func else (if t < 99 then some TK.func else some (TK.struct [(0, 1, false), (1, 1, false)])))) else (if t < 103 then (if t < 101 then some (TK.struct [(0, 1, false), (1, 1, false)]) else (if t < 102 then some TK.other else some TK.func)) else (if t < 104 then some TK.func else (if t < 105 then some TK.func else some TK.func)))) else (if t < 112 then (if t < 109 then (if t < 107 then some (TK.struct [(0, 1, false), (1, 1, false)]) else (if t < 108 then some (TK.struct [(0, 1, false), (1, 1, false)]) else some TK.func)) else (if t < 110 then some (TK.struct [(0, 1, false), (1, 1, false)]) else (if t < 111 then some (TK.struct [(0, 1, false), (1, 1, false)]) else some TK.func))) else (if t < 115 then (if t < 113 then some TK.func else (if t < 114 then some (TK.map 3 100) else some TK.func)) else (if t < 116 then some TK.func else (if t < 117 then some TK.other else some TK.func))))) else (if t < 130 then (if t < 124 then (if t < 121 then (if t < 119 then some (TK.ptr 120) else (if t < 120 then some (TK.struct [(0, 1, false), (1, 1, false)]) else some (TK.struct [(0, 1, false), (1, 1, false)]))) else (if t < 122 then some TK.func else (if t < 123 then some TK.iface else some TK.iface))) else (if t < 127 then (if t < 125 then some TK.other else (if t < 126 then some TK.func else some TK.other)) else (if t < 128 then some TK.func else (if t < 129 then some (TK.map 9 3) else some TK.func)))) else (if t < 136 then (if t < 133 then (if t < 131 then some TK.func else (if t < 132 then some TK.other else some TK.func)) else (if t < 134 then some TK.other else (if t < 135 then some TK.func else some (TK.ptr 5)))) else (if t < 139 then (if t < 137 then some TK.func else (if t < 138 then some (TK.slice 244) else some (TK.struct [(0, 1, false), (1, 1, false)]))) else (if t < 140 then some (TK.struct [(0, 1, false), (1, 1, false)]) else (if t < 141 then some (TK.slice 70) else some (TK.struct [(0, 1, false), (1, 1, false), (2, 1, false), (3, 1, false), (4, 1, false), (5, 1, false), (6, 2, true), (8, 1, false), (9, 2, true), (11, 1, false), (12, 1, false), (13, 1, false), (14, 1, false), (15, 1, false), (16, 1, false), (17, 1, false), (18, 1, false)]))))))) else (if t < 166 then (if t < 154 then (if t < 148 then (if t < 145 then (if t < 143 then some (TK.struct [(0, 1, false), (1, 1, false), (2, 1, false), (3, 1, false), (4, 1, false), (5, 1, false), (6, 2, true), (8, 1, false), (9, 2, true), (11, 1, false), (12, 1, false), (13, 1, false), (14, 1, false), (15, 1, false), (16, 1, false), (17, 1, false), (18, 1, false)]) else (if t < 144 then some TK.other else some TK.func)) else (if t < 146 then some TK.other else (if t < 147 then some TK.func else some TK.func))) else (if t < 151 then (if t < 149 then some (TK.arr 256 5) else (if t < 150 then some TK.func else some (TK.slice 152))) else (if t < 152 then some (TK.struct [(0, 1, false), (1, 1, false), (2, 1, false), (3, 1, false), (4, 1, false), (5, 1, false)]) else (if t < 153 then some (TK.struct [(0, 1, false), (1, 1, false), (2, 1, false), (3, 1, false), (4, 1, false), (5, 1, false)]) else some (TK.struct [(0, 1, false), (1, 1, false), (2, 1, false), (3, 1, false), (4, 1, false)]))))) else (if t < 160 then (if t < 157 then (if t < 155 then some (TK.struct [(0, 1, false), (1, 1, false), (2, 1, false), (3, 1, false), (4, 1, false)]) else (if t < 156 then some TK.other else some TK.func)) else (if t < 158 then some TK.func else (if t < 159 then some TK.func else some (TK.struct [(0, 6, true)])))) else (if t < 163 then (if t < 161 then some (TK.struct [(0, 6, true)]) else (if t < 162 then some TK.other else some TK.func)) else (if t < 164 then some TK.func else (if t < 165 then some TK.func else some TK.func))))) else (if t < 178 then (if t < 172 then (if t < 169 then (if t < 167 then some TK.func else (if t < 168 then some TK.func else some TK.other)) else (if t < 170 then some TK.func else (if t < 171 then some TK.func else some TK.other))) else (if t < 175 then (if t < 173 then some TK.func else (if t < 174 then some TK.other else some TK.func)) else (if t < 176 then some TK.func else (if t < 177 then some TK.func else some TK.func)))) else (if t < 184 then (if t < 181 then (if t < 179 then some TK.func else (if t < 180 then some TK.func else some TK.func)) else (if t < 182 then some TK.func else (if t < 183 then some TK.func else some TK.func))) else (if t < 187 then (if t < 185 then some TK.func else (if t < 186 then some (TK.ptr 193) else some TK.func)) else (if t < 188 then some TK.func else (if t < 189 then some TK.func else some TK.func)))))))) else (if t < 285 then (if t < 237 then (if t < 213 then (if t < 201 then (if t < 195 then (if t < 192 then (if t < 191 then some TK.func else some TK.func) else (if t < 193 then some TK.func else (if t < 194 then some (TK.struct [(0, 6, true)]) else some TK.func))) else (if t < 198 then (if t < 196 then some TK.func else (if t < 197 then some TK.func else some TK.other)) else (if t < 199 then some TK.func else (if t < 200 then some TK.func else some TK.func)))) else (if t < 207 then (if t < 204 then (if t < 202 then some (TK.map 3 9) else (if t < 203 then some TK.func else some TK.func)) else (if t < 205 then some TK.func else (if t < 206 then some (TK.struct [(0, 1, false), (1, 1, false)]) else some (TK.struct [(0, 1, false), (1, 1, false)])))) else (if t < 210 then (if t < 208 then some TK.other else (if t < 209 then some (TK.map 3 206) else some TK.func)) else (if t < 211 then some TK.func else (if t < 212 then some TK.func else some TK.func))))) else (if t < 225 then (if t < 219 then (if t < 216 then (if t < 214 then some TK.func else (if t < 215 then some TK.func else some TK.func)) else (if t < 217 then some TK.func else (if t < 218 then some TK.other else some TK.func))) else (if t < 222 then (if t < 220 then some TK.other else (if t < 221 then some TK.func else some TK.func)) else (if t < 223 then some TK.func else (if t < 224 then some TK.func else some TK.func)))) else (if t < 231 then (if t < 228 then (if t < 226 then some TK.func else (if t < 227 then some TK.func else some TK.func)) else (if t < 229 then some TK.func else (if t < 230 then some TK.func else some TK.func))) else (if t < 234 then (if t < 232 then some TK.func else (if t < 233 then some TK.func else some TK.func)) else (if t < 235 then some TK.func else (if t < 236 then some TK.func else some TK.func)))))) else (if t < 261 then (if t < 249 then (if t < 243 then (if t < 240 then (if t < 238 then some TK.func else (if t < 239 then some TK.other else some TK.func)) else (if t < 241 then some TK.other else (if t < 242 then some TK.func else some TK.func))) else (if t < 246 then (if t < 244 then some TK.func else (if t < 245 then some (TK.slice 291) else some TK.func)) else (if t < 247 then some TK.func else (if t < 248 then some TK.func else some (TK.slice 35))))) else (if t < 255 then (if t < 252 then (if t < 250 then some TK.func else (if t < 251 then some TK.func else some TK.func)) else (if t < 253 then some (TK.arr 256 4) else (if t < 254 then some (TK.arr 256 4) else some TK.other))) else (if t < 258 then (if t < 256 then some TK.func else (if t < 257 then some TK.func else some (TK.ptr 253))) else (if t < 259 then some TK.func else (if t < 260 then some TK.other else some TK.func))))) else (if t < 273 then (if t < 267 then (if t < 264 then (if t < 262 then some TK.func else (if t < 263 then some TK.func else some (TK.ptr 267))) else (if t < 265 then some (TK.struct [(0, 1, false), (1, 1, false)]) else (if t < 266 then some (TK.struct [(0, 1, false), (1, 1, false)]) else some (TK.struct [(0, 2, true)])))) else (if t < 270 then (if t < 268 then some (TK.struct [(0, 2, true)]) else (if t < 269 then some TK.func else some TK.func)) else (if t < 271 then some (TK.ptr 265) else (if t < 272 then some (TK.ptr 272) else some (TK.struct [(0, 2, true)]))))) else (if t < 279 then (if t < 276 then (if t < 274 then some (TK.ptr 274) else (if t < 275 then some (TK.struct [(0, 2, true)]) else some TK.other)) else (if t < 277 then some TK.func else (if t < 278 then some TK.func else some TK.func))) else (if t < 282 then (if t < 280 then some TK.func else (if t < 281 then some (TK.arr 8 79) else some TK.func)) else (if t < 283 then some (TK.ptr 82) else (if t < 284 then some TK.func else some TK.func))))))) else (if t < 333 then (if t < 309 then (if t < 297 then (if t < 291 then (if t < 288 then (if t < 286 then some (TK.arr 32 5) else (if t < 287 then some TK.func else some TK.other)) else (if t < 289 then some TK.func else (if t < 290 then some TK.func else some (TK.struct [(0, 1, false), (1, 1, false)])))) else (if t < 294 then (if t < 292 then some (TK.struct [(0, 1, false), (1, 1, false)]) else (if t < 293 then some TK.func else some (TK.arr 24 5))) else (if t < 295 then some TK.func else (if t < 296 then some TK.func else some TK.other)))) else (if t < 303 then (if t < 300 then (if t < 298 then some TK.func else (if t < 299 then some TK.func else some TK.func)) else (if t < 301 then some TK.func else (if t < 302 then some TK.func else some TK.func))) else (if t < 306 then (if t < 304 then some TK.other else (if t < 305 then some TK.func else some TK.func)) else (if t < 307 then some TK.func else (if t < 308 then some TK.func else some TK.func))))) else (if t < 321 then (if t < 315 then (if t < 312 then (if t < 310 then some TK.func else (if t < 311 then some TK.func else some TK.func)) else (if t < 313 then some TK.func else (if t < 314 then some TK.func else some TK.func))) else (if t < 318 then (if t < 316 then some TK.func else (if t < 317 then some TK.other else some TK.func)) else (if t < 319 then some TK.func else (if t < 320 then some TK.func else some TK.func)))) else (if t < 327 then (if t < 324 then (if t < 322 then some TK.func else (if t < 323 then some TK.func else some TK.func)) else (if t < 325 then some TK.func else (if t < 326 then some TK.func else some (TK.ptr 280)))) else (if t < 330 then (if t < 328 then some (TK.int IntKind.i64) else (if t < 329 then some (TK.ptr 353) else some TK.func)) else (if t < 331 then some TK.func else (if t < 332 then some TK.func else some TK.func)))))) else (if t < 357 then (if t < 345 then (if t < 339 then (if t < 336 then (if t < 334 then some TK.func else (if t < 335 then some (TK.arr 20 96) else some (TK.arr 65 5))) else (if t < 337 then some TK.func else (if t < 338 then some TK.func else some TK.func))) else (if t < 342 then (if t < 340 then some TK.func else (if t < 341 then some (TK.map 5 5) else some TK.func)) else (if t < 343 then some TK.other else (if t < 344 then some TK.func else some TK.func)))) else (if t < 351 then (if t < 348 then (if t < 346 then some TK.func else (if t < 347 then some TK.func else some (TK.int IntKind.i8))) else (if t < 349 then some (TK.map 9 4) else (if t < 350 then some TK.func else some TK.func))) else (if t < 354 then (if t < 352 then some TK.func else (if t < 353 then some (TK.struct [(0, 1, false), (1, 1, false), (2, 1, false)]) else some (TK.struct [(0, 1, false), (1, 1, false), (2, 1, false)]))) else (if t < 355 then some TK.func else (if t < 356 then some TK.other else some TK.func))))) else (if t < 369 then (if t < 363 then (if t < 360 then (if t < 358 then some TK.func else (if t < 359 then some (TK.struct [(0, 1, false), (1, 1, false)]) else some (TK.struct [(0, 1, false), (1, 1, false)]))) else (if t < 361 then some (TK.arr 16 359) else (if t < 362 then some TK.func else some TK.func))) else (if t < 366 then (if t < 364 then some TK.func else (if t < 365 then some (TK.ptr 366) else some (TK.struct [(0, 1, false)]))) else (if t < 367 then some (TK.struct [(0, 1, false)]) else (if t < 368 then some (TK.arr 64 5) else some TK.func)))) else (if t < 375 then (if t < 372 then (if t < 370 then some (TK.struct [(0, 1, false), (1, 1, false), (2, 1, false), (3, 1, false)]) else (if t < 371 then some (TK.struct [(0, 1, false), (1, 1, false), (2, 1, false), (3, 1, false)]) else some (TK.arr 0 16))) else (if t < 373 then some (TK.struct [(0, 0, true)]) else (if t < 374 then some (TK.struct [(0, 0, true)]) else some (TK.int IntKind.u8)))) else (if t < 378 then (if t < 376 then some (TK.int IntKind.u8) else (if t < 377 then some TK.func else some (TK.int IntKind.i32))) else (if t < 379 then some (TK.int IntKind.i32) else (if t < 380 then some (TK.struct [(0, 1, false), (1, 1, false), (2, 1, false), (3, 1, false), (4, 1, false), (5, 1, false), (6, 1, false), (7, 1, false), (8, 1, false), (9, 1, false), (10, 1, false)]) else some (TK.struct [(0, 1, false), (1, 1, false), (2, 1, false), (3, 1, false), (4, 1, false), (5, 1, false), (6, 1, false), (7, 1, false), (8, 1, false), (9, 1, false), (10, 1, false)])))))))))) else none
theorem tab_tk_ok {t : Nat} {k : TK} : tab_tk t = some k → tk Tryz.prog t = some k := by
  unfold tab_tk
  exact tnode (fun u => (tnode (fun a0 => (tnode (fun a1 => (tnode (fun a2 => (tnode (fun a3 => (tnode (fun a4 => (tnode (fun a5 => (tnode (fun a6 => (tnode (fun a7 => (tleaf tk0 (Nat.zero_le _) a7)) (fun b7 => (tleaf tk1 b7 a6)))) (fun b6 => (tnode (fun a7 => (tleaf tk2 b6 a7)) (fun b7 => (tnode (fun a8 => (tleaf tk3 b7 a8)) (fun b8 => (tleaf tk4 b8 a5)))))))) (fun b5 => (tnode (fun a6 => (tnode (fun a7 => (tleaf tk5 b5 a7)) (fun b7 => (tnode (fun a8 => (tleaf tk6 b7 a8)) (fun b8 => (tleaf tk7 b8 a6)))))) (fun b6 => (tnode (fun a7 => (tleaf tk8 b6 a7)) (fun b7 => (tnode (fun a8 => (tleaf tk9 b7 a8)) (fun b8 => (tleaf tk10 b8 a4)))))))))) (fun b4 => (tnode (fun a5 => (tnode (fun a6 => (tnode (fun a7 => (tleaf tk11 b4 a7)) (fun b7 => (tnode (fun a8 => (tleaf tk12 b7 a8)) (fun b8 => (tleaf tk13 b8 a6)))))) (fun b6 => (tnode (fun a7 => (tleaf tk14 b6 a7)) (fun b7 => (tnode (fun a8 => (tleaf tk15 b7 a8)) (fun b8 => (tleaf tk16 b8 a5)))))))) (fun b5 => (tnode (fun a6 => (tnode (fun a7 => (tleaf tk17 b5 a7)) (fun b7 => (tnode (fun a8 => (tleaf tk18 b7 a8)) (fun b8 => (tleaf tk19 b8 a6)))))) (fun b6 => (tnode (fun a7 => (tleaf tk20 b6 a7)) (fun b7 => (tnode (fun a8 => (tleaf tk21 b7 a8)) (fun b8 => (tleaf tk22 b8 a3)))))))))))) (fun b3 => (tnode (fun a4 => (tnode (fun a5 => (tnode (fun a6 => (tnode (fun a7 => (tleaf tk23 b3 a7)) (fun b7 => (tnode (fun a8 => (tleaf tk24 b7 a8)) (fun b8 => (tleaf tk25 b8 a6)))))) (fun b6 => (tnode (fun a7 => (tleaf tk26 b6 a7)) (fun b7 => (tnode (fun a8 => (tleaf tk27 b7 a8)) (fun b8 => (tleaf tk28 b8 a5)))))))) (fun b5 => (tnode (fun a6 => (tnode (fun a7 => (tleaf tk29 b5 a7)) (fun b7 => (tnode (fun a8 => (tleaf tk30 b7 a8)) (fun b8 => (tleaf tk31 b8 a6)))))) (fun b6 => (tnode (fun a7 => (tleaf tk32 b6 a7)) (fun b7 => (tnode (fun a8 => (tleaf tk33 b7 a8)) (fun b8 => (tleaf tk34 b8 a4)))))))))) (fun b4 => (tnode (fun a5 => (tnode (fun a6 => (tnode (fun a7 => (tleaf tk35 b4 a7)) (fun b7 => (tnode (fun a8 => (tleaf tk36 b7 a8)) (fun b8 => (tleaf tk37 b8 a6)))))) (fun b6 => (tnode (fun a7 => (tleaf tk38 b6 a7)) (fun b7 => (tnode (fun a8 => (tleaf tk39 b7 a8)) (fun b8 => (tleaf tk40 b8 a5)))))))) (fun b5 => (tnode (fun a6 => (tnode (fun a7 => (tleaf tk41 b5 a7)) (fun b7 => (tnode (fun a8 => (tleaf tk42 b7 a8)) (fun b8 => (tleaf tk43 b8 a6)))))) (fun b6 => (tnode (fun a7 => (tleaf tk44 b6 a7)) (fun b7 => (tnode (fun a8 => (tleaf tk45 b7 a8)) (fun b8 => (tleaf tk46 b8 a2)))))))))))))) (fun b2 => (tnode (fun a3 => (tnode (fun a4 => (tnode (fun a5 => (tnode (fun a6 => (tnode (fun a7 => (tleaf tk47 b2 a7)) (fun b7 => (tnode (fun a8 => (tleaf tk48 b7 a8)) (fun b8 => (tleaf tk49 b8 a6)))))) (fun b6 => (tnode (fun a7 => (tleaf tk50 b6 a7)) (fun b7 => (tnode (fun a8 => (tleaf tk51 b7 a8)) (fun b8 => (tleaf tk52 b8 a5)))))))) (fun b5 => (tnode (fun a6 => (tnode (fun a7 => (tleaf tk53 b5 a7)) (fun b7 => (tnode (fun a8 => (tleaf tk54 b7 a8)) (fun b8 => (tleaf tk55 b8 a6)))))) (fun b6 => (tnode (fun a7 => (tleaf tk56 b6 a7)) (fun b7 => (tnode (fun a8 => (tleaf tk57 b7 a8)) (fun b8 => (tleaf tk58 b8 a4)))))))))) (fun b4 => (tnode (fun a5 => (tnode (fun a6 => (tnode (fun a7 => (tleaf tk59 b4 a7)) (fun b7 => (tnode (fun a8 => (tleaf tk60 b7 a8)) (fun b8 => (tleaf tk61 b8 a6)))))) (fun b6 => (tnode (fun a7 => (tleaf tk62 b6 a7)) (fun b7 => (tnode (fun a8 => (tleaf tk63 b7 a8)) (fun b8 => (tleaf tk64 b8 a5)))))))) (fun b5 => (tnode (fun a6 => (tnode (fun a7 => (tleaf tk65 b5 a7)) (fun b7 => (tnode (fun a8 => (tleaf tk66 b7 a8)) (fun b8 => (tleaf tk67 b8 a6)))))) (fun b6 => (tnode (fun a7 => (tleaf tk68 b6 a7)) (fun b7 => (tnode (fun a8 => (tleaf tk69 b7 a8)) (fun b8 => (tleaf tk70 b8 a3)))))))))))) (fun b3 => (tnode (fun a4 => (tnode (fun a5 => (tnode (fun a6 => (tnode (fun a7 => (tleaf tk71 b3 a7)) (fun b7 => (tnode (fun a8 => (tleaf tk72 b7 a8)) (fun b8 => (tleaf tk73 b8 a6)))))) (fun b6 => (tnode (fun a7 => (tleaf tk74 b6 a7)) (fun b7 => (tnode (fun a8 => (tleaf tk75 b7 a8)) (fun b8 => (tleaf tk76 b8 a5)))))))) (fun b5 => (tnode (fun a6 => (tnode (fun a7 => (tleaf tk77 b5 a7)) (fun b7 => (tnode (fun a8 => (tleaf tk78 b7 a8)) (fun b8 => (tleaf tk79 b8 a6)))))) (fun b6 => (tnode (fun a7 => (tleaf tk80 b6 a7)) (fun b7 => (tnode (fun a8 => (tleaf tk81 b7 a8)) (fun b8 => (tleaf tk82 b8 a4)))))))))) (fun b4 => (tnode (fun a5 => (tnode (fun a6 => (tnode (fun a7 => (tleaf tk83 b4 a7)) (fun b7 => (tnode (fun a8 => (tleaf tk84 b7 a8)) (fun b8 => (tleaf tk85 b8 a6)))))) (fun b6 => (tnode (fun a7 => (tleaf tk86 b6 a7)) (fun b7 => (tnode (fun a8 => (tleaf tk87 b7 a8)) (fun b8 => (tleaf tk88 b8 a5)))))))) (fun b5 => (tnode (fun a6 => (tnode (fun a7 => (tleaf tk89 b5 a7)) (fun b7 => (tnode (fun a8 => (tleaf tk90 b7 a8)) (fun b8 => (tleaf tk91 b8 a6)))))) (fun b6 => (tnode (fun a7 => (tleaf tk92 b6 a7)) (fun b7 => (tnode (fun a8 => (tleaf tk93 b7 a8)) (fun b8 => (tleaf tk94 b8 a1)))))))))))))))) (fun b1 => (tnode (fun a2 => (tnode (fun a3 => (tnode (fun a4 => (tnode (fun a5 => (tnode (fun a6 => (tnode (fun a7 => (tleaf tk95 b1 a7)) (fun b7 => (tleaf tk96 b7 a6)))) (fun b6 => (tnode (fun a7 => (tleaf tk97 b6 a7)) (fun b7 => (tnode (fun a8 => (tleaf tk98 b7 a8)) (fun b8 => (tleaf tk99 b8 a5)))))))) (fun b5 => (tnode (fun a6 => (tnode (fun a7 => (tleaf tk100 b5 a7)) (fun b7 => (tnode (fun a8 => (tleaf tk101 b7 a8)) (fun b8 => (tleaf tk102 b8 a6)))))) (fun b6 => (tnode (fun a7 => (tleaf tk103 b6 a7)) (fun b7 => (tnode (fun a8 => (tleaf tk104 b7 a8)) (fun b8 => (tleaf tk105 b8 a4)))))))))) (fun b4 => (tnode (fun a5 => (tnode (fun a6 => (tnode (fun a7 => (tleaf tk106 b4 a7)) (fun b7 => (tnode (fun a8 => (tleaf tk107 b7 a8)) (fun b8 => (tleaf tk108 b8 a6)))))) (fun b6 => (tnode (fun a7 => (tleaf tk109 b6 a7)) (fun b7 => (tnode (fun a8 => (tleaf tk110 b7 a8)) (fun b8 => (tleaf tk111 b8 a5)))))))) (fun b5 => (tnode (fun a6 => (tnode (fun a7 => (tleaf tk112 b5 a7)) (fun b7 => (tnode (fun a8 => (tleaf tk113 b7 a8)) (fun b8 => (tleaf tk114 b8 a6)))))) (fun b6 => (tnode (fun a7 => (tleaf tk115 b6 a7)) (fun b7 => (tnode (fun a8 => (tleaf tk116 b7 a8)) (fun b8 => (tleaf tk117 b8 a3)))))))))))) (fun b3 => (tnode (fun a4 => (tnode (fun a5 => (tnode (fun a6 => (tnode (fun a7 => (tleaf tk118 b3 a7)) (fun b7 => (tnode (fun a8 => (tleaf tk119 b7 a8)) (fun b8 => (tleaf tk120 b8 a6)))))) (fun b6 => (tnode (fun a7 => (tleaf tk121 b6 a7)) (fun b7 => (tnode (fun a8 => (tleaf tk122 b7 a8)) (fun b8 => (tleaf tk123 b8 a5)))))))) (fun b5 => (tnode (fun a6 => (tnode (fun a7 => (tleaf tk124 b5 a7)) (fun b7 => (tnode (fun a8 => (tleaf tk125 b7 a8)) (fun b8 => (tleaf tk126 b8 a6)))))) (fun b6 => (tnode (fun a7 => (tleaf tk127 b6 a7)) (fun b7 => (tnode (fun a8 => (tleaf tk128 b7 a8)) (fun b8 => (tleaf tk129 b8 a4)))))))))) (fun b4 => (tnode (fun a5 => (tnode (fun a6 => (tnode (fun a7 => (tleaf tk130 b4 a7)) (fun b7 => (tnode (fun a8 => (tleaf tk131 b7 a8)) (fun b8 => (tleaf tk132 b8 a6)))))) (fun b6 => (tnode (fun a7 => (tleaf tk133 b6 a7)) (fun b7 => (tnode (fun a8 => (tleaf tk134 b7 a8)) (fun b8 => (tleaf tk135 b8 a5)))))))) (fun b5 => (tnode (fun a6 => (tnode (fun a7 => (tleaf tk136 b5 a7)) (fun b7 => (tnode (fun a8 => (tleaf tk137 b7 a8)) (fun b8 => (tleaf tk138 b8 a6)))))) (fun b6 => (tnode (fun a7 => (tleaf tk139 b6 a7)) (fun b7 => (tnode (fun a8 => (tleaf tk140 b7 a8)) (fun b8 => (tleaf tk141 b8 a2)))))))))))))) (fun b2 => (tnode (fun a3 => (tnode (fun a4 => (tnode (fun a5 => (tnode (fun a6 => (tnode (fun a7 => (tleaf tk142 b2 a7)) (fun b7 => (tnode (fun a8 => (tleaf tk143 b7 a8)) (fun b8 => (tleaf tk144 b8 a6)))))) (fun b6 => (tnode (fun a7 => (tleaf tk145 b6 a7)) (fun b7 => (tnode (fun a8 => (tleaf tk146 b7 a8)) (fun b8 => (tleaf tk147 b8 a5)))))))) (fun b5 => (tnode (fun a6 => (tnode (fun a7 => (tleaf tk148 b5 a7)) (fun b7 => (tnode (fun a8 => (tleaf tk149 b7 a8)) (fun b8 => (tleaf tk150 b8 a6)))))) (fun b6 => (tnode (fun a7 => (tleaf tk151 b6 a7)) (fun b7 => (tnode (fun a8 => (tleaf tk152 b7 a8)) (fun b8 => (tleaf tk153 b8 a4)))))))))) (fun b4 => (tnode (fun a5 => (tnode (fun a6 => (tnode (fun a7 => (tleaf tk154 b4 a7)) (fun b7 => (tnode (fun a8 => (tleaf tk155 b7 a8)) (fun b8 => (tleaf tk156 b8 a6)))))) (fun b6 => (tnode (fun a7 => (tleaf tk157 b6 a7)) (fun b7 => (tnode (fun a8 => (tleaf tk158 b7 a8)) (fun b8 => (tleaf tk159 b8 a5)))))))) (fun b5 => (tnode (fun a6 => (tnode (fun a7 => (tleaf tk160 b5 a7)) (fun b7 => (tnode (fun a8 => (tleaf tk161 b7 a8)) (fun b8 => (tleaf tk162 b8 a6)))))) (fun b6 => (tnode (fun a7 => (tleaf tk163 b6 a7)) (fun b7 => (tnode (fun a8 => (tleaf tk164 b7 a8)) (fun b8 => (tleaf tk165 b8 a3)))))))))))) (fun b3 => (tnode (fun a4 => (tnode (fun a5 => (tnode (fun a6 => (tnode (fun a7 => (tleaf tk166 b3 a7)) (fun b7 => (tnode (fun a8 => (tleaf tk167 b7 a8)) (fun b8 => (tleaf tk168 b8 a6)))))) (fun b6 => (tnode (fun a7 => (tleaf tk169 b6 a7)) (fun b7 => (tnode (fun a8 => (tleaf tk170 b7 a8)) (fun b8 => (tleaf tk171 b8 a5)))))))) (fun b5 => (tnode (fun a6 => (tnode (fun a7 => (tleaf tk172 b5 a7)) (fun b7 => (tnode (fun a8 => (tleaf tk173 b7 a8)) (fun b8 => (tleaf tk174 b8 a6)))))) (fun b6 => (tnode (fun a7 => (tleaf tk175 b6 a7)) (fun b7 => (tnode (fun a8 => (tleaf tk176 b7 a8)) (fun b8 => (tleaf tk177 b8 a4)))))))))) (fun b4 => (tnode (fun a5 => (tnode (fun a6 => (tnode (fun a7 => (tleaf tk178 b4 a7)) (fun b7 => (tnode (fun a8 => (tleaf tk179 b7 a8)) (fun b8 => (tleaf tk180 b8 a6)))))) (fun b6 => (tnode (fun a7 => (tleaf tk181 b6 a7)) (fun b7 => (tnode (fun a8 => (tleaf tk182 b7 a8)) (fun b8 => (tleaf tk183 b8 a5)))))))) (fun b5 => (tnode (fun a6 => (tnode (fun a7 => (tleaf tk184 b5 a7)) (fun b7 => (tnode (fun a8 => (tleaf tk185 b7 a8)) (fun b8 => (tleaf tk186 b8 a6)))))) (fun b6 => (tnode (fun a7 => (tleaf tk187 b6 a7)) (fun b7 => (tnode (fun a8 => (tleaf tk188 b7 a8)) (fun b8 => (tleaf tk189 b8 a0)))))))))))))))))) (fun b0 => (tnode (fun a1 => (tnode (fun a2 => (tnode (fun a3 => (tnode (fun a4 => (tnode (fun a5 => (tnode (fun a6 => (tnode (fun a7 => (tleaf tk190 b0 a7)) (fun b7 => (tleaf tk191 b7 a6)))) (fun b6 => (tnode (fun a7 => (tleaf tk192 b6 a7)) (fun b7 => (tnode (fun a8 => (tleaf tk193 b7 a8)) (fun b8 => (tleaf tk194 b8 a5)))))))) (fun b5 => (tnode (fun a6 => (tnode (fun a7 => (tleaf tk195 b5 a7)) (fun b7 => (tnode (fun a8 => (tleaf tk196 b7 a8)) (fun b8 => (tleaf tk197 b8 a6)))))) (fun b6 => (tnode (fun a7 => (tleaf tk198 b6 a7)) (fun b7 => (tnode (fun a8 => (tleaf tk199 b7 a8)) (fun b8 => (tleaf tk200 b8 a4)))))))))) (fun b4 => (tnode (fun a5 => (tnode (fun a6 => (tnode (fun a7 => (tleaf tk201 b4 a7)) (fun b7 => (tnode (fun a8 => (tleaf tk202 b7 a8)) (fun b8 => (tleaf tk203 b8 a6)))))) (fun b6 => (tnode (fun a7 => (tleaf tk204 b6 a7)) (fun b7 => (tnode (fun a8 => (tleaf tk205 b7 a8)) (fun b8 => (tleaf tk206 b8 a5)))))))) (fun b5 => (tnode (fun a6 => (tnode (fun a7 => (tleaf tk207 b5 a7)) (fun b7 => (tnode (fun a8 => (tleaf tk208 b7 a8)) (fun b8 => (tleaf tk209 b8 a6)))))) (fun b6 => (tnode (fun a7 => (tleaf tk210 b6 a7)) (fun b7 => (tnode (fun a8 => (tleaf tk211 b7 a8)) (fun b8 => (tleaf tk212 b8 a3)))))))))))) (fun b3 => (tnode (fun a4 => (tnode (fun a5 => (tnode (fun a6 => (tnode (fun a7 => (tleaf tk213 b3 a7)) (fun b7 => (tnode (fun a8 => (tleaf tk214 b7 a8)) (fun b8 => (tleaf tk215 b8 a6)))))) (fun b6 => (tnode (fun a7 => (tleaf tk216 b6 a7)) (fun b7 => (tnode (fun a8 => (tleaf tk217 b7 a8)) (fun b8 => (tleaf tk218 b8 a5)))))))) (fun b5 => (tnode (fun a6 => (tnode (fun a7 => (tleaf tk219 b5 a7)) (fun b7 => (tnode (fun a8 => (tleaf tk220 b7 a8)) (fun b8 => (tleaf tk221 b8 a6)))))) (fun b6 => (tnode (fun a7 => (tleaf tk222 b6 a7)) (fun b7 => (tnode (fun a8 => (tleaf tk223 b7 a8)) (fun b8 => (tleaf tk224 b8 a4)))))))))) (fun b4 => (tnode (fun a5 => (tnode (fun a6 => (tnode (fun a7 => (tleaf tk225 b4 a7)) (fun b7 => (tnode (fun a8 => (tleaf tk226 b7 a8)) (fun b8 => (tleaf tk227 b8 a6)))))) (fun b6 => (tnode (fun a7 => (tleaf tk228 b6 a7)) (fun b7 => (tnode (fun a8 => (tleaf tk229 b7 a8)) (fun b8 => (tleaf tk230 b8 a5)))))))) (fun b5 => (tnode (fun a6 => (tnode (fun a7 => (tleaf tk231 b5 a7)) (fun b7 => (tnode (fun a8 => (tleaf tk232 b7 a8)) (fun b8 => (tleaf tk233 b8 a6)))))) (fun b6 => (tnode (fun a7 => (tleaf tk234 b6 a7)) (fun b7 => (tnode (fun a8 => (tleaf tk235 b7 a8)) (fun b8 => (tleaf tk236 b8 a2)))))))))))))) (fun b2 => (tnode (fun a3 => (tnode (fun a4 => (tnode (fun a5 => (tnode (fun a6 => (tnode (fun a7 => (tleaf tk237 b2 a7)) (fun b7 => (tnode (fun a8 => (tleaf tk238 b7 a8)) (fun b8 => (tleaf tk239 b8 a6)))))) (fun b6 => (tnode (fun a7 => (tleaf tk240 b6 a7)) (fun b7 => (tnode (fun a8 => (tleaf tk241 b7 a8)) (fun b8 => (tleaf tk242 b8 a5)))))))) (fun b5 => (tnode (fun a6 => (tnode (fun a7 => (tleaf tk243 b5 a7)) (fun b7 => (tnode (fun a8 => (tleaf tk244 b7 a8)) (fun b8 => (tleaf tk245 b8 a6)))))) (fun b6 => (tnode (fun a7 => (tleaf tk246 b6 a7)) (fun b7 => (tnode (fun a8 => (tleaf tk247 b7 a8)) (fun b8 => (tleaf tk248 b8 a4)))))))))) (fun b4 => (tnode (fun a5 => (tnode (fun a6 => (tnode (fun a7 => (tleaf tk249 b4 a7)) (fun b7 => (tnode (fun a8 => (tleaf tk250 b7 a8)) (fun b8 => (tleaf tk251 b8 a6)))))) (fun b6 => (tnode (fun a7 => (tleaf tk252 b6 a7)) (fun b7 => (tnode (fun a8 => (tleaf tk253 b7 a8)) (fun b8 => (tleaf tk254 b8 a5)))))))) (fun b5 => (tnode (fun a6 => (tnode (fun a7 => (tleaf tk255 b5 a7)) (fun b7 => (tnode (fun a8 => (tleaf tk256 b7 a8)) (fun b8 => (tleaf tk257 b8 a6)))))) (fun b6 => (tnode (fun a7 => (tleaf tk258 b6 a7)) (fun b7 => (tnode (fun a8 => (tleaf tk259 b7 a8)) (fun b8 => (tleaf tk260 b8 a3)))))))))))) (fun b3 => (tnode (fun a4 => (tnode (fun a5 => (tnode (fun a6 => (tnode (fun a7 => (tleaf tk261 b3 a7)) (fun b7 => (tnode (fun a8 => (tleaf tk262 b7 a8)) (fun b8 => (tleaf tk263 b8 a6)))))) (fun b6 => (tnode (fun a7 => (tleaf tk264 b6 a7)) (fun b7 => (tnode (fun a8 => (tleaf tk265 b7 a8)) (fun b8 => (tleaf tk266 b8 a5)))))))) (fun b5 => (tnode (fun a6 => (tnode (fun a7 => (tleaf tk267 b5 a7)) (fun b7 => (tnode (fun a8 => (tleaf tk268 b7 a8)) (fun b8 => (tleaf tk269 b8 a6)))))) (fun b6 => (tnode (fun a7 => (tleaf tk270 b6 a7)) (fun b7 => (tnode (fun a8 => (tleaf tk271 b7 a8)) (fun b8 => (tleaf tk272 b8 a4)))))))))) (fun b4 => (tnode (fun a5 => (tnode (fun a6 => (tnode (fun a7 => (tleaf tk273 b4 a7)) (fun b7 => (tnode (fun a8 => (tleaf tk274 b7 a8)) (fun b8 => (tleaf tk275 b8 a6)))))) (fun b6 => (tnode (fun a7 => (tleaf tk276 b6 a7)) (fun b7 => (tnode (fun a8 => (tleaf tk277 b7 a8)) (fun b8 => (tleaf tk278 b8 a5)))))))) (fun b5 => (tnode (fun a6 => (tnode (fun a7 => (tleaf tk279 b5 a7)) (fun b7 => (tnode (fun a8 => (tleaf tk280 b7 a8)) (fun b8 => (tleaf tk281 b8 a6)))))) (fun b6 => (tnode (fun a7 => (tleaf tk282 b6 a7)) (fun b7 => (tnode (fun a8 => (tleaf tk283 b7 a8)) (fun b8 => (tleaf tk284 b8 a1)))))))))))))))) (fun b1 => (tnode (fun a2 => (tnode (fun a3 => (tnode (fun a4 => (tnode (fun a5 => (tnode (fun a6 => (tnode (fun a7 => (tleaf tk285 b1 a7)) (fun b7 => (tnode (fun a8 => (tleaf tk286 b7 a8)) (fun b8 => (tleaf tk287 b8 a6)))))) (fun b6 => (tnode (fun a7 => (tleaf tk288 b6 a7)) (fun b7 => (tnode (fun a8 => (tleaf tk289 b7 a8)) (fun b8 => (tleaf tk290 b8 a5)))))))) (fun b5 => (tnode (fun a6 => (tnode (fun a7 => (tleaf tk291 b5 a7)) (fun b7 => (tnode (fun a8 => (tleaf tk292 b7 a8)) (fun b8 => (tleaf tk293 b8 a6)))))) (fun b6 => (tnode (fun a7 => (tleaf tk294 b6 a7)) (fun b7 => (tnode (fun a8 => (tleaf tk295 b7 a8)) (fun b8 => (tleaf tk296 b8 a4)))))))))) (fun b4 => (tnode (fun a5 => (tnode (fun a6 => (tnode (fun a7 => (tleaf tk297 b4 a7)) (fun b7 => (tnode (fun a8 => (tleaf tk298 b7 a8)) (fun b8 => (tleaf tk299 b8 a6)))))) (fun b6 => (tnode (fun a7 => (tleaf tk300 b6 a7)) (fun b7 => (tnode (fun a8 => (tleaf tk301 b7 a8)) (fun b8 => (tleaf tk302 b8 a5)))))))) (fun b5 => (tnode (fun a6 => (tnode (fun a7 => (tleaf tk303 b5 a7)) (fun b7 => (tnode (fun a8 => (tleaf tk304 b7 a8)) (fun b8 => (tleaf tk305 b8 a6)))))) (fun b6 => (tnode (fun a7 => (tleaf tk306 b6 a7)) (fun b7 => (tnode (fun a8 => (tleaf tk307 b7 a8)) (fun b8 => (tleaf tk308 b8 a3)))))))))))) (fun b3 => (tnode (fun a4 => (tnode (fun a5 => (tnode (fun a6 => (tnode (fun a7 => (tleaf tk309 b3 a7)) (fun b7 => (tnode (fun a8 => (tleaf tk310 b7 a8)) (fun b8 => (tleaf tk311 b8 a6)))))) (fun b6 => (tnode (fun a7 => (tleaf tk312 b6 a7)) (fun b7 => (tnode (fun a8 => (tleaf tk313 b7 a8)) (fun b8 => (tleaf tk314 b8 a5)))))))) (fun b5 => (tnode (fun a6 => (tnode (fun a7 => (tleaf tk315 b5 a7)) (fun b7 => (tnode (fun a8 => (tleaf tk316 b7 a8)) (fun b8 => (tleaf tk317 b8 a6)))))) (fun b6 => (tnode (fun a7 => (tleaf tk318 b6 a7)) (fun b7 => (tnode (fun a8 => (tleaf tk319 b7 a8)) (fun b8 => (tleaf tk320 b8 a4)))))))))) (fun b4 => (tnode (fun a5 => (tnode (fun a6 => (tnode (fun a7 => (tleaf tk321 b4 a7)) (fun b7 => (tnode (fun a8 => (tleaf tk322 b7 a8)) (fun b8 => (tleaf tk323 b8 a6)))))) (fun b6 => (tnode (fun a7 => (tleaf tk324 b6 a7)) (fun b7 => (tnode (fun a8 => (tleaf tk325 b7 a8)) (fun b8 => (tleaf tk326 b8 a5)))))))) (fun b5 => (tnode (fun a6 => (tnode (fun a7 => (tleaf tk327 b5 a7)) (fun b7 => (tnode (fun a8 => (tleaf tk328 b7 a8)) (fun b8 => (tleaf tk329 b8 a6)))))) (fun b6 => (tnode (fun a7 => (tleaf tk330 b6 a7)) (fun b7 => (tnode (fun a8 => (tleaf tk331 b7 a8)) (fun b8 => (tleaf tk332 b8 a2)))))))))))))) (fun b2 => (tnode (fun a3 => (tnode (fun a4 => (tnode (fun a5 => (tnode (fun a6 => (tnode (fun a7 => (tleaf tk333 b2 a7)) (fun b7 => (tnode (fun a8 => (tleaf tk334 b7 a8)) (fun b8 => (tleaf tk335 b8 a6)))))) (fun b6 => (tnode (fun a7 => (tleaf tk336 b6 a7)) (fun b7 => (tnode (fun a8 => (tleaf tk337 b7 a8)) (fun b8 => (tleaf tk338 b8 a5)))))))) (fun b5 => (tnode (fun a6 => (tnode (fun a7 => (tleaf tk339 b5 a7)) (fun b7 => (tnode (fun a8 => (tleaf tk340 b7 a8)) (fun b8 => (tleaf tk341 b8 a6)))))) (fun b6 => (tnode (fun a7 => (tleaf tk342 b6 a7)) (fun b7 => (tnode (fun a8 => (tleaf tk343 b7 a8)) (fun b8 => (tleaf tk344 b8 a4)))))))))) (fun b4 => (tnode (fun a5 => (tnode (fun a6 => (tnode (fun a7 => (tleaf tk345 b4 a7)) (fun b7 => (tnode (fun a8 => (tleaf tk346 b7 a8)) (fun b8 => (tleaf tk347 b8 a6)))))) (fun b6 => (tnode (fun a7 => (tleaf tk348 b6 a7)) (fun b7 => (tnode (fun a8 => (tleaf tk349 b7 a8)) (fun b8 => (tleaf tk350 b8 a5)))))))) (fun b5 => (tnode (fun a6 => (tnode (fun a7 => (tleaf tk351 b5 a7)) (fun b7 => (tnode (fun a8 => (tleaf tk352 b7 a8)) (fun b8 => (tleaf tk353 b8 a6)))))) (fun b6 => (tnode (fun a7 => (tleaf tk354 b6 a7)) (fun b7 => (tnode (fun a8 => (tleaf tk355 b7 a8)) (fun b8 => (tleaf tk356 b8 a3)))))))))))) (fun b3 => (tnode (fun a4 => (tnode (fun a5 => (tnode (fun a6 => (tnode (fun a7 => (tleaf tk357 b3 a7)) (fun b7 => (tnode (fun a8 => (tleaf tk358 b7 a8)) (fun b8 => (tleaf tk359 b8 a6)))))) (fun b6 => (tnode (fun a7 => (tleaf tk360 b6 a7)) (fun b7 => (tnode (fun a8 => (tleaf tk361 b7 a8)) (fun b8 => (tleaf tk362 b8 a5)))))))) (fun b5 => (tnode (fun a6 => (tnode (fun a7 => (tleaf tk363 b5 a7)) (fun b7 => (tnode (fun a8 => (tleaf tk364 b7 a8)) (fun b8 => (tleaf tk365 b8 a6)))))) (fun b6 => (tnode (fun a7 => (tleaf tk366 b6 a7)) (fun b7 => (tnode (fun a8 => (tleaf tk367 b7 a8)) (fun b8 => (tleaf tk368 b8 a4)))))))))) (fun b4 => (tnode (fun a5 => (tnode (fun a6 => (tnode (fun a7 => (tleaf tk369 b4 a7)) (fun b7 => (tnode (fun a8 => (tleaf tk370 b7 a8)) (fun b8 => (tleaf tk371 b8 a6)))))) (fun b6 => (tnode (fun a7 => (tleaf tk372 b6 a7)) (fun b7 => (tnode (fun a8 => (tleaf tk373 b7 a8)) (fun b8 => (tleaf tk374 b8 a5)))))))) (fun b5 => (tnode (fun a6 => (tnode (fun a7 => (tleaf tk375 b5 a7)) (fun b7 => (tnode (fun a8 => (tleaf tk376 b7 a8)) (fun b8 => (tleaf tk377 b8 a6)))))) (fun b6 => (tnode (fun a7 => (tleaf tk378 b6 a7)) (fun b7 => (tnode (fun a8 => (tleaf tk379 b7 a8)) (fun b8 => (tleaf tk380 b8 u)))))))))))))))))))) (fun _ => tnone)
def tab_sz (t : Nat) : Option (Nat) := if t < 381 then (if t < 190 then (if t < 95 then (if t < 47 then (if t < 23 then (if t < 11 then (if t < 5 then (if t < 2 then (if t < 1 then some 1 else some 1) else (if t < 3 then some 1 else (if t < 4 then some 1 else some 1))) else (if t < 8 then (if t < 6 then some 1 else (if t < 7 then some 1 else some 4)) else (if t < 9 then some 4 else (if t < 10 then some 1 else some 1)))) else (if t < 17 then (if t < 14 then (if t < 12 then some 1 else (if t < 13 then some 1 else some 2)) else (if t < 15 then some 2 else (if t < 16 then some 1 else some 1))) else (if t < 20 then (if t < 18 then some 1 else (if t < 19 then some 1 else some 1)) else (if t < 21 then some 1 else (if t < 22 then some 1 else some 1))))) else (if t < 35 then (if t < 29 then (if t < 26 then (if t < 24 then some 1 else (if t < 25 then some 1 else some 1)) else (if t < 27 then some 1 else (if t < 28 then some 1 else some 1))) else (if t < 32 then (if t < 30 then some 2 else (if t < 31 then some 1 else some 1)) else (if t < 33 then some 1 else (if t < 34 then some 1 else some 1)))) else (if t < 41 then (if t < 38 then (if t < 36 then some 1 else (if t < 37 then some 1 else some 1)) else (if t < 39 then some 1 else (if t < 40 then some 1 else some 1))) else (if t < 44 then (if t < 42 then some 1 else (if t < 43 then some 1 else some 1)) else (if t < 45 then some 1 else (if t < 46 then some 1 else some 1)))))) else (if t < 71 then (if t < 59 then (if t < 53 then (if t < 50 then (if t < 48 then some 2 else (if t < 49 then some 2 else some 1)) else (if t < 51 then some 2 else (if t < 52 then some 2 else some 1))) else (if t < 56 then (if t < 54 then some 1 else (if t < 55 then some 1 else some 1)) else (if t < 57 then some 1 else (if t < 58 then some 1 else some 1)))) else (if t < 65 then (if t < 62 then (if t < 60 then some 1 else (if t < 61 then some 5 else some 5)) else (if t < 63 then some 1 else (if t < 64 then some 1 else some 1))) else (if t < 68 then (if t < 66 then some 1 else (if t < 67 then some 1 else some 1)) else (if t < 69 then some 1 else (if t < 70 then some 3 else some 3))))) else (if t < 83 then (if t < 77 then (if t < 74 then (if t < 72 then some 6 else (if t < 73 then some 6 else some 8)) else (if t < 75 then some 8 else (if t < 76 then some 1 else some 1))) else (if t < 80 then (if t < 78 then some 2 else (if t < 79 then some 2 else some 1)) else (if t < 81 then some 8 else (if t < 82 then some 1 else some 64)))) else (if t < 89 then (if t < 86 then (if t < 84 then some 1 else (if t < 85 then some 1 else some 1)) else (if t < 87 then some 1 else (if t < 88 then some 1 else some 1))) else (if t < 92 then (if t < 90 then some 1 else (if t < 91 then some 1 else some 1)) else (if t < 93 then some 1 else (if t < 94 then some 1 else some 1))))))) else (if t < 142 then (if t < 118 then (if t < 106 then (if t < 100 then (if t < 97 then (if t < 96 then some 1 else some 1) else (if t < 98 then some 1 else (if t < 99 then some 1 else some 2))) else (if t < 103 then (if t < 101 then some 2 else (if t < 102 then some 1 else some 1)) else (if t < 104 then some 1 else (if t < 105 then some 1 else some 1)))) else (if t < 112 then (if t < 109 then (if t < 107 then some 2 else (if t < 108 then some 2 else some 1)) else (if t < 110 then some 2 else (if t < 111 then some 2 else some 1))) else (if t < 115 then (if t < 113 then some 1 else (if t < 114 then some 1 else some 1)) else (if t < 116 then some 1 else (if t < 117 then some 1 else some 1))))) else (if t < 130 then (if t < 124 then (if t < 121 then (if t < 119 then some 1 else (if t < 120 then some 2 else some 2)) else (if t < 122 then some 1 else (if t < 123 then some 1 else some 1))) else (if t < 127 then (if t < 125 then some 1 else (if t < 126 then some 1 else some 1)) else (if t < 128 then some 1 else (if t < 129 then some 1 else some 1)))) else (if t < 136 then (if t < 133 then (if t < 131 then some 1 else (if t < 132 then some 1 else some 1)) else (if t < 134 then some 1 else (if t < 135 then some 1 else some 1))) else (if t < 139 then (if t < 137 then some 1 else (if t < 138 then some 1 else some 2)) else (if t < 140 then some 2 else (if t < 141 then some 1 else some 19)))))) else (if t < 166 then (if t < 154 then (if t < 148 then (if t < 145 then (if t < 143 then some 19 else (if t < 144 then some 1 else some 1)) else (if t < 146 then some 1 else (if t < 147 then some 1 else some 1))) else (if t < 151 then (if t < 149 then some 256 else (if t < 150 then some 1 else some 1)) else (if t < 152 then some 6 else (if t < 153 then some 6 else some 5)))) else (if t < 160 then (if t < 157 then (if t < 155 then some 5 else (if t < 156 then some 1 else some 1)) else (if t < 158 then some 1 else (if t < 159 then some 1 else some 6))) else (if t < 163 then (if t < 161 then some 6 else (if t < 162 then some 1 else some 1)) else (if t < 164 then some 1 else (if t < 165 then some 1 else some 1))))) else (if t < 178 then (if t < 172 then (if t < 169 then (if t < 167 then some 1 else (if t < 168 then some 1 else some 1)) else (if t < 170 then some 1 else (if t < 171 then some 1 else some 1))) else (if t < 175 then (if t < 173 then some 1 else (if t < 174 then some 1 else some 1)) else (if t < 176 then some 1 else (if t < 177 then some 1 else some 1)))) else (if t < 184 then (if t < 181 then (if t < 179 then some 1 else (if t < 180 then some 1 else some 1)) else (if t < 182 then some 1 else (if t < 183 then some 1 else some 1))) else (if t < 187 then (if t < 185 then some 1 else (if t < 186 then some 1 else some 1)) else (if t < 188 then some 1 else (if t < 189 then some 1 else some 1)))))))) else (if t < 285 then (if t < 237 then (if t < 213 then (if t < 201 then (if t < 195 then (if t < 192 then (if t < 191 then some 1 else some 1) else (if t < 193 then some 1 else (if t < 194 then some 6 else some 1))) else (if t < 198 then (if t < 196 then some 1 else (if t < 197 then some 1 else some 1)) else (if t < 199 then some 1 else (if t < 200 then some 1 else some 1)))) else (if t < 207 then (if t < 204 then (if t < 202 then some 1 else (if t < 203 then some 1 else some 1)) else (if t < 205 then some 1 else (if t < 206 then some 2 else some 2))) else (if t < 210 then (if t < 208 then some 1 else (if t < 209 then some 1 else some 1)) else (if t < 211 then some 1 else (if t < 212 then some 1 else some 1))))) else (if t < 225 then (if t < 219 then (if t < 216 then (if t < 214 then some 1 else (if t < 215 then some 1 else some 1)) else (if t < 217 then some 1 else (if t < 218 then some 1 else some 1))) else (if t < 222 then (if t < 220 then some 1 else (if t < 221 then some 1 else some 1)) else (if t < 223 then some 1 else (if t < 224 then some 1 else some 1)))) else (if t < 231 then (if t < 228 then (if t < 226 then some 1 else (if t < 227 then some 1 else some 1)) else (if t < 229 then some 1 else (if t < 230 then some 1 else some 1))) else (if t < 234 then (if t < 232 then some 1 else (if t < 233 then some 1 else some 1)) else (if t < 235 then some 1 else (if t < 236 then some 1 else some 1)))))) else (if t < 261 then (if t < 249 then (if t < 243 then (if t < 240 then (if t < 238 then some 1 else (if t < 239 then some 1 else some 1)) else (if t < 241 then some 1 else (if t < 242 then some 1 else some 1))) else (if t < 246 then (if t < 244 then some 1 else (if t < 245 then some 1 else some 1)) else (if t < 247 then some 1 else (if t < 248 then some 1 else some 1)))) else (if t < 255 then (if t < 252 then (if t < 250 then some 1 else (if t < 251 then some 1 else some 1)) else (if t < 253 then some 256 else (if t < 254 then some 256 else some 1))) else (if t < 258 then (if t < 256 then some 1 else (if t < 257 then some 1 else some 1)) else (if t < 259 then some 1 else (if t < 260 then some 1 else some 1))))) else (if t < 273 then (if t < 267 then (if t < 264 then (if t < 262 then some 1 else (if t < 263 then some 1 else some 1)) else (if t < 265 then some 2 else (if t < 266 then some 2 else some 2))) else (if t < 270 then (if t < 268 then some 2 else (if t < 269 then some 1 else some 1)) else (if t < 271 then some 1 else (if t < 272 then some 1 else some 2)))) else (if t < 279 then (if t < 276 then (if t < 274 then some 1 else (if t < 275 then some 2 else some 1)) else (if t < 277 then some 1 else (if t < 278 then some 1 else some 1))) else (if t < 282 then (if t < 280 then some 1 else (if t < 281 then some 8 else some 1)) else (if t < 283 then some 1 else (if t < 284 then some 1 else some 1))))))) else (if t < 333 then (if t < 309 then (if t < 297 then (if t < 291 then (if t < 288 then (if t < 286 then some 32 else (if t < 287 then some 1 else some 1)) else (if t < 289 then some 1 else (if t < 290 then some 1 else some 2))) else (if t < 294 then (if t < 292 then some 2 else (if t < 293 then some 1 else some 24)) else (if t < 295 then some 1 else (if t < 296 then some 1 else some 1)))) else (if t < 303 then (if t < 300 then (if t < 298 then some 1 else (if t < 299 then some 1 else some 1)) else (if t < 301 then some 1 else (if t < 302 then some 1 else some 1))) else (if t < 306 then (if t < 304 then some 1 else (if t < 305 then some 1 else some 1)) else (if t < 307 then some 1 else (if t < 308 then some 1 else some 1))))) else (if t < 321 then (if t < 315 then (if t < 312 then (if t < 310 then some 1 else (if t < 311 then some 1 else some 1)) else (if t < 313 then some 1 else (if t < 314 then some 1 else some 1))) else (if t < 318 then (if t < 316 then some 1 else (if t < 317 then some 1 else some 1)) else (if t < 319 then some 1 else (if t < 320 then some 1 else some 1)))) else (if t < 327 then (if t < 324 then (if t < 322 then some 1 else (if t < 323 then some 1 else some 1)) else (if t < 325 then some 1 else (if t < 326 then some 1 else some 1))) else (if t < 330 then (if t < 328 then some 1 else (if t < 329 then some 1 else some 1)) else (if t < 331 then some 1 else (if t < 332 then some 1 else some 1)))))) else (if t < 357 then (if t < 345 then (if t < 339 then (if t < 336 then (if t < 334 then some 1 else (if t < 335 then some 20 else some 65)) else (if t < 337 then some 1 else (if t < 338 then some 1 else some 1))) else (if t < 342 then (if t < 340 then some 1 else (if t < 341 then some 1 else some 1)) else (if t < 343 then some 1 else (if t < 344 then some 1 else some 1)))) else (if t < 351 then (if t < 348 then (if t < 346 then some 1 else (if t < 347 then some 1 else some 1)) else (if t < 349 then some 1 else (if t < 350 then some 1 else some 1))) else (if t < 354 then (if t < 352 then some 1 else (if t < 353 then some 3 else some 3)) else (if t < 355 then some 1 else (if t < 356 then some 1 else some 1))))) else (if t < 369 then (if t < 363 then (if t < 360 then (if t < 358 then some 1 else (if t < 359 then some 2 else some 2)) else (if t < 361 then some 32 else (if t < 362 then some 1 else some 1))) else (if t < 366 then (if t < 364 then some 1 else (if t < 365 then some 1 else some 1)) else (if t < 367 then some 1 else (if t < 368 then some 64 else some 1)))) else (if t < 375 then (if t < 372 then (if t < 370 then some 4 else (if t < 371 then some 4 else some 0)) else (if t < 373 then some 0 else (if t < 374 then some 0 else some 1))) else (if t < 378 then (if t < 376 then some 1 else (if t < 377 then some 1 else some 1)) else (if t < 379 then some 1 else (if t < 380 then some 11 else some 11))))))))) else none
theorem tab_sz_ok {t : Nat} {k : Nat} : tab_sz t = some k → szT Tryz.prog t = some k := by
  unfold tab_sz
  exact tnode (fun u => (tnode (fun a0 => (tnode (fun a1 => (tnode (fun a2 => (tnode (fun a3 => (tnode (fun a4 => (tnode (fun a5 => (tnode (fun a6 => (tnode (fun a7 => (tleaf sz0 (Nat.zero_le _) a7)) (fun b7 => (tleaf sz1 b7 a6)))) (fun b6 => (tnode (fun a7 => (tleaf sz2 b6 a7)) (fun b7 => (tnode (fun a8 => (tleaf sz3 b7 a8)) (fun b8 => (tleaf sz4 b8 a5)))))))) (fun b5 => (tnode (fun a6 => (tnode (fun a7 => (tleaf sz5 b5 a7)) (fun b7 => (tnode (fun a8 => (tleaf sz6 b7 a8)) (fun b8 => (tleaf sz7 b8 a6)))))) (fun b6 => (tnode (fun a7 => (tleaf sz8 b6 a7)) (fun b7 => (tnode (fun a8 => (tleaf sz9 b7 a8)) (fun b8 => (tleaf sz10 b8 a4)))))))))) (fun b4 => (tnode (fun a5 => (tnode (fun a6 => (tnode (fun a7 => (tleaf sz11 b4 a7)) (fun b7 => (tnode (fun a8 => (tleaf sz12 b7 a8)) (fun b8 => (tleaf sz13 b8 a6)))))) (fun b6 => (tnode (fun a7 => (tleaf sz14 b6 a7)) (fun b7 => (tnode (fun a8 => (tleaf sz15 b7 a8)) (fun b8 => (tleaf sz16 b8 a5)))))))) (fun b5 => (tnode (fun a6 => (tnode (fun a7 => (tleaf sz17 b5 a7)) (fun b7 => (tnode (fun a8 => (tleaf sz18 b7 a8)) (fun b8 => (tleaf sz19 b8 a6)))))) (fun b6 => (tnode (fun a7 => (tleaf sz20 b6 a7)) (fun b7 => (tnode (fun a8 => (tleaf sz21 b7 a8)) (fun b8 => (tleaf sz22 b8 a3)))))))))))) (fun b3 => (tnode (fun a4 => (tnode (fun a5 => (tnode (fun a6 => (tnode (fun a7 => (tleaf sz23 b3 a7)) (fun b7 => (tnode (fun a8 => (tleaf sz24 b7 a8)) (fun b8 => (tleaf sz25 b8 a6)))))) (fun b6 => (tnode (fun a7 => (tleaf sz26 b6 a7)) (fun b7 => (tnode (fun a8 => (tleaf sz27 b7 a8)) (fun b8 => (tleaf sz28 b8 a5)))))))) (fun b5 => (tnode (fun a6 => (tnode (fun a7 => (tleaf sz29 b5 a7)) (fun b7 => (tnode (fun a8 => (tleaf sz30 b7 a8)) (fun b8 => (tleaf sz31 b8 a6)))))) (fun b6 => (tnode (fun a7 => (tleaf sz32 b6 a7)) (fun b7 => (tnode (fun a8 => (tleaf sz33 b7 a8)) (fun b8 => (tleaf sz34 b8 a4)))))))))) (fun b4 => (tnode (fun a5 => (tnode (fun a6 => (tnode (fun a7 => (tleaf sz35 b4 a7)) (fun b7 => (tnode (fun a8 => (tleaf sz36 b7 a8)) (fun b8 => (tleaf sz37 b8 a6)))))) (fun b6 => (tnode (fun a7 => (tleaf sz38 b6 a7)) (fun b7 => (tnode (fun a8 => (tleaf sz39 b7 a8)) (fun b8 => (tleaf sz40 b8 a5)))))))) (fun b5 => (tnode (fun a6 => (tnode (fun a7 => (tleaf sz41 b5 a7)) (fun b7 => (tnode (fun a8 => (tleaf sz42 b7 a8)) (fun b8 => (tleaf sz43 b8 a6)))))) (fun b6 => (tnode (fun a7 => (tleaf sz44 b6 a7)) (fun b7 => (tnode (fun a8 => (tleaf sz45 b7 a8)) (fun b8 => (tleaf sz46 b8 a2)))))))))))))) (fun b2 => (tnode (fun a3 => (tnode (fun a4 => (tnode (fun a5 => (tnode (fun a6 => (tnode (fun a7 => (tleaf sz47 b2 a7)) (fun b7 => (tnode (fun a8 => (tleaf sz48 b7 a8)) (fun b8 => (tleaf sz49 b8 a6)))))) (fun b6 => (tnode (fun a7 => (tleaf sz50 b6 a7)) (fun b7 => (tnode (fun a8 => (tleaf sz51 b7 a8)) (fun b8 => (tleaf sz52 b8 a5)))))))) (fun b5 => (tnode (fun a6 => (tnode (fun a7 => (tleaf sz53 b5 a7)) (fun b7 => (tnode (fun a8 => (tleaf sz54 b7 a8)) (fun b8 => (tleaf sz55 b8 a6)))))) (fun b6 => (tnode (fun a7 => (tleaf sz56 b6 a7)) (fun b7 => (tnode (fun a8 => (tleaf sz57 b7 a8)) (fun b8 => (tleaf sz58 b8 a4)))))))))) (fun b4 => (tnode (fun a5 => (tnode (fun a6 => (tnode (fun a7 => (tleaf sz59 b4 a7)) (fun b7 => (tnode (fun a8 => (tleaf sz60 b7 a8)) (fun b8 => (tleaf sz61 b8 a6)))))) (fun b6 => (tnode (fun a7 => (tleaf sz62 b6 a7)) (fun b7 => (tnode (fun a8 => (tleaf sz63 b7 a8)) (fun b8 => (tleaf sz64 b8 a5)))))))) (fun b5 => (tnode (fun a6 => (tnode (fun a7 => (tleaf sz65 b5 a7)) (fun b7 => (tnode (fun a8 => (tleaf sz66 b7 a8)) (fun b8 => (tleaf sz67 b8 a6)))))) (fun b6 => (tnode (fun a7 => (tleaf sz68 b6 a7)) (fun b7 => (tnode (fun a8 => (tleaf sz69 b7 a8)) (fun b8 => (tleaf sz70 b8 a3)))))))))))) (fun b3 => (tnode (fun a4 => (tnode (fun a5 => (tnode (fun a6 => (tnode (fun a7 => (tleaf sz71 b3 a7)) (fun b7 => (tnode (fun a8 => (tleaf sz72 b7 a8)) (fun b8 => (tleaf sz73 b8 a6)))))) (fun b6 => (tnode (fun a7 => (tleaf sz74 b6 a7)) (fun b7 => (tnode (fun a8 => (tleaf sz75 b7 a8)) (fun b8 => (tleaf sz76 b8 a5)))))))) (fun b5 => (tnode (fun a6 => (tnode (fun a7 => (tleaf sz77 b5 a7)) (fun b7 => (tnode (fun a8 => (tleaf sz78 b7 a8)) (fun b8 => (tleaf sz79 b8 a6)))))) (fun b6 => (tnode (fun a7 => (tleaf sz80 b6 a7)) (fun b7 => (tnode (fun a8 => (tleaf sz81 b7 a8)) (fun b8 => (tleaf sz82 b8 a4)))))))))) (fun b4 => (tnode (fun a5 => (tnode (fun a6 => (tnode (fun a7 => (tleaf sz83 b4 a7)) (fun b7 => (tnode (fun a8 => (tleaf sz84 b7 a8)) (fun b8 => (tleaf sz85 b8 a6)))))) (fun b6 => (tnode (fun a7 => (tleaf sz86 b6 a7)) (fun b7 => (tnode (fun a8 => (tleaf sz87 b7 a8)) (fun b8 => (tleaf sz88 b8 a5)))))))) (fun b5 => (tnode (fun a6 => (tnode (fun a7 => (tleaf sz89 b5 a7)) (fun b7 => (tnode (fun a8 => (tleaf sz90 b7 a8)) (fun b8 => (tleaf sz91 b8 a6)))))) (fun b6 => (tnode (fun a7 => (tleaf sz92 b6 a7)) (fun b7 => (tnode (fun a8 => (tleaf sz93 b7 a8)) (fun b8 => (tleaf sz94 b8 a1)))))))))))))))) (fun b1 => (tnode (fun a2 => (tnode (fun a3 => (tnode (fun a4 => (tnode (fun a5 => (tnode (fun a6 => (tnode (fun a7 => (tleaf sz95 b1 a7)) (fun b7 => (tleaf sz96 b7 a6)))) (fun b6 => (tnode (fun a7 => (tleaf sz97 b6 a7)) (fun b7 => (tnode (fun a8 => (tleaf sz98 b7 a8)) (fun b8 => (tleaf sz99 b8 a5)))))))) (fun b5 => (tnode (fun a6 => (tnode (fun a7 => (tleaf sz100 b5 a7)) (fun b7 => (tnode (fun a8 => (tleaf sz101 b7 a8)) (fun b8 => (tleaf sz102 b8 a6)))))) (fun b6 => (tnode (fun a7 => (tleaf sz103 b6 a7)) (fun b7 => (tnode (fun a8 => (tleaf sz104 b7 a8)) (fun b8 => (tleaf sz105 b8 a4)))))))))) (fun b4 => (tnode (fun a5 => (tnode (fun a6 => (tnode (fun a7 => (tleaf sz106 b4 a7)) (fun b7 => (tnode (fun a8 => (tleaf sz107 b7 a8)) (fun b8 => (tleaf sz108 b8 a6)))))) (fun b6 => (tnode (fun a7 => (tleaf sz109 b6 a7)) (fun b7 => (tnode (fun a8 => (tleaf sz110 b7 a8)) (fun b8 => (tleaf sz111 b8 a5)))))))) (fun b5 => (tnode (fun a6 => (tnode (fun a7 => (tleaf sz112 b5 a7)) (fun b7 => (tnode (fun a8 => (tleaf sz113 b7 a8)) (fun b8 => (tleaf sz114 b8 a6)))))) (fun b6 => (tnode (fun a7 => (tleaf sz115 b6 a7)) (fun b7 => (tnode (fun a8 => (tleaf sz116 b7 a8)) (fun b8 => (tleaf sz117 b8 a3)))))))))))) (fun b3 => (tnode (fun a4 => (tnode (fun a5 => (tnode (fun a6 => (tnode (fun a7 => (tleaf sz118 b3 a7)) (fun b7 => (tnode (fun a8 => (tleaf sz119 b7 a8)) (fun b8 => (tleaf sz120 b8 a6)))))) (fun b6 => (tnode (fun a7 => (tleaf sz121 b6 a7)) (fun b7 => (tnode (fun a8 => (tleaf sz122 b7 a8)) (fun b8 => (tleaf sz123 b8 a5)))))))) (fun b5 => (tnode (fun a6 => (tnode (fun a7 => (tleaf sz124 b5 a7)) (fun b7 => (tnode (fun a8 => (tleaf sz125 b7 a8)) (fun b8 => (tleaf sz126 b8 a6)))))) (fun b6 => (tnode (fun a7 => (tleaf sz127 b6 a7)) (fun b7 => (tnode (fun a8 => (tleaf sz128 b7 a8)) (fun b8 => (tleaf sz129 b8 a4)))))))))) (fun b4 => (tnode (fun a5 => (tnode (fun a6 => (tnode (fun a7 => (tleaf sz130 b4 a7)) (fun b7 => (tnode (fun a8 => (tleaf sz131 b7 a8)) (fun b8 => (tleaf sz132 b8 a6)))))) (fun b6 => (tnode (fun a7 => (tleaf sz133 b6 a7)) (fun b7 => (tnode (fun a8 => (tleaf sz134 b7 a8)) (fun b8 => (tleaf sz135 b8 a5)))))))) (fun b5 => (tnode (fun a6 => (tnode (fun a7 => (tleaf sz136 b5 a7)) (fun b7 => (tnode (fun a8 => (tleaf sz137 b7 a8)) (fun b8 => (tleaf sz138 b8 a6)))))) (fun b6 => (tnode (fun a7 => (tleaf sz139 b6 a7)) (fun b7 => (tnode (fun a8 => (tleaf sz140 b7 a8)) (fun b8 => (tleaf sz141 b8 a2)))))))))))))) (fun b2 => (tnode (fun a3 => (tnode (fun a4 => (tnode (fun a5 => (tnode (fun a6 => (tnode (fun a7 => (tleaf sz142 b2 a7)) (fun b7 => (tnode (fun a8 => (tleaf sz143 b7 a8)) (fun b8 => (tleaf sz144 b8 a6)))))) (fun b6 => (tnode (fun a7 => (tleaf sz145 b6 a7)) (fun b7 => (tnode (fun a8 => (tleaf sz146 b7 a8)) (fun b8 => (tleaf sz147 b8 a5)))))))) (fun b5 => (tnode (fun a6 => (tnode (fun a7 => (tleaf sz148 b5 a7)) (fun b7 => (tnode (fun a8 => (tleaf sz149 b7 a8)) (fun b8 => (tleaf sz150 b8 a6)))))) (fun b6 => (tnode (fun a7 => (tleaf sz151 b6 a7)) (fun b7 => (tnode (fun a8 => (tleaf sz152 b7 a8)) (fun b8 => (tleaf sz153 b8 a4)))))))))) (fun b4 => (tnode (fun a5 => (tnode (fun a6 => (tnode (fun a7 => (tleaf sz154 b4 a7)) (fun b7 => (tnode (fun a8 => (tleaf sz155 b7 a8)) (fun b8 => (tleaf sz156 b8 a6)))))) (fun b6 => (tnode (fun a7 => (tleaf sz157 b6 a7)) (fun b7 => (tnode (fun a8 => (tleaf sz158 b7 a8)) (fun b8 => (tleaf sz159 b8 a5)))))))) (fun b5 => (tnode (fun a6 => (tnode (fun a7 => (tleaf sz160 b5 a7)) (fun b7 => (tnode (fun a8 => (tleaf sz161 b7 a8)) (fun b8 => (tleaf sz162 b8 a6)))))) (fun b6 => (tnode (fun a7 => (tleaf sz163 b6 a7)) (fun b7 => (tnode (fun a8 => (tleaf sz164 b7 a8)) (fun b8 => (tleaf sz165 b8 a3)))))))))))) (fun b3 => (tnode (fun a4 => (tnode (fun a5 => (tnode (fun a6 => (tnode (fun a7 => (tleaf sz166 b3 a7)) (fun b7 => (tnode (fun a8 => (tleaf sz167 b7 a8)) (fun b8 => (tleaf sz168 b8 a6)))))) (fun b6 => (tnode (fun a7 => (tleaf sz169 b6 a7)) (fun b7 => (tnode (fun a8 => (tleaf sz170 b7 a8)) (fun b8 => (tleaf sz171 b8 a5)))))))) (fun b5 => (tnode (fun a6 => (tnode (fun a7 => (tleaf sz172 b5 a7)) (fun b7 => (tnode (fun a8 => (tleaf sz173 b7 a8)) (fun b8 => (tleaf sz174 b8 a6)))))) (fun b6 => (tnode (fun a7 => (tleaf sz175 b6 a7)) (fun b7 => (tnode (fun a8 => (tleaf sz176 b7 a8)) (fun b8 => (tleaf sz177 b8 a4)))))))))) (fun b4 => (tnode (fun a5 => (tnode (fun a6 => (tnode (fun a7 => (tleaf sz178 b4 a7)) (fun b7 => (tnode (fun a8 => (tleaf sz179 b7 a8)) (fun b8 => (tleaf sz180 b8 a6)))))) (fun b6 => (tnode (fun a7 => (tleaf sz181 b6 a7)) (fun b7 => (tnode (fun a8 => (tleaf sz182 b7 a8)) (fun b8 => (tleaf sz183 b8 a5)))))))) (fun b5 => (tnode (fun a6 => (tnode (fun a7 => (tleaf sz184 b5 a7)) (fun b7 => (tnode (fun a8 => (tleaf sz185 b7 a8)) (fun b8 => (tleaf sz186 b8 a6)))))) (fun b6 => (tnode (fun a7 => (tleaf sz187 b6 a7)) (fun b7 => (tnode (fun a8 => (tleaf sz188 b7 a8)) (fun b8 => (tleaf sz189 b8 a0)))))))))))))))))) (fun b0 => (tnode (fun a1 => (tnode (fun a2 => (tnode (fun a3 => (tnode (fun a4 => (tnode (fun a5 => (tnode (fun a6 => (tnode (fun a7 => (tleaf sz190 b0 a7)) (fun b7 => (tleaf sz191 b7 a6)))) (fun b6 => (tnode (fun a7 => (tleaf sz192 b6 a7)) (fun b7 => (tnode (fun a8 => (tleaf sz193 b7 a8)) (fun b8 => (tleaf sz194 b8 a5)))))))) (fun b5 => (tnode (fun a6 => (tnode (fun a7 => (tleaf sz195 b5 a7)) (fun b7 => (tnode (fun a8 => (tleaf sz196 b7 a8)) (fun b8 => (tleaf sz197 b8 a6)))))) (fun b6 => (tnode (fun a7 => (tleaf sz198 b6 a7)) (fun b7 => (tnode (fun a8 => (tleaf sz199 b7 a8)) (fun b8 => (tleaf sz200 b8 a4)))))))))) (fun b4 => (tnode (fun a5 => (tnode (fun a6 => (tnode (fun a7 => (tleaf sz201 b4 a7)) (fun b7 => (tnode (fun a8 => (tleaf sz202 b7 a8)) (fun b8 => (tleaf sz203 b8 a6)))))) (fun b6 => (tnode (fun a7 => (tleaf sz204 b6 a7)) (fun b7 => (tnode (fun a8 => (tleaf sz205 b7 a8)) (fun b8 => (tleaf sz206 b8 a5)))))))) (fun b5 => (tnode (fun a6 => (tnode (fun a7 => (tleaf sz207 b5 a7)) (fun b7 => (tnode (fun a8 => (tleaf sz208 b7 a8)) (fun b8 => (tleaf sz209 b8 a6)))))) (fun b6 => (tnode (fun a7 => (tleaf sz210 b6 a7)) (fun b7 => (tnode (fun a8 => (tleaf sz211 b7 a8)) (fun b8 => (tleaf sz212 b8 a3)))))))))))) (fun b3 => (tnode (fun a4 => (tnode (fun a5 => (tnode (fun a6 => (tnode (fun a7 => (tleaf sz213 b3 a7)) (fun b7 => (tnode (fun a8 => (tleaf sz214 b7 a8)) (fun b8 => (tleaf sz215 b8 a6)))))) (fun b6 => (tnode (fun a7 => (tleaf sz216 b6 a7)) (fun b7 => (tnode (fun a8 => (tleaf sz217 b7 a8)) (fun b8 => (tleaf sz218 b8 a5)))))))) (fun b5 => (tnode (fun a6 => (tnode (fun a7 => (tleaf sz219 b5 a7)) (fun b7 => (tnode (fun a8 => (tleaf sz220 b7 a8)) (fun b8 => (tleaf sz221 b8 a6)))))) (fun b6 => (tnode (fun a7 => (tleaf sz222 b6 a7)) (fun b7 => (tnode (fun a8 => (tleaf sz223 b7 a8)) (fun b8 => (tleaf sz224 b8 a4)))))))))) (fun b4 => (tnode (fun a5 => (tnode (fun a6 => (tnode (fun a7 => (tleaf sz225 b4 a7)) (fun b7 => (tnode (fun a8 => (tleaf sz226 b7 a8)) (fun b8 => (tleaf sz227 b8 a6)))))) (fun b6 => (tnode (fun a7 => (tleaf sz228 b6 a7)) (fun b7 => (tnode (fun a8 => (tleaf sz229 b7 a8)) (fun b8 => (tleaf sz230 b8 a5)))))))) (fun b5 => (tnode (fun a6 => (tnode (fun a7 => (tleaf sz231 b5 a7)) (fun b7 => (tnode (fun a8 => (tleaf sz232 b7 a8)) (fun b8 => (tleaf sz233 b8 a6)))))) (fun b6 => (tnode (fun a7 => (tleaf sz234 b6 a7)) (fun b7 => (tnode (fun a8 => (tleaf sz235 b7 a8)) (fun b8 => (tleaf sz236 b8 a2)))))))))))))) (fun b2 => (tnode (fun a3 => (tnode (fun a4 => (tnode (fun a5 => (tnode (fun a6 => (tnode (fun a7 => (tleaf sz237 b2 a7)) (fun b7 => (tnode (fun a8 => (tleaf sz238 b7 a8)) (fun b8 => (tleaf sz239 b8 a6)))))) (fun b6 => (tnode (fun a7 => (tleaf sz240 b6 a7)) (fun b7 => (tnode (fun a8 => (tleaf sz241 b7 a8)) (fun b8 => (tleaf sz242 b8 a5)))))))) (fun b5 => (tnode (fun a6 => (tnode (fun a7 => (tleaf sz243 b5 a7)) (fun b7 => (tnode (fun a8 => (tleaf sz244 b7 a8)) (fun b8 => (tleaf sz245 b8 a6)))))) (fun b6 => (tnode (fun a7 => (tleaf sz246 b6 a7)) (fun b7 => (tnode (fun a8 => (tleaf sz247 b7 a8)) (fun b8 => (tleaf sz248 b8 a4)))))))))) (fun b4 => (tnode (fun a5 => (tnode (fun a6 => (tnode (fun a7 => (tleaf sz249 b4 a7)) (fun b7 => (tnode (fun a8 => (tleaf sz250 b7 a8)) (fun b8 => (tleaf sz251 b8 a6)))))) (fun b6 => (tnode (fun a7 => (tleaf sz252 b6 a7)) (fun b7 => (tnode (fun a8 => (tleaf sz253 b7 a8)) (fun b8 => (tleaf sz254 b8 a5)))))))) (fun b5 => (tnode (fun a6 => (tnode (fun a7 => (tleaf sz255 b5 a7)) (fun b7 => (tnode (fun a8 => (tleaf sz256 b7 a8)) (fun b8 => (tleaf sz257 b8 a6)))))) (fun b6 => (tnode (fun a7 => (tleaf sz258 b6 a7)) (fun b7 => (tnode (fun a8 => (tleaf sz259 b7 a8)) (fun b8 => (tleaf sz260 b8 a3)))))))))))) (fun b3 => (tnode (fun a4 => (tnode (fun a5 => (tnode (fun a6 => (tnode (fun a7 => (tleaf sz261 b3 a7)) (fun b7 => (tnode (fun a8 => (tleaf sz262 b7 a8)) (fun b8 => (tleaf sz263 b8 a6)))))) (fun b6 => (tnode (fun a7 => (tleaf sz264 b6 a7)) (fun b7 => (tnode (fun a8 => (tleaf sz265 b7 a8)) (fun b8 => (tleaf sz266 b8 a5)))))))) (fun b5 => (tnode (fun a6 => (tnode (fun a7 => (tleaf sz267 b5 a7)) (fun b7 => (tnode (fun a8 => (tleaf sz268 b7 a8)) (fun b8 => (tleaf sz269 b8 a6)))))) (fun b6 => (tnode (fun a7 => (tleaf sz270 b6 a7)) (fun b7 => (tnode (fun a8 => (tleaf sz271 b7 a8)) (fun b8 => (tleaf sz272 b8 a4)))))))))) (fun b4 => (tnode (fun a5 => (tnode (fun a6 => (tnode (fun a7 => (tleaf sz273 b4 a7)) (fun b7 => (tnode (fun a8 => (tleaf sz274 b7 a8)) (fun b8 => (tleaf sz275 b8 a6)))))) (fun b6 => (tnode (fun a7 => (tleaf sz276 b6 a7)) (fun b7 => (tnode (fun a8 => (tleaf sz277 b7 a8)) (fun b8 => (tleaf sz278 b8 a5)))))))) (fun b5 => (tnode (fun a6 => (tnode (fun a7 => (tleaf sz279 b5 a7)) (fun b7 => (tnode (fun a8 => (tleaf sz280 b7 a8)) (fun b8 => (tleaf sz281 b8 a6)))))) (fun b6 => (tnode (fun a7 => (tleaf sz282 b6 a7)) (fun b7 => (tnode (fun a8 => (tleaf sz283 b7 a8)) (fun b8 => (tleaf sz284 b8 a1)))))))))))))))) (fun b1 => (tnode (fun a2 => (tnode (fun a3 => (tnode (fun a4 => (tnode (fun a5 => (tnode (fun a6 => (tnode (fun a7 => (tleaf sz285 b1 a7)) (fun b7 => (tnode (fun a8 => (tleaf sz286 b7 a8)) (fun b8 => (tleaf sz287 b8 a6)))))) (fun b6 => (tnode (fun a7 => (tleaf sz288 b6 a7)) (fun b7 => (tnode (fun a8 => (tleaf sz289 b7 a8)) (fun b8 => (tleaf sz290 b8 a5)))))))) (fun b5 => (tnode (fun a6 => (tnode (fun a7 => (tleaf sz291 b5 a7)) (fun b7 => (tnode (fun a8 => (tleaf sz292 b7 a8)) (fun b8 => (tleaf sz293 b8 a6)))))) (fun b6 => (tnode (fun a7 => (tleaf sz294 b6 a7)) (fun b7 => (tnode (fun a8 => (tleaf sz295 b7 a8)) (fun b8 => (tleaf sz296 b8 a4)))))))))) (fun b4 => (tnode (fun a5 => (tnode (fun a6 => (tnode (fun a7 => (tleaf sz297 b4 a7)) (fun b7 => (tnode (fun a8 => (tleaf sz298 b7 a8)) (fun b8 => (tleaf sz299 b8 a6)))))) (fun b6 => (tnode (fun a7 => (tleaf sz300 b6 a7)) (fun b7 => (tnode (fun a8 => (tleaf sz301 b7 a8)) (fun b8 => (tleaf sz302 b8 a5)))))))) (fun b5 => (tnode (fun a6 => (tnode (fun a7 => (tleaf sz303 b5 a7)) (fun b7 => (tnode (fun a8 => (tleaf sz304 b7 a8)) (fun b8 => (tleaf sz305 b8 a6)))))) (fun b6 => (tnode (fun a7 => (tleaf sz306 b6 a7)) (fun b7 => (tnode (fun a8 => (tleaf sz307 b7 a8)) (fun b8 => (tleaf sz308 b8 a3)))))))))))) (fun b3 => (tnode (fun a4 => (tnode (fun a5 => (tnode (fun a6 => (tnode (fun a7 => (tleaf sz309 b3 a7)) (fun b7 => (tnode (fun a8 => (tleaf sz310 b7 a8)) (fun b8 => (tleaf sz311 b8 a6)))))) (fun b6 => (tnode (fun a7 => (tleaf sz312 b6 a7)) (fun b7 => (tnode (fun a8 => (tleaf sz313 b7 a8)) (fun b8 => (tleaf sz314 b8 a5)))))))) (fun b5 => (tnode (fun a6 => (tnode (fun a7 => (tleaf sz315 b5 a7)) (fun b7 => (tnode (fun a8 => (tleaf sz316 b7 a8)) (fun b8 => (tleaf sz317 b8 a6)))))) (fun b6 => (tnode (fun a7 => (tleaf sz318 b6 a7)) (fun b7 => (tnode (fun a8 => (tleaf sz319 b7 a8)) (fun b8 => (tleaf sz320 b8 a4)))))))))) (fun b4 => (tnode (fun a5 => (tnode (fun a6 => (tnode (fun a7 => (tleaf sz321 b4 a7)) (fun b7 => (tnode (fun a8 => (tleaf sz322 b7 a8)) (fun b8 => (tleaf sz323 b8 a6)))))) (fun b6 => (tnode (fun a7 => (tleaf sz324 b6 a7)) (fun b7 => (tnode (fun a8 => (tleaf sz325 b7 a8)) (fun b8 => (tleaf sz326 b8 a5)))))))) (fun b5 => (tnode (fun a6 => (tnode (fun a7 => (tleaf sz327 b5 a7)) (fun b7 => (tnode (fun a8 => (tleaf sz328 b7 a8)) (fun b8 => (tleaf sz329 b8 a6)))))) (fun b6 => (tnode (fun a7 => (tleaf sz330 b6 a7)) (fun b7 => (tnode (fun a8 => (tleaf sz331 b7 a8)) (fun b8 => (tleaf sz332 b8 a2)))))))))))))) (fun b2 => (tnode (fun a3 => (tnode (fun a4 => (tnode (fun a5 => (tnode (fun a6 => (tnode (fun a7 => (tleaf sz333 b2 a7)) (fun b7 => (tnode (fun a8 => (tleaf sz334 b7 a8)) (fun b8 => (tleaf sz335 b8 a6)))))) (fun b6 => (tnode (fun a7 => (tleaf sz336 b6 a7)) (fun b7 => (tnode (fun a8 => (tleaf sz337 b7 a8)) (fun b8 => (tleaf sz338 b8 a5)))))))) (fun b5 => (tnode (fun a6 => (tnode (fun a7 => (tleaf sz339 b5 a7)) (fun b7 => (tnode (fun a8 => (tleaf sz340 b7 a8)) (fun b8 => (tleaf sz341 b8 a6)))))) (fun b6 => (tnode (fun a7 => (tleaf sz342 b6 a7)) (fun b7 => (tnode (fun a8 => (tleaf sz343 b7 a8)) (fun b8 => (tleaf sz344 b8 a4)))))))))) (fun b4 => (tnode (fun a5 => (tnode (fun a6 => (tnode (fun a7 => (tleaf sz345 b4 a7)) (fun b7 => (tnode (fun a8 => (tleaf sz346 b7 a8)) (fun b8 => (tleaf sz347 b8 a6)))))) (fun b6 => (tnode (fun a7 => (tleaf sz348 b6 a7)) (fun b7 => (tnode (fun a8 => (tleaf sz349 b7 a8)) (fun b8 => (tleaf sz350 b8 a5)))))))) (fun b5 => (tnode (fun a6 => (tnode (fun a7 => (tleaf sz351 b5 a7)) (fun b7 => (tnode (fun a8 => (tleaf sz352 b7 a8)) (fun b8 => (tleaf sz353 b8 a6)))))) (fun b6 => (tnode (fun a7 => (tleaf sz354 b6 a7)) (fun b7 => (tnode (fun a8 => (tleaf sz355 b7 a8)) (fun b8 => (tleaf sz356 b8 a3)))))))))))) (fun b3 => (tnode (fun a4 => (tnode (fun a5 => (tnode (fun a6 => (tnode (fun a7 => (tleaf sz357 b3 a7)) (fun b7 => (tnode (fun a8 => (tleaf sz358 b7 a8)) (fun b8 => (tleaf sz359 b8 a6)))))) (fun b6 => (tnode (fun a7 => (tleaf sz360 b6 a7)) (fun b7 => (tnode (fun a8 => (tleaf sz361 b7 a8)) (fun b8 => (tleaf sz362 b8 a5)))))))) (fun b5 => (tnode (fun a6 => (tnode (fun a7 => (tleaf sz363 b5 a7)) (fun b7 => (tnode (fun a8 => (tleaf sz364 b7 a8)) (fun b8 => (tleaf sz365 b8 a6)))))) (fun b6 => (tnode (fun a7 => (tleaf sz366 b6 a7)) (fun b7 => (tnode (fun a8 => (tleaf sz367 b7 a8)) (fun b8 => (tleaf sz368 b8 a4)))))))))) (fun b4 => (tnode (fun a5 => (tnode (fun a6 => (tnode (fun a7 => (tleaf sz369 b4 a7)) (fun b7 => (tnode (fun a8 => (tleaf sz370 b7 a8)) (fun b8 => (tleaf sz371 b8 a6)))))) (fun b6 => (tnode (fun a7 => (tleaf sz372 b6 a7)) (fun b7 => (tnode (fun a8 => (tleaf sz373 b7 a8)) (fun b8 => (tleaf sz374 b8 a5)))))))) (fun b5 => (tnode (fun a6 => (tnode (fun a7 => (tleaf sz375 b5 a7)) (fun b7 => (tnode (fun a8 => (tleaf sz376 b7 a8)) (fun b8 => (tleaf sz377 b8 a6)))))) (fun b6 => (tnode (fun a7 => (tleaf sz378 b6 a7)) (fun b7 => (tnode (fun a8 => (tleaf sz379 b7 a8)) (fun b8 => (tleaf sz380 b8 u)))))))))))))))))))) (fun _ => tnone)
def tab_by (t : Nat) : Option (Nat) := if t < 381 then (if t < 190 then (if t < 95 then (if t < 47 then (if t < 23 then (if t < 11 then (if t < 5 then (if t < 2 then (if t < 1 then some 0 else some 8) else (if t < 3 then some 8 else (if t < 4 then some 8 else some 1))) else (if t < 8 then (if t < 6 then some 1 else (if t < 7 then some 1 else some 24)) else (if t < 9 then some 24 else (if t < 10 then some 16 else some 16)))) else (if t < 17 then (if t < 14 then (if t < 12 then some 16 else (if t < 13 then some 8 else some 24)) else (if t < 15 then some 24 else (if t < 16 then some 8 else some 8))) else (if t < 20 then (if t < 18 then some 8 else (if t < 19 then some 8 else some 8)) else (if t < 21 then some 16 else (if t < 22 then some 4 else some 24))))) else (if t < 35 then (if t < 29 then (if t < 26 then (if t < 24 then some 8 else (if t < 25 then some 8 else some 8)) else (if t < 27 then some 8 else (if t < 28 then some 8 else some 8))) else (if t < 32 then (if t < 30 then some 32 else (if t < 31 then some 24 else some 8)) else (if t < 33 then some 0 else (if t < 34 then some 8 else some 8)))) else (if t < 41 then (if t < 38 then (if t < 36 then some 24 else (if t < 37 then some 0 else some 8)) else (if t < 39 then some 8 else (if t < 40 then some 8 else some 24))) else (if t < 44 then (if t < 42 then some 24 else (if t < 43 then some 24 else some 24)) else (if t < 45 then some 0 else (if t < 46 then some 8 else some 24)))))) else (if t < 71 then (if t < 59 then (if t < 53 then (if t < 50 then (if t < 48 then some 48 else (if t < 49 then some 48 else some 8)) else (if t < 51 then some 32 else (if t < 52 then some 32 else some 8))) else (if t < 56 then (if t < 54 then some 8 else (if t < 55 then some 8 else some 8)) else (if t < 57 then some 24 else (if t < 58 then some 8 else some 8)))) else (if t < 65 then (if t < 62 then (if t < 60 then some 24 else (if t < 61 then some 72 else some 72)) else (if t < 63 then some 0 else (if t < 64 then some 8 else some 24))) else (if t < 68 then (if t < 66 then some 24 else (if t < 67 then some 24 else some 0)) else (if t < 69 then some 8 else (if t < 70 then some 40 else some 40))))) else (if t < 83 then (if t < 77 then (if t < 74 then (if t < 72 then some 104 else (if t < 73 then some 104 else some 120)) else (if t < 75 then some 120 else (if t < 76 then some 8 else some 8))) else (if t < 80 then (if t < 78 then some 24 else (if t < 79 then some 24 else some 4)) else (if t < 81 then some 32 else (if t < 82 then some 8 else some 256)))) else (if t < 89 then (if t < 86 then (if t < 84 then some 8 else (if t < 85 then some 8 else some 8)) else (if t < 87 then some 0 else (if t < 88 then some 8 else some 8))) else (if t < 92 then (if t < 90 then some 8 else (if t < 91 then some 8 else some 8)) else (if t < 93 then some 8 else (if t < 94 then some 0 else some 8))))))) else (if t < 142 then (if t < 118 then (if t < 106 then (if t < 100 then (if t < 97 then (if t < 96 then some 8 else some 8) else (if t < 98 then some 8 else (if t < 99 then some 8 else some 24))) else (if t < 103 then (if t < 101 then some 24 else (if t < 102 then some 0 else some 8)) else (if t < 104 then some 8 else (if t < 105 then some 8 else some 8)))) else (if t < 112 then (if t < 109 then (if t < 107 then some 24 else (if t < 108 then some 24 else some 8)) else (if t < 110 then some 24 else (if t < 111 then some 24 else some 8))) else (if t < 115 then (if t < 113 then some 8 else (if t < 114 then some 8 else some 8)) else (if t < 116 then some 8 else (if t < 117 then some 0 else some 8))))) else (if t < 130 then (if t < 124 then (if t < 121 then (if t < 119 then some 8 else (if t < 120 then some 32 else some 32)) else (if t < 122 then some 8 else (if t < 123 then some 16 else some 16))) else (if t < 127 then (if t < 125 then some 0 else (if t < 126 then some 8 else some 0)) else (if t < 128 then some 8 else (if t < 129 then some 8 else some 8)))) else (if t < 136 then (if t < 133 then (if t < 131 then some 8 else (if t < 132 then some 0 else some 8)) else (if t < 134 then some 0 else (if t < 135 then some 8 else some 8))) else (if t < 139 then (if t < 137 then some 8 else (if t < 138 then some 24 else some 32)) else (if t < 140 then some 32 else (if t < 141 then some 24 else some 328)))))) else (if t < 166 then (if t < 154 then (if t < 148 then (if t < 145 then (if t < 143 then some 328 else (if t < 144 then some 0 else some 8)) else (if t < 146 then some 8 else (if t < 147 then some 8 else some 8))) else (if t < 151 then (if t < 149 then some 256 else (if t < 150 then some 8 else some 24)) else (if t < 152 then some 88 else (if t < 153 then some 88 else some 48)))) else (if t < 160 then (if t < 157 then (if t < 155 then some 48 else (if t < 156 then some 0 else some 8)) else (if t < 158 then some 8 else (if t < 159 then some 8 else some 88))) else (if t < 163 then (if t < 161 then some 88 else (if t < 162 then some 0 else some 8)) else (if t < 164 then some 8 else (if t < 165 then some 8 else some 8))))) else (if t < 178 then (if t < 172 then (if t < 169 then (if t < 167 then some 8 else (if t < 168 then some 8 else some 0)) else (if t < 170 then some 8 else (if t < 171 then some 8 else some 0))) else (if t < 175 then (if t < 173 then some 8 else (if t < 174 then some 0 else some 8)) else (if t < 176 then some 8 else (if t < 177 then some 8 else some 8)))) else (if t < 184 then (if t < 181 then (if t < 179 then some 8 else (if t < 180 then some 8 else some 8)) else (if t < 182 then some 8 else (if t < 183 then some 8 else some 8))) else (if t < 187 then (if t < 185 then some 8 else (if t < 186 then some 8 else some 8)) else (if t < 188 then some 8 else (if t < 189 then some 8 else some 8)))))))) else (if t < 285 then (if t < 237 then (if t < 213 then (if t < 201 then (if t < 195 then (if t < 192 then (if t < 191 then some 8 else some 8) else (if t < 193 then some 8 else (if t < 194 then some 88 else some 8))) else (if t < 198 then (if t < 196 then some 8 else (if t < 197 then some 8 else some 0)) else (if t < 199 then some 8 else (if t < 200 then some 8 else some 8)))) else (if t < 207 then (if t < 204 then (if t < 202 then some 8 else (if t < 203 then some 8 else some 8)) else (if t < 205 then some 8 else (if t < 206 then some 16 else some 16))) else (if t < 210 then (if t < 208 then some 0 else (if t < 209 then some 8 else some 8)) else (if t < 211 then some 8 else (if t < 212 then some 8 else some 8))))) else (if t < 225 then (if t < 219 then (if t < 216 then (if t < 214 then some 8 else (if t < 215 then some 8 else some 8)) else (if t < 217 then some 8 else (if t < 218 then some 0 else some 8))) else (if t < 222 then (if t < 220 then some 0 else (if t < 221 then some 8 else some 8)) else (if t < 223 then some 8 else (if t < 224 then some 8 else some 8)))) else (if t < 231 then (if t < 228 then (if t < 226 then some 8 else (if t < 227 then some 8 else some 8)) else (if t < 229 then some 8 else (if t < 230 then some 8 else some 8))) else (if t < 234 then (if t < 232 then some 8 else (if t < 233 then some 8 else some 8)) else (if t < 235 then some 8 else (if t < 236 then some 8 else some 8)))))) else (if t < 261 then (if t < 249 then (if t < 243 then (if t < 240 then (if t < 238 then some 8 else (if t < 239 then some 0 else some 8)) else (if t < 241 then some 0 else (if t < 242 then some 8 else some 8))) else (if t < 246 then (if t < 244 then some 8 else (if t < 245 then some 24 else some 8)) else (if t < 247 then some 8 else (if t < 248 then some 8 else some 24)))) else (if t < 255 then (if t < 252 then (if t < 250 then some 8 else (if t < 251 then some 8 else some 8)) else (if t < 253 then some 256 else (if t < 254 then some 256 else some 0))) else (if t < 258 then (if t < 256 then some 8 else (if t < 257 then some 8 else some 8)) else (if t < 259 then some 8 else (if t < 260 then some 0 else some 8))))) else (if t < 273 then (if t < 267 then (if t < 264 then (if t < 262 then some 8 else (if t < 263 then some 8 else some 8)) else (if t < 265 then some 24 else (if t < 266 then some 24 else some 24))) else (if t < 270 then (if t < 268 then some 24 else (if t < 269 then some 8 else some 8)) else (if t < 271 then some 8 else (if t < 272 then some 8 else some 24)))) else (if t < 279 then (if t < 276 then (if t < 274 then some 8 else (if t < 275 then some 24 else some 0)) else (if t < 277 then some 8 else (if t < 278 then some 8 else some 8))) else (if t < 282 then (if t < 280 then some 8 else (if t < 281 then some 32 else some 8)) else (if t < 283 then some 8 else (if t < 284 then some 8 else some 8))))))) else (if t < 333 then (if t < 309 then (if t < 297 then (if t < 291 then (if t < 288 then (if t < 286 then some 32 else (if t < 287 then some 8 else some 0)) else (if t < 289 then some 8 else (if t < 290 then some 8 else some 16))) else (if t < 294 then (if t < 292 then some 16 else (if t < 293 then some 8 else some 24)) else (if t < 295 then some 8 else (if t < 296 then some 8 else some 0)))) else (if t < 303 then (if t < 300 then (if t < 298 then some 8 else (if t < 299 then some 8 else some 8)) else (if t < 301 then some 8 else (if t < 302 then some 8 else some 8))) else (if t < 306 then (if t < 304 then some 0 else (if t < 305 then some 8 else some 8)) else (if t < 307 then some 8 else (if t < 308 then some 8 else some 8))))) else (if t < 321 then (if t < 315 then (if t < 312 then (if t < 310 then some 8 else (if t < 311 then some 8 else some 8)) else (if t < 313 then some 8 else (if t < 314 then some 8 else some 8))) else (if t < 318 then (if t < 316 then some 8 else (if t < 317 then some 0 else some 8)) else (if t < 319 then some 8 else (if t < 320 then some 8 else some 8)))) else (if t < 327 then (if t < 324 then (if t < 322 then some 8 else (if t < 323 then some 8 else some 8)) else (if t < 325 then some 8 else (if t < 326 then some 8 else some 8))) else (if t < 330 then (if t < 328 then some 8 else (if t < 329 then some 8 else some 8)) else (if t < 331 then some 8 else (if t < 332 then some 8 else some 8)))))) else (if t < 357 then (if t < 345 then (if t < 339 then (if t < 336 then (if t < 334 then some 8 else (if t < 335 then some 160 else some 65)) else (if t < 337 then some 8 else (if t < 338 then some 8 else some 8))) else (if t < 342 then (if t < 340 then some 8 else (if t < 341 then some 8 else some 8)) else (if t < 343 then some 0 else (if t < 344 then some 8 else some 8)))) else (if t < 351 then (if t < 348 then (if t < 346 then some 8 else (if t < 347 then some 8 else some 1)) else (if t < 349 then some 8 else (if t < 350 then some 8 else some 8))) else (if t < 354 then (if t < 352 then some 8 else (if t < 353 then some 48 else some 48)) else (if t < 355 then some 8 else (if t < 356 then some 0 else some 8))))) else (if t < 369 then (if t < 363 then (if t < 360 then (if t < 358 then some 8 else (if t < 359 then some 2 else some 2)) else (if t < 361 then some 32 else (if t < 362 then some 8 else some 8))) else (if t < 366 then (if t < 364 then some 8 else (if t < 365 then some 8 else some 16)) else (if t < 367 then some 16 else (if t < 368 then some 64 else some 8)))) else (if t < 375 then (if t < 372 then (if t < 370 then some 40 else (if t < 371 then some 40 else some 0)) else (if t < 373 then some 0 else (if t < 374 then some 0 else some 1))) else (if t < 378 then (if t < 376 then some 1 else (if t < 377 then some 8 else some 4)) else (if t < 379 then some 4 else (if t < 380 then some 48 else some 48))))))))) else none
theorem tab_by_ok {t : Nat} {k : Nat} : tab_by t = some k → byT Tryz.prog t = some k := by
  unfold tab_by
  exact tnode (fun u => (tnode (fun a0 => (tnode (fun a1 => (tnode (fun a2 => (tnode (fun a3 => (tnode (fun a4 => (tnode (fun a5 => (tnode (fun a6 => (tnode (fun a7 => (tleaf by0 (Nat.zero_le _) a7)) (fun b7 => (tleaf by1 b7 a6)))) (fun b6 => (tnode (fun a7 => (tleaf by2 b6 a7)) (fun b7 => (tnode (fun a8 => (tleaf by3 b7 a8)) (fun b8 => (tleaf by4 b8 a5)))))))) (fun b5 => (tnode (fun a6 => (tnode (fun a7 => (tleaf by5 b5 a7)) (fun b7 => (tnode (fun a8 => (tleaf by6 b7 a8)) (fun b8 => (tleaf by7 b8 a6)))))) (fun b6 => (tnode (fun a7 => (tleaf by8 b6 a7)) (fun b7 => (tnode (fun a8 => (tleaf by9 b7 a8)) (fun b8 => (tleaf by10 b8 a4)))))))))) (fun b4 => (tnode (fun a5 => (tnode (fun a6 => (tnode (fun a7 => (tleaf by11 b4 a7)) (fun b7 => (tnode (fun a8 => (tleaf by12 b7 a8)) (fun b8 => (tleaf by13 b8 a6)))))) (fun b6 => (tnode (fun a7 => (tleaf by14 b6 a7)) (fun b7 => (tnode (fun a8 => (tleaf by15 b7 a8)) (fun b8 => (tleaf by16 b8 a5)))))))) (fun b5 => (tnode (fun a6 => (tnode (fun a7 => (tleaf by17 b5 a7)) (fun b7 => (tnode (fun a8 => (tleaf by18 b7 a8)) (fun b8 => (tleaf by19 b8 a6)))))) (fun b6 => (tnode (fun a7 => (tleaf by20 b6 a7)) (fun b7 => (tnode (fun a8 => (tleaf by21 b7 a8)) (fun b8 => (tleaf by22 b8 a3)))))))))))) (fun b3 => (tnode (fun a4 => (tnode (fun a5 => (tnode (fun a6 => (tnode (fun a7 => (tleaf by23 b3 a7)) (fun b7 => (tnode (fun a8 => (tleaf by24 b7 a8)) (fun b8 => (tleaf by25 b8 a6)))))) (fun b6 => (tnode (fun a7 => (tleaf by26 b6 a7)) (fun b7 => (tnode (fun a8 => (tleaf by27 b7 a8)) (fun b8 => (tleaf by28 b8 a5)))))))) (fun b5 => (tnode (fun a6 => (tnode (fun a7 => (tleaf by29 b5 a7)) (fun b7 => (tnode (fun a8 => (tleaf by30 b7 a8)) (fun b8 => (tleaf by31 b8 a6)))))) (fun b6 => (tnode (fun a7 => (tleaf by32 b6 a7)) (fun b7 => (tnode (fun a8 => (tleaf by33 b7 a8)) (fun b8 => (tleaf by34 b8 a4)))))))))) (fun b4 => (tnode (fun a5 => (tnode (fun a6 => (tnode (fun a7 => (tleaf by35 b4 a7)) (fun b7 => (tnode (fun a8 => (tleaf by36 b7 a8)) (fun b8 => (tleaf by37 b8 a6)))))) (fun b6 => (tnode (fun a7 => (tleaf by38 b6 a7)) (fun b7 => (tnode (fun a8 => (tleaf by39 b7 a8)) (fun b8 => (tleaf by40 b8 a5)))))))) (fun b5 => (tnode (fun a6 => (tnode (fun a7 => (tleaf by41 b5 a7)) (fun b7 => (tnode (fun a8 => (tleaf by42 b7 a8)) (fun b8 => (tleaf by43 b8 a6)))))) (fun b6 => (tnode (fun a7 => (tleaf by44 b6 a7)) (fun b7 => (tnode (fun a8 => (tleaf by45 b7 a8)) (fun b8 => (tleaf by46 b8 a2)))))))))))))) (fun b2 => (tnode (fun a3 => (tnode (fun a4 => (tnode (fun a5 => (tnode (fun a6 => (tnode (fun a7 => (tleaf by47 b2 a7)) (fun b7 => (tnode (fun a8 => (tleaf by48 b7 a8)) (fun b8 => (tleaf by49 b8 a6)))))) (fun b6 => (tnode (fun a7 => (tleaf by50 b6 a7)) (fun b7 => (tnode (fun a8 => (tleaf by51 b7 a8)) (fun b8 => (tleaf by52 b8 a5)))))))) (fun b5 => (tnode (fun a6 => (tnode (fun a7 => (tleaf by53 b5 a7)) (fun b7 => (tnode (fun a8 => (tleaf by54 b7 a8)) (fun b8 => (tleaf by55 b8 a6)))))) (fun b6 => (tnode (fun a7 => (tleaf by56 b6 a7)) (fun b7 => (tnode (fun a8 => (tleaf by57 b7 a8)) (fun b8 => (tleaf by58 b8 a4)))))))))) (fun b4 => (tnode (fun a5 => (tnode (fun a6 => (tnode (fun a7 => (tleaf by59 b4 a7)) (fun b7 => (tnode (fun a8 => (tleaf by60 b7 a8)) (fun b8 => (tleaf by61 b8 a6)))))) (fun b6 => (tnode (fun a7 => (tleaf by62 b6 a7)) (fun b7 => (tnode (fun a8 => (tleaf by63 b7 a8)) (fun b8 => (tleaf by64 b8 a5)))))))) (fun b5 => (tnode (fun a6 => (tnode (fun a7 => (tleaf by65 b5 a7)) (fun b7 => (tnode (fun a8 => (tleaf by66 b7 a8)) (fun b8 => (tleaf by67 b8 a6)))))) (fun b6 => (tnode (fun a7 => (tleaf by68 b6 a7)) (fun b7 => (tnode (fun a8 => (tleaf by69 b7 a8)) (fun b8 => (tleaf by70 b8 a3)))))))))))) (fun b3 => (tnode (fun a4 => (tnode (fun a5 => (tnode (fun a6 => (tnode (fun a7 => (tleaf by71 b3 a7)) (fun b7 => (tnode (fun a8 => (tleaf by72 b7 a8)) (fun b8 => (tleaf by73 b8 a6)))))) (fun b6 => (tnode (fun a7 => (tleaf by74 b6 a7)) (fun b7 => (tnode (fun a8 => (tleaf by75 b7 a8)) (fun b8 => (tleaf by76 b8 a5)))))))) (fun b5 => (tnode (fun a6 => (tnode (fun a7 => (tleaf by77 b5 a7)) (fun b7 => (tnode (fun a8 => (tleaf by78 b7 a8)) (fun b8 => (tleaf by79 b8 a6)))))) (fun b6 => (tnode (fun a7 => (tleaf by80 b6 a7)) (fun b7 => (tnode (fun a8 => (tleaf by81 b7 a8)) (fun b8 => (tleaf by82 b8 a4)))))))))) (fun b4 => (tnode (fun a5 => (tnode (fun a6 => (tnode (fun a7 => (tleaf by83 b4 a7)) (fun b7 => (tnode (fun a8 => (tleaf by84 b7 a8)) (fun b8 => (tleaf by85 b8 a6)))))) (fun b6 => (tnode (fun a7 => (tleaf by86 b6 a7)) (fun b7 => (tnode (fun a8 => (tleaf by87 b7 a8)) (fun b8 => (tleaf by88 b8 a5)))))))) (fun b5 => (tnode (fun a6 => (tnode (fun a7 => (tleaf by89 b5 a7)) (fun b7 => (tnode (fun a8 => (tleaf by90 b7 a8)) (fun b8 => (tleaf by91 b8 a6)))))) (fun b6 => (tnode (fun a7 => (tleaf by92 b6 a7)) (fun b7 => (tnode (fun a8 => (tleaf by93 b7 a8)) (fun b8 => (tleaf by94 b8 a1)))))))))))))))) (fun b1 => (tnode (fun a2 => (tnode (fun a3 => (tnode (fun a4 => (tnode (fun a5 => (tnode (fun a6 => (tnode (fun a7 => (tleaf by95 b1 a7)) (fun b7 => (tleaf by96 b7 a6)))) (fun b6 => (tnode (fun a7 => (tleaf by97 b6 a7)) (fun b7 => (tnode (fun a8 => (tleaf by98 b7 a8)) (fun b8 => (tleaf by99 b8 a5)))))))) (fun b5 => (tnode (fun a6 => (tnode (fun a7 => (tleaf by100 b5 a7)) (fun b7 => (tnode (fun a8 => (tleaf by101 b7 a8)) (fun b8 => (tleaf by102 b8 a6)))))) (fun b6 => (tnode (fun a7 => (tleaf by103 b6 a7)) (fun b7 => (tnode (fun a8 => (tleaf by104 b7 a8)) (fun b8 => (tleaf by105 b8 a4)))))))))) (fun b4 => (tnode (fun a5 => (tnode (fun a6 => (tnode (fun a7 => (tleaf by106 b4 a7)) (fun b7 => (tnode (fun a8 => (tleaf by107 b7 a8)) (fun b8 => (tleaf by108 b8 a6)))))) (fun b6 => (tnode (fun a7 => (tleaf by109 b6 a7)) (fun b7 => (tnode (fun a8 => (tleaf by110 b7 a8)) (fun b8 => (tleaf by111 b8 a5)))))))) (fun b5 => (tnode (fun a6 => (tnode (fun a7 => (tleaf by112 b5 a7)) (fun b7 => (tnode (fun a8 => (tleaf by113 b7 a8)) (fun b8 => (tleaf by114 b8 a6)))))) (fun b6 => (tnode (fun a7 => (tleaf by115 b6 a7)) (fun b7 => (tnode (fun a8 => (tleaf by116 b7 a8)) (fun b8 => (tleaf by117 b8 a3)))))))))))) (fun b3 => (tnode (fun a4 => (tnode (fun a5 => (tnode (fun a6 => (tnode (fun a7 => (tleaf by118 b3 a7)) (fun b7 => (tnode (fun a8 => (tleaf by119 b7 a8)) (fun b8 => (tleaf by120 b8 a6)))))) (fun b6 => (tnode (fun a7 => (tleaf by121 b6 a7)) (fun b7 => (tnode (fun a8 => (tleaf by122 b7 a8)) (fun b8 => (tleaf by123 b8 a5)))))))) (fun b5 => (tnode (fun a6 => (tnode (fun a7 => (tleaf by124 b5 a7)) (fun b7 => (tnode (fun a8 => (tleaf by125 b7 a8)) (fun b8 => (tleaf by126 b8 a6)))))) (fun b6 => (tnode (fun a7 => (tleaf by127 b6 a7)) (fun b7 => (tnode (fun a8 => (tleaf by128 b7 a8)) (fun b8 => (tleaf by129 b8 a4)))))))))) (fun b4 => (tnode (fun a5 => (tnode (fun a6 => (tnode (fun a7 => (tleaf by130 b4 a7)) (fun b7 => (tnode (fun a8 => (tleaf by131 b7 a8)) (fun b8 => (tleaf by132 b8 a6)))))) (fun b6 => (tnode (fun a7 => (tleaf by133 b6 a7)) (fun b7 => (tnode (fun a8 => (tleaf by134 b7 a8)) (fun b8 => (tleaf by135 b8 a5)))))))) (fun b5 => (tnode (fun a6 => (tnode (fun a7 => (tleaf by136 b5 a7)) (fun b7 => (tnode (fun a8 => (tleaf by137 b7 a8)) (fun b8 => (tleaf by138 b8 a6)))))) (fun b6 => (tnode (fun a7 => (tleaf by139 b6 a7)) (fun b7 => (tnode (fun a8 => (tleaf by140 b7 a8)) (fun b8 => (tleaf by141 b8 a2)))))))))))))) (fun b2 => (tnode (fun a3 => (tnode (fun a4 => (tnode (fun a5 => (tnode (fun a6 => (tnode (fun a7 => (tleaf by142 b2 a7)) (fun b7 => (tnode (fun a8 => (tleaf by143 b7 a8)) (fun b8 => (tleaf by144 b8 a6)))))) (fun b6 => (tnode (fun a7 => (tleaf by145 b6 a7)) (fun b7 => (tnode (fun a8 => (tleaf by146 b7 a8)) (fun b8 => (tleaf by147 b8 a5)))))))) (fun b5 => (tnode (fun a6 => (tnode (fun a7 => (tleaf by148 b5 a7)) (fun b7 => (tnode (fun a8 => (tleaf by149 b7 a8)) (fun b8 => (tleaf by150 b8 a6)))))) (fun b6 => (tnode (fun a7 => (tleaf by151 b6 a7)) (fun b7 => (tnode (fun a8 => (tleaf by152 b7 a8)) (fun b8 => (tleaf by153 b8 a4)))))))))) (fun b4 => (tnode (fun a5 => (tnode (fun a6 => (tnode (fun a7 => (tleaf by154 b4 a7)) (fun b7 => (tnode (fun a8 => (tleaf by155 b7 a8)) (fun b8 => (tleaf by156 b8 a6)))))) (fun b6 => (tnode (fun a7 => (tleaf by157 b6 a7)) (fun b7 => (tnode (fun a8 => (tleaf by158 b7 a8)) (fun b8 => (tleaf by159 b8 a5)))))))) (fun b5 => (tnode (fun a6 => (tnode (fun a7 => (tleaf by160 b5 a7)) (fun b7 => (tnode (fun a8 => (tleaf by161 b7 a8)) (fun b8 => (tleaf by162 b8 a6)))))) (fun b6 => (tnode (fun a7 => (tleaf by163 b6 a7)) (fun b7 => (tnode (fun a8 => (tleaf by164 b7 a8)) (fun b8 => (tleaf by165 b8 a3)))))))))))) (fun b3 => (tnode (fun a4 => (tnode (fun a5 => (tnode (fun a6 => (tnode (fun a7 => (tleaf by166 b3 a7)) (fun b7 => (tnode (fun a8 => (tleaf by167 b7 a8)) (fun b8 => (tleaf by168 b8 a6)))))) (fun b6 => (tnode (fun a7 => (tleaf by169 b6 a7)) (fun b7 => (tnode (fun a8 => (tleaf by170 b7 a8)) (fun b8 => (tleaf by171 b8 a5)))))))) (fun b5 => (tnode (fun a6 => (tnode (fun a7 => (tleaf by172 b5 a7)) (fun b7 => (tnode (fun a8 => (tleaf by173 b7 a8)) (fun b8 => (tleaf by174 b8 a6)))))) (fun b6 => (tnode (fun a7 => (tleaf by175 b6 a7)) (fun b7 => (tnode (fun a8 => (tleaf by176 b7 a8)) (fun b8 => (tleaf by177 b8 a4)))))))))) (fun b4 => (tnode (fun a5 => (tnode (fun a6 => (tnode (fun a7 => (tleaf by178 b4 a7)) (fun b7 => (tnode (fun a8 => (tleaf by179 b7 a8)) (fun b8 => (tleaf by180 b8 a6)))))) (fun b6 => (tnode (fun a7 => (tleaf by181 b6 a7)) (fun b7 => (tnode (fun a8 => (tleaf by182 b7 a8)) (fun b8 => (tleaf by183 b8 a5)))))))) (fun b5 => (tnode (fun a6 => (tnode (fun a7 => (tleaf by184 b5 a7)) (fun b7 => (tnode (fun a8 => (tleaf by185 b7 a8)) (fun b8 => (tleaf by186 b8 a6)))))) (fun b6 => (tnode (fun a7 => (tleaf by187 b6 a7)) (fun b7 => (tnode (fun a8 => (tleaf by188 b7 a8)) (fun b8 => (tleaf by189 b8 a0)))))))))))))))))) (fun b0 => (tnode (fun a1 => (tnode (fun a2 => (tnode (fun a3 => (tnode (fun a4 => (tnode (fun a5 => (tnode (fun a6 => (tnode (fun a7 => (tleaf by190 b0 a7)) (fun b7 => (tleaf by191 b7 a6)))) (fun b6 => (tnode (fun a7 => (tleaf by192 b6 a7)) (fun b7 => (tnode (fun a8 => (tleaf by193 b7 a8)) (fun b8 => (tleaf by194 b8 a5)))))))) (fun b5 => (tnode (fun a6 => (tnode (fun a7 => (tleaf by195 b5 a7)) (fun b7 => (tnode (fun a8 => (tleaf by196 b7 a8)) (fun b8 => (tleaf by197 b8 a6)))))) (fun b6 => (tnode (fun a7 => (tleaf by198 b6 a7)) (fun b7 => (tnode (fun a8 => (tleaf by199 b7 a8)) (fun b8 => (tleaf by200 b8 a4)))))))))) (fun b4 => (tnode (fun a5 => (tnode (fun a6 => (tnode (fun a7 => (tleaf by201 b4 a7)) (fun b7 => (tnode (fun a8 => (tleaf by202 b7 a8)) (fun b8 => (tleaf by203 b8 a6)))))) (fun b6 => (tnode (fun a7 => (tleaf by204 b6 a7)) (fun b7 => (tnode (fun a8 => (tleaf by205 b7 a8)) (fun b8 => (tleaf by206 b8 a5)))))))) (fun b5 => (tnode (fun a6 => (tnode (fun a7 => (tleaf by207 b5 a7)) (fun b7 => (tnode (fun a8 => (tleaf by208 b7 a8)) (fun b8 => (tleaf by209 b8 a6)))))) (fun b6 => (tnode (fun a7 => (tleaf by210 b6 a7)) (fun b7 => (tnode (fun a8 => (tleaf by211 b7 a8)) (fun b8 => (tleaf by212 b8 a3)))))))))))) (fun b3 => (tnode (fun a4 => (tnode (fun a5 => (tnode (fun a6 => (tnode (fun a7 => (tleaf by213 b3 a7)) (fun b7 => (tnode (fun a8 => (tleaf by214 b7 a8)) (fun b8 => (tleaf by215 b8 a6)))))) (fun b6 => (tnode (fun a7 => (tleaf by216 b6 a7)) (fun b7 => (tnode (fun a8 => (tleaf by217 b7 a8)) (fun b8 => (tleaf by218 b8 a5)))))))) (fun b5 => (tnode (fun a6 => (tnode (fun a7 => (tleaf by219 b5 a7)) (fun b7 => (tnode (fun a8 => (tleaf by220 b7 a8)) (fun b8 => (tleaf by221 b8 a6)))))) (fun b6 => (tnode (fun a7 => (tleaf by222 b6 a7)) (fun b7 => (tnode (fun a8 => (tleaf by223 b7 a8)) (fun b8 => (tleaf by224 b8 a4)))))))))) (fun b4 => (tnode (fun a5 => (tnode (fun a6 => (tnode (fun a7 => (tleaf by225 b4 a7)) (fun b7 => (tnode (fun a8 => (tleaf by226 b7 a8)) (fun b8 => (tleaf by227 b8 a6)))))) (fun b6 => (tnode (fun a7 => (tleaf by228 b6 a7)) (fun b7 => (tnode (fun a8 => (tleaf by229 b7 a8)) (fun b8 => (tleaf by230 b8 a5)))))))) (fun b5 => (tnode (fun a6 => (tnode (fun a7 => (tleaf by231 b5 a7)) (fun b7 => (tnode (fun a8 => (tleaf by232 b7 a8)) (fun b8 => (tleaf by233 b8 a6)))))) (fun b6 => (tnode (fun a7 => (tleaf by234 b6 a7)) (fun b7 => (tnode (fun a8 => (tleaf by235 b7 a8)) (fun b8 => (tleaf by236 b8 a2)))))))))))))) (fun b2 => (tnode (fun a3 => (tnode (fun a4 => (tnode (fun a5 => (tnode (fun a6 => (tnode (fun a7 => (tleaf by237 b2 a7)) (fun b7 => (tnode (fun a8 => (tleaf by238 b7 a8)) (fun b8 => (tleaf by239 b8 a6)))))) (fun b6 => (tnode (fun a7 => (tleaf by240 b6 a7)) (fun b7 => (tnode (fun a8 => (tleaf by241 b7 a8)) (fun b8 => (tleaf by242 b8 a5)))))))) (fun b5 => (tnode (fun a6 => (tnode (fun a7 => (tleaf by243 b5 a7)) (fun b7 => (tnode (fun a8 => (tleaf by244 b7 a8)) (fun b8 => (tleaf by245 b8 a6)))))) (fun b6 => (tnode (fun a7 => (tleaf by246 b6 a7)) (fun b7 => (tnode (fun a8 => (tleaf by247 b7 a8)) (fun b8 => (tleaf by248 b8 a4)))))))))) (fun b4 => (tnode (fun a5 => (tnode (fun a6 => (tnode (fun a7 => (tleaf by249 b4 a7)) (fun b7 => (tnode (fun a8 => (tleaf by250 b7 a8)) (fun b8 => (tleaf by251 b8 a6)))))) (fun b6 => (tnode (fun a7 => (tleaf by252 b6 a7)) (fun b7 => (tnode (fun a8 => (tleaf by253 b7 a8)) (fun b8 => (tleaf by254 b8 a5)))))))) (fun b5 => (tnode (fun a6 => (tnode (fun a7 => (tleaf by255 b5 a7)) (fun b7 => (tnode (fun a8 => (tleaf by256 b7 a8)) (fun b8 => (tleaf by257 b8 a6)))))) (fun b6 => (tnode (fun a7 => (tleaf by258 b6 a7)) (fun b7 => (tnode (fun a8 => (tleaf by259 b7 a8)) (fun b8 => (tleaf by260 b8 a3)))))))))))) (fun b3 => (tnode (fun a4 => (tnode (fun a5 => (tnode (fun a6 => (tnode (fun a7 => (tleaf by261 b3 a7)) (fun b7 => (tnode (fun a8 => (tleaf by262 b7 a8)) (fun b8 => (tleaf by263 b8 a6)))))) (fun b6 => (tnode (fun a7 => (tleaf by264 b6 a7)) (fun b7 => (tnode (fun a8 => (tleaf by265 b7 a8)) (fun b8 => (tleaf by266 b8 a5)))))))) (fun b5 => (tnode (fun a6 => (tnode (fun a7 => (tleaf by267 b5 a7)) (fun b7 => (tnode (fun a8 => (tleaf by268 b7 a8)) (fun b8 => (tleaf by269 b8 a6)))))) (fun b6 => (tnode (fun a7 => (tleaf by270 b6 a7)) (fun b7 => (tnode (fun a8 => (tleaf by271 b7 a8)) (fun b8 => (tleaf by272 b8 a4)))))))))) (fun b4 => (tnode (fun a5 => (tnode (fun a6 => (tnode (fun a7 => (tleaf by273 b4 a7)) (fun b7 => (tnode (fun a8 => (tleaf by274 b7 a8)) (fun b8 => (tleaf by275 b8 a6)))))) (fun b6 => (tnode (fun a7 => (tleaf by276 b6 a7)) (fun b7 => (tnode (fun a8 => (tleaf by277 b7 a8)) (fun b8 => (tleaf by278 b8 a5)))))))) (fun b5 => (tnode (fun a6 => (tnode (fun a7 => (tleaf by279 b5 a7)) (fun b7 => (tnode (fun a8 => (tleaf by280 b7 a8)) (fun b8 => (tleaf by281 b8 a6)))))) (fun b6 => (tnode (fun a7 => (tleaf by282 b6 a7)) (fun b7 => (tnode (fun a8 => (tleaf by283 b7 a8)) (fun b8 => (tleaf by284 b8 a1)))))))))))))))) (fun b1 => (tnode (fun a2 => (tnode (fun a3 => (tnode (fun a4 => (tnode (fun a5 => (tnode (fun a6 => (tnode (fun a7 => (tleaf by285 b1 a7)) (fun b7 => (tnode (fun a8 => (tleaf by286 b7 a8)) (fun b8 => (tleaf by287 b8 a6)))))) (fun b6 => (tnode (fun a7 => (tleaf by288 b6 a7)) (fun b7 => (tnode (fun a8 => (tleaf by289 b7 a8)) (fun b8 => (tleaf by290 b8 a5)))))))) (fun b5 => (tnode (fun a6 => (tnode (fun a7 => (tleaf by291 b5 a7)) (fun b7 => (tnode (fun a8 => (tleaf by292 b7 a8)) (fun b8 => (tleaf by293 b8 a6)))))) (fun b6 => (tnode (fun a7 => (tleaf by294 b6 a7)) (fun b7 => (tnode (fun a8 => (tleaf by295 b7 a8)) (fun b8 => (tleaf by296 b8 a4)))))))))) (fun b4 => (tnode (fun a5 => (tnode (fun a6 => (tnode (fun a7 => (tleaf by297 b4 a7)) (fun b7 => (tnode (fun a8 => (tleaf by298 b7 a8)) (fun b8 => (tleaf by299 b8 a6)))))) (fun b6 => (tnode (fun a7 => (tleaf by300 b6 a7)) (fun b7 => (tnode (fun a8 => (tleaf by301 b7 a8)) (fun b8 => (tleaf by302 b8 a5)))))))) (fun b5 => (tnode (fun a6 => (tnode (fun a7 => (tleaf by303 b5 a7)) (fun b7 => (tnode (fun a8 => (tleaf by304 b7 a8)) (fun b8 => (tleaf by305 b8 a6)))))) (fun b6 => (tnode (fun a7 => (tleaf by306 b6 a7)) (fun b7 => (tnode (fun a8 => (tleaf by307 b7 a8)) (fun b8 => (tleaf by308 b8 a3)))))))))))) (fun b3 => (tnode (fun a4 => (tnode (fun a5 => (tnode (fun a6 => (tnode (fun a7 => (tleaf by309 b3 a7)) (fun b7 => (tnode (fun a8 => (tleaf by310 b7 a8)) (fun b8 => (tleaf by311 b8 a6)))))) (fun b6 => (tnode (fun a7 => (tleaf by312 b6 a7)) (fun b7 => (tnode (fun a8 => (tleaf by313 b7 a8)) (fun b8 => (tleaf by314 b8 a5)))))))) (fun b5 => (tnode (fun a6 => (tnode (fun a7 => (tleaf by315 b5 a7)) (fun b7 => (tnode (fun a8 => (tleaf by316 b7 a8)) (fun b8 => (tleaf by317 b8 a6)))))) (fun b6 => (tnode (fun a7 => (tleaf by318 b6 a7)) (fun b7 => (tnode (fun a8 => (tleaf by319 b7 a8)) (fun b8 => (tleaf by320 b8 a4)))))))))) (fun b4 => (tnode (fun a5 => (tnode (fun a6 => (tnode (fun a7 => (tleaf by321 b4 a7)) (fun b7 => (tnode (fun a8 => (tleaf by322 b7 a8)) (fun b8 => (tleaf by323 b8 a6)))))) (fun b6 => (tnode (fun a7 => (tleaf by324 b6 a7)) (fun b7 => (tnode (fun a8 => (tleaf by325 b7 a8)) (fun b8 => (tleaf by326 b8 a5)))))))) (fun b5 => (tnode (fun a6 => (tnode (fun a7 => (tleaf by327 b5 a7)) (fun b7 => (tnode (fun a8 => (tleaf by328 b7 a8)) (fun b8 => (tleaf by329 b8 a6)))))) (fun b6 => (tnode (fun a7 => (tleaf by330 b6 a7)) (fun b7 => (tnode (fun a8 => (tleaf by331 b7 a8)) (fun b8 => (tleaf by332 b8 a2)))))))))))))) (fun b2 => (tnode (fun a3 => (tnode (fun a4 => (tnode (fun a5 => (tnode (fun a6 => (tnode (fun a7 => (tleaf by333 b2 a7)) (fun b7 => (tnode (fun a8 => (tleaf by334 b7 a8)) (fun b8 => (tleaf by335 b8 a6)))))) (fun b6 => (tnode (fun a7 => (tleaf by336 b6 a7)) (fun b7 => (tnode (fun a8 => (tleaf by337 b7 a8)) (fun b8 => (tleaf by338 b8 a5)))))))) (fun b5 => (tnode (fun a6 => (tnode (fun a7 => (tleaf by339 b5 a7)) (fun b7 => (tnode (fun a8 => (tleaf by340 b7 a8)) (fun b8 => (tleaf by341 b8 a6)))))) (fun b6 => (tnode (fun a7 => (tleaf by342 b6 a7)) (fun b7 => (tnode (fun a8 => (tleaf by343 b7 a8)) (fun b8 => (tleaf by344 b8 a4)))))))))) (fun b4 => (tnode (fun a5 => (tnode (fun a6 => (tnode (fun a7 => (tleaf by345 b4 a7)) (fun b7 => (tnode (fun a8 => (tleaf by346 b7 a8)) (fun b8 => (tleaf by347 b8 a6)))))) (fun b6 => (tnode (fun a7 => (tleaf by348 b6 a7)) (fun b7 => (tnode (fun a8 => (tleaf by349 b7 a8)) (fun b8 => (tleaf by350 b8 a5)))))))) (fun b5 => (tnode (fun a6 => (tnode (fun a7 => (tleaf by351 b5 a7)) (fun b7 => (tnode (fun a8 => (tleaf by352 b7 a8)) (fun b8 => (tleaf by353 b8 a6)))))) (fun b6 => (tnode (fun a7 => (tleaf by354 b6 a7)) (fun b7 => (tnode (fun a8 => (tleaf by355 b7 a8)) (fun b8 => (tleaf by356 b8 a3)))))))))))) (fun b3 => (tnode (fun a4 => (tnode (fun a5 => (tnode (fun a6 => (tnode (fun a7 => (tleaf by357 b3 a7)) (fun b7 => (tnode (fun a8 => (tleaf by358 b7 a8)) (fun b8 => (tleaf by359 b8 a6)))))) (fun b6 => (tnode (fun a7 => (tleaf by360 b6 a7)) (fun b7 => (tnode (fun a8 => (tleaf by361 b7 a8)) (fun b8 => (tleaf by362 b8 a5)))))))) (fun b5 => (tnode (fun a6 => (tnode (fun a7 => (tleaf by363 b5 a7)) (fun b7 => (tnode (fun a8 => (tleaf by364 b7 a8)) (fun b8 => (tleaf by365 b8 a6)))))) (fun b6 => (tnode (fun a7 => (tleaf by366 b6 a7)) (fun b7 => (tnode (fun a8 => (tleaf by367 b7 a8)) (fun b8 => (tleaf by368 b8 a4)))))))))) (fun b4 => (tnode (fun a5 => (tnode (fun a6 => (tnode (fun a7 => (tleaf by369 b4 a7)) (fun b7 => (tnode (fun a8 => (tleaf by370 b7 a8)) (fun b8 => (tleaf by371 b8 a6)))))) (fun b6 => (tnode (fun a7 => (tleaf by372 b6 a7)) (fun b7 => (tnode (fun a8 => (tleaf by373 b7 a8)) (fun b8 => (tleaf by374 b8 a5)))))))) (fun b5 => (tnode (fun a6 => (tnode (fun a7 => (tleaf by375 b5 a7)) (fun b7 => (tnode (fun a8 => (tleaf by376 b7 a8)) (fun b8 => (tleaf by377 b8 a6)))))) (fun b6 => (tnode (fun a7 => (tleaf by378 b6 a7)) (fun b7 => (tnode (fun a8 => (tleaf by379 b7 a8)) (fun b8 => (tleaf by380 b8 u)))))))))))))))))))) (fun _ => tnone)
def tab_ze (t : Nat) : Option (List AV) := if t < 381 then (if t < 190 then (if t < 95 then (if t < 47 then (if t < 23 then (if t < 11 then (if t < 5 then (if t < 2 then (if t < 1 then some [AV.lit (Value.tuple { toList := [] })] else some [AV.lit Value.nilFunc]) else (if t < 3 then some [AV.lit (Value.int IntKind.i64 0)] else (if t < 4 then some [AV.lit (Value.int IntKind.i64 0)] else some [AV.lit (Value.bool false)]))) else (if t < 8 then (if t < 6 then some [AV.lit (Value.int IntKind.u8 0)] else (if t < 7 then some [AV.lit (Value.int IntKind.u8 0)] else some [AV.lit (Value.int IntKind.i64 0), AV.lit (Value.int IntKind.i64 0), AV.lit (Value.bool false), AV.lit (Value.int IntKind.u8 0)])) else (if t < 9 then some [AV.lit (Value.int IntKind.i64 0), AV.lit (Value.int IntKind.i64 0), AV.lit (Value.bool false), AV.lit (Value.int IntKind.u8 0)] else (if t < 10 then some [AV.str []] else some [AV.str []])))) else (if t < 17 then (if t < 14 then (if t < 12 then some [AV.str []] else (if t < 13 then some [AV.lit (Value.int IntKind.u64 0)] else some [AV.str [], AV.lit (Value.int IntKind.u64 0)])) else (if t < 15 then some [AV.str [], AV.lit (Value.int IntKind.u64 0)] else (if t < 16 then some [AV.lit (Value.pointer none)] else some [AV.lit (Value.pointer none)]))) else (if t < 20 then (if t < 18 then some [AV.lit (Value.pointer none)] else (if t < 19 then some [AV.lit (Value.pointer none)] else some [AV.lit (Value.pointer none)])) else (if t < 21 then some [AV.lit Value.nilIface] else (if t < 22 then some [AV.lit (Value.int IntKind.i32 0)] else some [AV.lit (Value.slice none 0 0)]))))) else (if t < 35 then (if t < 29 then (if t < 26 then (if t < 24 then some [AV.lit Value.nilFunc] else (if t < 25 then some [AV.lit Value.nilFunc] else some [AV.lit (Value.pointer none)])) else (if t < 27 then some [AV.lit Value.nilFunc] else (if t < 28 then some [AV.lit Value.nilFunc] else some [AV.lit Value.nilFunc]))) else (if t < 32 then (if t < 30 then some [AV.str [], AV.str []] else (if t < 31 then some [AV.lit (Value.slice none 0 0)] else some [AV.lit (Value.int IntKind.i64 0)])) else (if t < 33 then some [AV.lit (Value.tuple { toList := [Value.string { data := { toList := [] } }, Value.int IntKind.i64 0] })] else (if t < 34 then some [AV.lit Value.nilFunc] else some [AV.lit Value.nilFunc])))) else (if t < 41 then (if t < 38 then (if t < 36 then some [AV.lit (Value.slice none 0 0)] else (if t < 37 then some [AV.lit (Value.tuple { toList := [Value.string { data := { toList := [] } }, Value.string { data := { toList := [] } }, Value.int IntKind.i64 0] })] else some [AV.lit Value.nilFunc])) else (if t < 39 then some [AV.lit Value.nilFunc] else (if t < 40 then some [AV.lit Value.nilFunc] else some [AV.lit (Value.slice none 0 0)]))) else (if t < 44 then (if t < 42 then some [AV.lit (Value.slice none 0 0)] else (if t < 43 then some [AV.lit (Value.slice none 0 0)] else some [AV.lit (Value.slice none 0 0)])) else (if t < 45 then some [AV.lit (Value.tuple { toList := [Value.slice none 0 0, Value.slice none 0 0, Value.int IntKind.i64 0] })] else (if t < 46 then some [AV.lit Value.nilFunc] else some [AV.lit (Value.slice none 0 0)])))))) else (if t < 71 then (if t < 59 then (if t < 53 then (if t < 50 then (if t < 48 then some [AV.lit (Value.slice none 0 0), AV.lit (Value.slice none 0 0)] else (if t < 49 then some [AV.lit (Value.slice none 0 0), AV.lit (Value.slice none 0 0)] else some [AV.lit Value.nilFunc])) else (if t < 51 then some [AV.lit (Value.slice none 0 0), AV.lit (Value.int IntKind.i64 0)] else (if t < 52 then some [AV.lit (Value.slice none 0 0), AV.lit (Value.int IntKind.i64 0)] else some [AV.lit Value.nilFunc]))) else (if t < 56 then (if t < 54 then some [AV.lit Value.nilFunc] else (if t < 55 then some [AV.lit Value.nilFunc] else some [AV.lit Value.nilFunc])) else (if t < 57 then some [AV.lit (Value.slice none 0 0)] else (if t < 58 then some [AV.lit Value.nilFunc] else some [AV.lit Value.nilFunc])))) else (if t < 65 then (if t < 62 then (if t < 60 then some [AV.lit (Value.slice none 0 0)] else (if t < 61 then some [AV.str [], AV.lit (Value.int IntKind.i64 0), AV.str [], AV.lit (Value.int IntKind.i64 0), AV.lit (Value.slice none 0 0)] else some [AV.str [], AV.lit (Value.int IntKind.i64 0), AV.str [], AV.lit (Value.int IntKind.i64 0), AV.lit (Value.slice none 0 0)])) else (if t < 63 then some [AV.lit (Value.tuple { toList := [Value.agg { toList := [Value.string { data := { toList := [] } }, Value.int IntKind.i64 0, Value.string { data := { toList := [] } }, Value.int IntKind.i64 0, Value.slice none 0 0] }, Value.bool false] })] else (if t < 64 then some [AV.lit Value.nilFunc] else some [AV.lit (Value.slice none 0 0)]))) else (if t < 68 then (if t < 66 then some [AV.lit (Value.slice none 0 0)] else (if t < 67 then some [AV.lit (Value.slice none 0 0)] else some [AV.lit (Value.tuple { toList := [Value.agg { toList := [Value.slice none 0 0] }, Value.bool false] })])) else (if t < 69 then some [AV.lit Value.nilFunc] else (if t < 70 then some [AV.str [], AV.lit (Value.int IntKind.i64 0), AV.str []] else some [AV.str [], AV.lit (Value.int IntKind.i64 0), AV.str []]))))) else (if t < 83 then (if t < 77 then (if t < 74 then (if t < 72 then some [AV.str [], AV.lit (Value.slice none 0 0), AV.lit (Value.slice none 0 0), AV.str [], AV.lit (Value.int IntKind.i64 0), AV.str []] else (if t < 73 then some [AV.str [], AV.lit (Value.slice none 0 0), AV.lit (Value.slice none 0 0), AV.str [], AV.lit (Value.int IntKind.i64 0), AV.str []] else some [AV.str [], AV.lit (Value.slice none 0 0), AV.lit (Value.slice none 0 0), AV.str [], AV.lit (Value.int IntKind.i64 0), AV.str [], AV.lit (Value.int IntKind.i64 0), AV.lit (Value.int IntKind.i64 0)])) else (if t < 75 then some [AV.str [], AV.lit (Value.slice none 0 0), AV.lit (Value.slice none 0 0), AV.str [], AV.lit (Value.int IntKind.i64 0), AV.str [], AV.lit (Value.int IntKind.i64 0), AV.lit (Value.int IntKind.i64 0)] else (if t < 76 then some [AV.lit Value.nilFunc] else some [AV.lit Value.nilFunc]))) else (if t < 80 then (if t < 78 then some [AV.lit (Value.int IntKind.i64 0), AV.str []] else (if t < 79 then some [AV.lit (Value.int IntKind.i64 0), AV.str []] else some [AV.lit (Value.int IntKind.u32 0)])) else (if t < 81 then some [AV.lit (Value.int IntKind.u32 0), AV.lit (Value.int IntKind.u32 0), AV.lit (Value.int IntKind.u32 0), AV.lit (Value.int IntKind.u32 0), AV.lit (Value.int IntKind.u32 0), AV.lit (Value.int IntKind.u32 0), AV.lit (Value.int IntKind.u32 0), AV.lit (Value.int IntKind.u32 0)] else (if t < 82 then some [AV.lit Value.nilFunc] else some (List.replicate 64 (AV.lit (Value.int IntKind.u32 0))))))) else (if t < 89 then (if t < 86 then (if t < 84 then some [AV.lit Value.nilFunc] else (if t < 85 then some [AV.lit Value.nilFunc] else some [AV.lit (Value.int IntKind.u64 0)])) else (if t < 87 then some [AV.lit (Value.tuple { toList := [Value.agg { toList := [Value.int IntKind.i64 0, Value.string { data := { toList := [] } }] }, Value.int IntKind.i64 0, Value.int IntKind.i64 0] })] else (if t < 88 then some [AV.lit Value.nilFunc] else some [AV.lit Value.nilFunc]))) else (if t < 92 then (if t < 90 then some [AV.lit (Value.pointer none)] else (if t < 91 then some [AV.lit Value.nilFunc] else some [AV.lit Value.nilFunc])) else (if t < 93 then some [AV.lit Value.nilFunc] else (if t < 94 then some [AV.lit (Value.tuple { toList := [Value.string { data := { toList := [] } }, Value.bool false] })] else some [AV.lit Value.nilFunc]))))))) else (if t < 142 then (if t < 118 then (if t < 106 then (if t < 100 then (if t < 97 then (if t < 96 then some [AV.lit Value.nilFunc] else some [AV.lit (Value.int IntKind.u64 0)]) else (if t < 98 then some [AV.lit Value.nilFunc] else (if t < 99 then some [AV.lit Value.nilFunc] else some [AV.str [], AV.lit (Value.int IntKind.i64 0)]))) else (if t < 103 then (if t < 101 then some [AV.str [], AV.lit (Value.int IntKind.i64 0)] else (if t < 102 then some [AV.lit (Value.tuple { toList := [Value.int IntKind.i64 0, Value.agg { toList := [Value.string { data := { toList := [] } }, Value.int IntKind.i64 0] }, Value.bool false] })] else some [AV.lit Value.nilFunc])) else (if t < 104 then some [AV.lit Value.nilFunc] else (if t < 105 then some [AV.lit Value.nilFunc] else some [AV.lit Value.nilFunc])))) else (if t < 112 then (if t < 109 then (if t < 107 then some [AV.str [], AV.lit (Value.int IntKind.i64 0)] else (if t < 108 then some [AV.str [], AV.lit (Value.int IntKind.i64 0)] else some [AV.lit Value.nilFunc])) else (if t < 110 then some [AV.lit (Value.int IntKind.i64 0), AV.str []] else (if t < 111 then some [AV.lit (Value.int IntKind.i64 0), AV.str []] else some [AV.lit Value.nilFunc]))) else (if t < 115 then (if t < 113 then some [AV.lit Value.nilFunc] else (if t < 114 then some [AV.lit (Value.map none)] else some [AV.lit Value.nilFunc])) else (if t < 116 then some [AV.lit Value.nilFunc] else (if t < 117 then some [AV.lit (Value.tuple { toList := [Value.int IntKind.u64 0, Value.int IntKind.u64 0] })] else some [AV.lit Value.nilFunc]))))) else (if t < 130 then (if t < 124 then (if t < 121 then (if t < 119 then some [AV.lit (Value.pointer none)] else (if t < 120 then some [AV.lit (Value.pointer none), AV.lit (Value.slice none 0 0)] else some [AV.lit (Value.pointer none), AV.lit (Value.slice none 0 0)])) else (if t < 122 then some [AV.lit Value.nilFunc] else (if t < 123 then some [AV.lit Value.nilIface] else some [AV.lit Value.nilIface]))) else (if t < 127 then (if t < 125 then some [AV.lit (Value.tuple { toList := [Value.int IntKind.i64 0, Value.nilIface] })] else (if t < 126 then some [AV.lit Value.nilFunc] else some [AV.lit (Value.tuple { toList := [Value.int IntKind.i64 0, Value.bool false] })])) else (if t < 128 then some [AV.lit Value.nilFunc] else (if t < 129 then some [AV.lit (Value.map none)] else some [AV.lit Value.nilFunc])))) else (if t < 136 then (if t < 133 then (if t < 131 then some [AV.lit Value.nilFunc] else (if t < 132 then some [AV.lit (Value.tuple { toList := [Value.int IntKind.u32 0, Value.int IntKind.u32 0] })] else some [AV.lit Value.nilFunc])) else (if t < 134 then some [AV.lit (Value.tuple { toList := [Value.int IntKind.u64 0, Value.int IntKind.u64 0] })] else (if t < 135 then some [AV.lit Value.nilFunc] else some [AV.lit (Value.pointer none)]))) else (if t < 139 then (if t < 137 then some [AV.lit Value.nilFunc] else (if t < 138 then some [AV.lit (Value.slice none 0 0)] else some [AV.lit (Value.int IntKind.i64 0), AV.lit (Value.slice none 0 0)])) else (if t < 140 then some [AV.lit (Value.int IntKind.i64 0), AV.lit (Value.slice none 0 0)] else (if t < 141 then some [AV.lit (Value.slice none 0 0)] else some [AV.lit (Value.int IntKind.i64 0), AV.lit (Value.int IntKind.i64 0), AV.str [], AV.str [], AV.lit (Value.int IntKind.i64 0), AV.str [], AV.lit (Value.int IntKind.i64 0), AV.lit (Value.slice none 0 0), AV.lit (Value.slice none 0 0), AV.lit (Value.int IntKind.i64 0), AV.lit (Value.slice none 0 0), AV.lit (Value.slice none 0 0), AV.lit (Value.int IntKind.i64 0), AV.lit (Value.slice none 0 0), AV.lit (Value.slice none 0 0), AV.lit (Value.slice none 0 0), AV.lit (Value.slice none 0 0), AV.lit (Value.slice none 0 0), AV.str []])))))) else (if t < 166 then (if t < 154 then (if t < 148 then (if t < 145 then (if t < 143 then some [AV.lit (Value.int IntKind.i64 0), AV.lit (Value.int IntKind.i64 0), AV.str [], AV.str [], AV.lit (Value.int IntKind.i64 0), AV.str [], AV.lit (Value.int IntKind.i64 0), AV.lit (Value.slice none 0 0), AV.lit (Value.slice none 0 0), AV.lit (Value.int IntKind.i64 0), AV.lit (Value.slice none 0 0), AV.lit (Value.slice none 0 0), AV.lit (Value.int IntKind.i64 0), AV.lit (Value.slice none 0 0), AV.lit (Value.slice none 0 0), AV.lit (Value.slice none 0 0), AV.lit (Value.slice none 0 0), AV.lit (Value.slice none 0 0), AV.str []] else (if t < 144 then some [AV.lit (Value.tuple { toList := [Value.agg { toList := [Value.int IntKind.i64 0, Value.int IntKind.i64 0, Value.string { data := { toList := [] } }, Value.string { data := { toList := [] } }, Value.int IntKind.i64 0, Value.string { data := { toList := [] } }, Value.int IntKind.i64 0, Value.slice none 0 0, Value.slice none 0 0, Value.int IntKind.i64 0, Value.slice none 0 0, Value.slice none 0 0, Value.int IntKind.i64 0, Value.slice none 0 0, Value.slice none 0 0, Value.slice none 0 0, Value.slice none 0 0, Value.slice none 0 0, Value.string { data := { toList := [] } }] }, Value.int IntKind.i64 0] })] else some [AV.lit Value.nilFunc])) else (if t < 146 then some [AV.lit (Value.pointer none)] else (if t < 147 then some [AV.lit Value.nilFunc] else some [AV.lit Value.nilFunc]))) else (if t < 151 then (if t < 149 then some (List.replicate 256 (AV.lit (Value.int IntKind.u8 0))) else (if t < 150 then some [AV.lit Value.nilFunc] else some [AV.lit (Value.slice none 0 0)])) else (if t < 152 then some [AV.lit (Value.int IntKind.i64 0), AV.lit (Value.bool false), AV.lit (Value.int IntKind.i64 0), AV.str [], AV.lit (Value.slice none 0 0), AV.lit (Value.slice none 0 0)] else (if t < 153 then some [AV.lit (Value.int IntKind.i64 0), AV.lit (Value.bool false), AV.lit (Value.int IntKind.i64 0), AV.str [], AV.lit (Value.slice none 0 0), AV.lit (Value.slice none 0 0)] else some [AV.str [], AV.lit (Value.int IntKind.i64 0), AV.lit (Value.int IntKind.i64 0), AV.lit (Value.int IntKind.i64 0), AV.lit (Value.int IntKind.i64 0)])))) else (if t < 160 then (if t < 157 then (if t < 155 then some [AV.str [], AV.lit (Value.int IntKind.i64 0), AV.lit (Value.int IntKind.i64 0), AV.lit (Value.int IntKind.i64 0), AV.lit (Value.int IntKind.i64 0)] else (if t < 156 then some [AV.lit (Value.tuple { toList := [Value.agg { toList := [Value.int IntKind.i64 0, Value.bool false, Value.int IntKind.i64 0, Value.string { data := { toList := [] } }, Value.slice none 0 0, Value.slice none 0 0] }, Value.agg { toList := [Value.string { data := { toList := [] } }, Value.int IntKind.i64 0, Value.int IntKind.i64 0, Value.int IntKind.i64 0, Value.int IntKind.i64 0] }, Value.int IntKind.i64 0] })] else some [AV.lit Value.nilFunc])) else (if t < 158 then some [AV.lit Value.nilFunc] else (if t < 159 then some [AV.lit Value.nilFunc] else some [AV.lit (Value.int IntKind.i64 0), AV.lit (Value.bool false), AV.lit (Value.int IntKind.i64 0), AV.str [], AV.lit (Value.slice none 0 0), AV.lit (Value.slice none 0 0)]))) else (if t < 163 then (if t < 161 then some [AV.lit (Value.int IntKind.i64 0), AV.lit (Value.bool false), AV.lit (Value.int IntKind.i64 0), AV.str [], AV.lit (Value.slice none 0 0), AV.lit (Value.slice none 0 0)] else (if t < 162 then some [AV.lit (Value.tuple { toList := [Value.agg { toList := [Value.int IntKind.i64 0, Value.bool false, Value.int IntKind.i64 0, Value.string { data := { toList := [] } }, Value.slice none 0 0, Value.slice none 0 0] }, Value.string { data := { toList := [] } }, Value.int IntKind.i64 0] })] else some [AV.lit Value.nilFunc])) else (if t < 164 then some [AV.lit Value.nilFunc] else (if t < 165 then some [AV.lit Value.nilFunc] else some [AV.lit Value.nilFunc]))))) else (if t < 178 then (if t < 172 then (if t < 169 then (if t < 167 then some [AV.lit Value.nilFunc] else (if t < 168 then some [AV.lit Value.nilFunc] else some [AV.lit (Value.tuple { toList := [Value.agg { toList := [Value.string { data := { toList := [] } }, Value.int IntKind.i64 0, Value.int IntKind.i64 0, Value.int IntKind.i64 0, Value.int IntKind.i64 0] }, Value.int IntKind.i64 0, Value.int IntKind.i64 0] })])) else (if t < 170 then some [AV.lit Value.nilFunc] else (if t < 171 then some [AV.lit Value.nilFunc] else some [AV.lit (Value.tuple { toList := [Value.agg { toList := [Value.int IntKind.i64 0, Value.bool false, Value.int IntKind.i64 0, Value.string { data := { toList := [] } }, Value.slice none 0 0, Value.slice none 0 0] }, Value.int IntKind.i64 0] })]))) else (if t < 175 then (if t < 173 then some [AV.lit Value.nilFunc] else (if t < 174 then some [AV.lit (Value.tuple { toList := [Value.agg { toList := [Value.int IntKind.i64 0, Value.bool false, Value.int IntKind.i64 0, Value.string { data := { toList := [] } }, Value.slice none 0 0, Value.slice none 0 0] }, Value.bool false] })] else some [AV.lit Value.nilFunc])) else (if t < 176 then some [AV.lit Value.nilFunc] else (if t < 177 then some [AV.lit Value.nilFunc] else some [AV.lit Value.nilFunc])))) else (if t < 184 then (if t < 181 then (if t < 179 then some [AV.lit Value.nilFunc] else (if t < 180 then some [AV.lit Value.nilFunc] else some [AV.lit Value.nilFunc])) else (if t < 182 then some [AV.lit Value.nilFunc] else (if t < 183 then some [AV.lit Value.nilFunc] else some [AV.lit Value.nilFunc]))) else (if t < 187 then (if t < 185 then some [AV.lit Value.nilFunc] else (if t < 186 then some [AV.lit (Value.pointer none)] else some [AV.lit Value.nilFunc])) else (if t < 188 then some [AV.lit Value.nilFunc] else (if t < 189 then some [AV.lit Value.nilFunc] else some [AV.lit Value.nilFunc])))))))) else (if t < 285 then (if t < 237 then (if t < 213 then (if t < 201 then (if t < 195 then (if t < 192 then (if t < 191 then some [AV.lit Value.nilFunc] else some [AV.lit Value.nilFunc]) else (if t < 193 then some [AV.lit Value.nilFunc] else (if t < 194 then some [AV.lit (Value.int IntKind.i64 0), AV.lit (Value.bool false), AV.lit (Value.int IntKind.i64 0), AV.str [], AV.lit (Value.slice none 0 0), AV.lit (Value.slice none 0 0)] else some [AV.lit Value.nilFunc]))) else (if t < 198 then (if t < 196 then some [AV.lit Value.nilFunc] else (if t < 197 then some [AV.lit Value.nilFunc] else some [AV.lit (Value.tuple { toList := [Value.agg { toList := [Value.string { data := { toList := [] } }, Value.int IntKind.i64 0, Value.int IntKind.i64 0, Value.int IntKind.i64 0, Value.int IntKind.i64 0] }, Value.int IntKind.i64 0] })])) else (if t < 199 then some [AV.lit Value.nilFunc] else (if t < 200 then some [AV.lit Value.nilFunc] else some [AV.lit Value.nilFunc])))) else (if t < 207 then (if t < 204 then (if t < 202 then some [AV.lit (Value.map none)] else (if t < 203 then some [AV.lit Value.nilFunc] else some [AV.lit Value.nilFunc])) else (if t < 205 then some [AV.lit Value.nilFunc] else (if t < 206 then some [AV.lit Value.nilFunc, AV.lit Value.nilFunc] else some [AV.lit Value.nilFunc, AV.lit Value.nilFunc]))) else (if t < 210 then (if t < 208 then some [AV.lit (Value.tuple { toList := [Value.agg { toList := [Value.nilFunc, Value.nilFunc] }, Value.bool false] })] else (if t < 209 then some [AV.lit (Value.map none)] else some [AV.lit Value.nilFunc])) else (if t < 211 then some [AV.lit Value.nilFunc] else (if t < 212 then some [AV.lit Value.nilFunc] else some [AV.lit Value.nilFunc]))))) else (if t < 225 then (if t < 219 then (if t < 216 then (if t < 214 then some [AV.lit Value.nilFunc] else (if t < 215 then some [AV.lit Value.nilFunc] else some [AV.lit Value.nilFunc])) else (if t < 217 then some [AV.lit Value.nilFunc] else (if t < 218 then some [AV.lit (Value.tuple { toList := [Value.agg { toList := [Value.int IntKind.i64 0, Value.slice none 0 0] }, Value.int IntKind.i64 0] })] else some [AV.lit Value.nilFunc]))) else (if t < 222 then (if t < 220 then some [AV.lit (Value.tuple { toList := [Value.slice none 0 0, Value.bool false] })] else (if t < 221 then some [AV.lit Value.nilFunc] else some [AV.lit Value.nilFunc])) else (if t < 223 then some [AV.lit Value.nilFunc] else (if t < 224 then some [AV.lit Value.nilFunc] else some [AV.lit Value.nilFunc])))) else (if t < 231 then (if t < 228 then (if t < 226 then some [AV.lit Value.nilFunc] else (if t < 227 then some [AV.lit Value.nilFunc] else some [AV.lit Value.nilFunc])) else (if t < 229 then some [AV.lit Value.nilFunc] else (if t < 230 then some [AV.lit Value.nilFunc] else some [AV.lit Value.nilFunc]))) else (if t < 234 then (if t < 232 then some [AV.lit Value.nilFunc] else (if t < 233 then some [AV.lit Value.nilFunc] else some [AV.lit Value.nilFunc])) else (if t < 235 then some [AV.lit Value.nilFunc] else (if t < 236 then some [AV.lit Value.nilFunc] else some [AV.lit Value.nilFunc])))))) else (if t < 261 then (if t < 249 then (if t < 243 then (if t < 240 then (if t < 238 then some [AV.lit Value.nilFunc] else (if t < 239 then some [AV.lit (Value.tuple { toList := [Value.int IntKind.i64 0, Value.nilIface] })] else some [AV.lit Value.nilFunc])) else (if t < 241 then some [AV.lit (Value.tuple { toList := [Value.agg { toList := [Value.int IntKind.i64 0, Value.slice none 0 0] }, Value.bool false] })] else (if t < 242 then some [AV.lit Value.nilFunc] else some [AV.lit Value.nilFunc]))) else (if t < 246 then (if t < 244 then some [AV.lit Value.nilFunc] else (if t < 245 then some [AV.lit (Value.slice none 0 0)] else some [AV.lit Value.nilFunc])) else (if t < 247 then some [AV.lit Value.nilFunc] else (if t < 248 then some [AV.lit Value.nilFunc] else some [AV.lit (Value.slice none 0 0)])))) else (if t < 255 then (if t < 252 then (if t < 250 then some [AV.lit Value.nilFunc] else (if t < 251 then some [AV.lit Value.nilFunc] else some [AV.lit Value.nilFunc])) else none) else (if t < 258 then (if t < 256 then some [AV.lit Value.nilFunc] else (if t < 257 then some [AV.lit Value.nilFunc] else some [AV.lit (Value.pointer none)])) else (if t < 259 then some [AV.lit Value.nilFunc] else (if t < 260 then some [AV.lit (Value.tuple { toList := [Value.int IntKind.u64 0, Value.nilIface] })] else some [AV.lit Value.nilFunc]))))) else (if t < 273 then (if t < 267 then (if t < 264 then (if t < 262 then some [AV.lit Value.nilFunc] else (if t < 263 then some [AV.lit Value.nilFunc] else some [AV.lit (Value.pointer none)])) else (if t < 265 then some [AV.str [], AV.lit (Value.bool false)] else (if t < 266 then some [AV.str [], AV.lit (Value.bool false)] else some [AV.str [], AV.lit (Value.bool false)]))) else (if t < 270 then (if t < 268 then some [AV.str [], AV.lit (Value.bool false)] else (if t < 269 then some [AV.lit Value.nilFunc] else some [AV.lit Value.nilFunc])) else (if t < 271 then some [AV.lit (Value.pointer none)] else (if t < 272 then some [AV.lit (Value.pointer none)] else some [AV.str [], AV.lit (Value.bool false)])))) else (if t < 279 then (if t < 276 then (if t < 274 then some [AV.lit (Value.pointer none)] else (if t < 275 then some [AV.str [], AV.lit (Value.bool false)] else some [AV.lit (Value.tuple { toList := [Value.agg { toList := [Value.string { data := { toList := [] } }, Value.int IntKind.i64 0] }, Value.bool false] })])) else (if t < 277 then some [AV.lit Value.nilFunc] else (if t < 278 then some [AV.lit Value.nilFunc] else some [AV.lit Value.nilFunc]))) else (if t < 282 then (if t < 280 then some [AV.lit Value.nilFunc] else (if t < 281 then some [AV.lit (Value.int IntKind.u32 0), AV.lit (Value.int IntKind.u32 0), AV.lit (Value.int IntKind.u32 0), AV.lit (Value.int IntKind.u32 0), AV.lit (Value.int IntKind.u32 0), AV.lit (Value.int IntKind.u32 0), AV.lit (Value.int IntKind.u32 0), AV.lit (Value.int IntKind.u32 0)] else some [AV.lit Value.nilFunc])) else (if t < 283 then some [AV.lit (Value.pointer none)] else (if t < 284 then some [AV.lit Value.nilFunc] else some [AV.lit Value.nilFunc]))))))) else (if t < 333 then (if t < 309 then (if t < 297 then (if t < 291 then (if t < 288 then (if t < 286 then some [AV.lit (Value.int IntKind.u8 0), AV.lit (Value.int IntKind.u8 0), AV.lit (Value.int IntKind.u8 0), AV.lit (Value.int IntKind.u8 0), AV.lit (Value.int IntKind.u8 0), AV.lit (Value.int IntKind.u8 0), AV.lit (Value.int IntKind.u8 0), AV.lit (Value.int IntKind.u8 0), AV.lit (Value.int IntKind.u8 0), AV.lit (Value.int IntKind.u8 0), AV.lit (Value.int IntKind.u8 0), AV.lit (Value.int IntKind.u8 0), AV.lit (Value.int IntKind.u8 0), AV.lit (Value.int IntKind.u8 0), AV.lit (Value.int IntKind.u8 0), AV.lit (Value.int IntKind.u8 0), AV.lit (Value.int IntKind.u8 0), AV.lit (Value.int IntKind.u8 0), AV.lit (Value.int IntKind.u8 0), AV.lit (Value.int IntKind.u8 0), AV.lit (Value.int IntKind.u8 0), AV.lit (Value.int IntKind.u8 0), AV.lit (Value.int IntKind.u8 0), AV.lit (Value.int IntKind.u8 0), AV.lit (Value.int IntKind.u8 0), AV.lit (Value.int IntKind.u8 0), AV.lit (Value.int IntKind.u8 0), AV.lit (Value.int IntKind.u8 0), AV.lit (Value.int IntKind.u8 0), AV.lit (Value.int IntKind.u8 0), AV.lit (Value.int IntKind.u8 0), AV.lit (Value.int IntKind.u8 0)] else (if t < 287 then some [AV.lit Value.nilFunc] else some [AV.lit (Value.tuple { toList := [Value.slice none 0 0, Value.bool false] })])) else (if t < 289 then some [AV.lit Value.nilFunc] else (if t < 290 then some [AV.lit Value.nilFunc] else some [AV.lit (Value.int IntKind.i64 0), AV.lit (Value.int IntKind.i64 0)]))) else (if t < 294 then (if t < 292 then some [AV.lit (Value.int IntKind.i64 0), AV.lit (Value.int IntKind.i64 0)] else (if t < 293 then some [AV.lit Value.nilFunc] else some [AV.lit (Value.int IntKind.u8 0), AV.lit (Value.int IntKind.u8 0), AV.lit (Value.int IntKind.u8 0), AV.lit (Value.int IntKind.u8 0), AV.lit (Value.int IntKind.u8 0), AV.lit (Value.int IntKind.u8 0), AV.lit (Value.int IntKind.u8 0), AV.lit (Value.int IntKind.u8 0), AV.lit (Value.int IntKind.u8 0), AV.lit (Value.int IntKind.u8 0), AV.lit (Value.int IntKind.u8 0), AV.lit (Value.int IntKind.u8 0), AV.lit (Value.int IntKind.u8 0), AV.lit (Value.int IntKind.u8 0), AV.lit (Value.int IntKind.u8 0), AV.lit (Value.int IntKind.u8 0), AV.lit (Value.int IntKind.u8 0), AV.lit (Value.int IntKind.u8 0), AV.lit (Value.int IntKind.u8 0), AV.lit (Value.int IntKind.u8 0), AV.lit (Value.int IntKind.u8 0), AV.lit (Value.int IntKind.u8 0), AV.lit (Value.int IntKind.u8 0), AV.lit (Value.int IntKind.u8 0)])) else (if t < 295 then some [AV.lit Value.nilFunc] else (if t < 296 then some [AV.lit Value.nilFunc] else some [AV.lit (Value.tuple { toList := [Value.slice none 0 0, Value.string { data := { toList := [] } }] })])))) else (if t < 303 then (if t < 300 then (if t < 298 then some [AV.lit Value.nilFunc] else (if t < 299 then some [AV.lit Value.nilFunc] else some [AV.lit Value.nilFunc])) else (if t < 301 then some [AV.lit Value.nilFunc] else (if t < 302 then some [AV.lit Value.nilFunc] else some [AV.lit Value.nilFunc]))) else (if t < 306 then (if t < 304 then some [AV.lit (Value.tuple { toList := [Value.int IntKind.i32 0, Value.int IntKind.i64 0] })] else (if t < 305 then some [AV.lit Value.nilFunc] else some [AV.lit Value.nilFunc])) else (if t < 307 then some [AV.lit Value.nilFunc] else (if t < 308 then some [AV.lit Value.nilFunc] else some [AV.lit Value.nilFunc]))))) else (if t < 321 then (if t < 315 then (if t < 312 then (if t < 310 then some [AV.lit Value.nilFunc] else (if t < 311 then some [AV.lit Value.nilFunc] else some [AV.lit Value.nilFunc])) else (if t < 313 then some [AV.lit Value.nilFunc] else (if t < 314 then some [AV.lit Value.nilFunc] else some [AV.lit Value.nilFunc]))) else (if t < 318 then (if t < 316 then some [AV.lit Value.nilFunc] else (if t < 317 then some [AV.lit (Value.tuple { toList := [Value.int IntKind.i64 0, Value.int IntKind.u64 0] })] else some [AV.lit Value.nilFunc])) else (if t < 319 then some [AV.lit Value.nilFunc] else (if t < 320 then some [AV.lit Value.nilFunc] else some [AV.lit Value.nilFunc])))) else (if t < 327 then (if t < 324 then (if t < 322 then some [AV.lit Value.nilFunc] else (if t < 323 then some [AV.lit Value.nilFunc] else some [AV.lit Value.nilFunc])) else (if t < 325 then some [AV.lit Value.nilFunc] else (if t < 326 then some [AV.lit Value.nilFunc] else some [AV.lit (Value.pointer none)]))) else (if t < 330 then (if t < 328 then some [AV.lit (Value.int IntKind.i64 0)] else (if t < 329 then some [AV.lit (Value.pointer none)] else some [AV.lit Value.nilFunc])) else (if t < 331 then some [AV.lit Value.nilFunc] else (if t < 332 then some [AV.lit Value.nilFunc] else some [AV.lit Value.nilFunc])))))) else (if t < 357 then (if t < 345 then (if t < 339 then (if t < 336 then (if t < 334 then some [AV.lit Value.nilFunc] else (if t < 335 then some [AV.lit (Value.int IntKind.u64 0), AV.lit (Value.int IntKind.u64 0), AV.lit (Value.int IntKind.u64 0), AV.lit (Value.int IntKind.u64 0), AV.lit (Value.int IntKind.u64 0), AV.lit (Value.int IntKind.u64 0), AV.lit (Value.int IntKind.u64 0), AV.lit (Value.int IntKind.u64 0), AV.lit (Value.int IntKind.u64 0), AV.lit (Value.int IntKind.u64 0), AV.lit (Value.int IntKind.u64 0), AV.lit (Value.int IntKind.u64 0), AV.lit (Value.int IntKind.u64 0), AV.lit (Value.int IntKind.u64 0), AV.lit (Value.int IntKind.u64 0), AV.lit (Value.int IntKind.u64 0), AV.lit (Value.int IntKind.u64 0), AV.lit (Value.int IntKind.u64 0), AV.lit (Value.int IntKind.u64 0), AV.lit (Value.int IntKind.u64 0)] else none)) else (if t < 337 then some [AV.lit Value.nilFunc] else (if t < 338 then some [AV.lit Value.nilFunc] else some [AV.lit Value.nilFunc]))) else (if t < 342 then (if t < 340 then some [AV.lit Value.nilFunc] else (if t < 341 then some [AV.lit (Value.map none)] else some [AV.lit Value.nilFunc])) else (if t < 343 then some [AV.lit (Value.tuple { toList := [Value.int IntKind.u8 0, Value.bool false] })] else (if t < 344 then some [AV.lit Value.nilFunc] else some [AV.lit Value.nilFunc])))) else (if t < 351 then (if t < 348 then (if t < 346 then some [AV.lit Value.nilFunc] else (if t < 347 then some [AV.lit Value.nilFunc] else some [AV.lit (Value.int IntKind.i8 0)])) else (if t < 349 then some [AV.lit (Value.map none)] else (if t < 350 then some [AV.lit Value.nilFunc] else some [AV.lit Value.nilFunc]))) else (if t < 354 then (if t < 352 then some [AV.lit Value.nilFunc] else (if t < 353 then some [AV.str [], AV.str [], AV.lit Value.nilIface] else some [AV.str [], AV.str [], AV.lit Value.nilIface])) else (if t < 355 then some [AV.lit Value.nilFunc] else (if t < 356 then some [AV.lit (Value.tuple { toList := [Value.string { data := { toList := [] } }, Value.string { data := { toList := [] } }, Value.bool false] })] else some [AV.lit Value.nilFunc]))))) else (if t < 369 then (if t < 363 then (if t < 360 then (if t < 358 then some [AV.lit Value.nilFunc] else (if t < 359 then some [AV.lit (Value.int IntKind.u8 0), AV.lit (Value.int IntKind.u8 0)] else some [AV.lit (Value.int IntKind.u8 0), AV.lit (Value.int IntKind.u8 0)])) else (if t < 361 then some [AV.lit (Value.int IntKind.u8 0), AV.lit (Value.int IntKind.u8 0), AV.lit (Value.int IntKind.u8 0), AV.lit (Value.int IntKind.u8 0), AV.lit (Value.int IntKind.u8 0), AV.lit (Value.int IntKind.u8 0), AV.lit (Value.int IntKind.u8 0), AV.lit (Value.int IntKind.u8 0), AV.lit (Value.int IntKind.u8 0), AV.lit (Value.int IntKind.u8 0), AV.lit (Value.int IntKind.u8 0), AV.lit (Value.int IntKind.u8 0), AV.lit (Value.int IntKind.u8 0), AV.lit (Value.int IntKind.u8 0), AV.lit (Value.int IntKind.u8 0), AV.lit (Value.int IntKind.u8 0), AV.lit (Value.int IntKind.u8 0), AV.lit (Value.int IntKind.u8 0), AV.lit (Value.int IntKind.u8 0), AV.lit (Value.int IntKind.u8 0), AV.lit (Value.int IntKind.u8 0), AV.lit (Value.int IntKind.u8 0), AV.lit (Value.int IntKind.u8 0), AV.lit (Value.int IntKind.u8 0), AV.lit (Value.int IntKind.u8 0), AV.lit (Value.int IntKind.u8 0), AV.lit (Value.int IntKind.u8 0), AV.lit (Value.int IntKind.u8 0), AV.lit (Value.int IntKind.u8 0), AV.lit (Value.int IntKind.u8 0), AV.lit (Value.int IntKind.u8 0), AV.lit (Value.int IntKind.u8 0)] else (if t < 362 then some [AV.lit Value.nilFunc] else some [AV.lit Value.nilFunc]))) else (if t < 366 then (if t < 364 then some [AV.lit Value.nilFunc] else (if t < 365 then some [AV.lit (Value.pointer none)] else some [AV.str []])) else (if t < 367 then some [AV.str []] else (if t < 368 then none else some [AV.lit Value.nilFunc])))) else (if t < 375 then (if t < 372 then (if t < 370 then some [AV.lit (Value.pointer none), AV.lit (Value.pointer none), AV.lit (Value.pointer none), AV.str []] else (if t < 371 then some [AV.lit (Value.pointer none), AV.lit (Value.pointer none), AV.lit (Value.pointer none), AV.str []] else some [])) else (if t < 373 then some [] else (if t < 374 then some [] else some [AV.lit (Value.int IntKind.u8 0)]))) else (if t < 378 then (if t < 376 then some [AV.lit (Value.int IntKind.u8 0)] else (if t < 377 then some [AV.lit Value.nilFunc] else some [AV.lit (Value.int IntKind.i32 0)])) else (if t < 379 then some [AV.lit (Value.int IntKind.i32 0)] else (if t < 380 then some [AV.lit (Value.int IntKind.u64 0), AV.lit (Value.int IntKind.u64 0), AV.lit (Value.int IntKind.u32 0), AV.lit (Value.int IntKind.u8 0), AV.lit (Value.int IntKind.u8 0), AV.lit (Value.int IntKind.u8 0), AV.lit (Value.int IntKind.u8 0), AV.lit Value.nilFunc, AV.lit (Value.pointer none), AV.lit (Value.int IntKind.i32 0), AV.lit (Value.int IntKind.i32 0)] else some [AV.lit (Value.int IntKind.u64 0), AV.lit (Value.int IntKind.u64 0), AV.lit (Value.int IntKind.u32 0), AV.lit (Value.int IntKind.u8 0), AV.lit (Value.int IntKind.u8 0), AV.lit (Value.int IntKind.u8 0), AV.lit (Value.int IntKind.u8 0), AV.lit Value.nilFunc, AV.lit (Value.pointer none), AV.lit (Value.int IntKind.i32 0), AV.lit (Value.int IntKind.i32 0)]))))))))) else none
theorem tab_ze_ok {t : Nat} {k : List AV} : tab_ze t = some k → zeT Tryz.prog t = some k := by
  unfold tab_ze
  exact tnode (fun u => (tnode (fun a0 => (tnode (fun a1 => (tnode (fun a2 => (tnode (fun a3 => (tnode (fun a4 => (tnode (fun a5 => (tnode (fun a6 => (tnode (fun a7 => (tleaf ze0 (Nat.zero_le _) a7)) (fun b7 => (tleaf ze1 b7 a6)))) (fun b6 => (tnode (fun a7 => (tleaf ze2 b6 a7)) (fun b7 => (tnode (fun a8 => (tleaf ze3 b7 a8)) (fun b8 => (tleaf ze4 b8 a5)))))))) (fun b5 => (tnode (fun a6 => (tnode (fun a7 => (tleaf ze5 b5 a7)) (fun b7 => (tnode (fun a8 => (tleaf ze6 b7 a8)) (fun b8 => (tleaf ze7 b8 a6)))))) (fun b6 => (tnode (fun a7 => (tleaf ze8 b6 a7)) (fun b7 => (tnode (fun a8 => (tleaf ze9 b7 a8)) (fun b8 => (tleaf ze10 b8 a4)))))))))) (fun b4 => (tnode (fun a5 => (tnode (fun a6 => (tnode (fun a7 => (tleaf ze11 b4 a7)) (fun b7 => (tnode (fun a8 => (tleaf ze12 b7 a8)) (fun b8 => (tleaf ze13 b8 a6)))))) (fun b6 => (tnode (fun a7 => (tleaf ze14 b6 a7)) (fun b7 => (tnode (fun a8 => (tleaf ze15 b7 a8)) (fun b8 => (tleaf ze16 b8 a5)))))))) (fun b5 => (tnode (fun a6 => (tnode (fun a7 => (tleaf ze17 b5 a7)) (fun b7 => (tnode (fun a8 => (tleaf ze18 b7 a8)) (fun b8 => (tleaf ze19 b8 a6)))))) (fun b6 => (tnode (fun a7 => (tleaf ze20 b6 a7)) (fun b7 => (tnode (fun a8 => (tleaf ze21 b7 a8)) (fun b8 => (tleaf ze22 b8 a3)))))))))))) (fun b3 => (tnode (fun a4 => (tnode (fun a5 => (tnode (fun a6 => (tnode (fun a7 => (tleaf ze23 b3 a7)) (fun b7 => (tnode (fun a8 => (tleaf ze24 b7 a8)) (fun b8 => (tleaf ze25 b8 a6)))))) (fun b6 => (tnode (fun a7 => (tleaf ze26 b6 a7)) (fun b7 => (tnode (fun a8 => (tleaf ze27 b7 a8)) (fun b8 => (tleaf ze28 b8 a5)))))))) (fun b5 => (tnode (fun a6 => (tnode (fun a7 => (tleaf ze29 b5 a7)) (fun b7 => (tnode (fun a8 => (tleaf ze30 b7 a8)) (fun b8 => (tleaf ze31 b8 a6)))))) (fun b6 => (tnode (fun a7 => (tleaf ze32 b6 a7)) (fun b7 => (tnode (fun a8 => (tleaf ze33 b7 a8)) (fun b8 => (tleaf ze34 b8 a4)))))))))) (fun b4 => (tnode (fun a5 => (tnode (fun a6 => (tnode (fun a7 => (tleaf ze35 b4 a7)) (fun b7 => (tnode (fun a8 => (tleaf ze36 b7 a8)) (fun b8 => (tleaf ze37 b8 a6)))))) (fun b6 => (tnode (fun a7 => (tleaf ze38 b6 a7)) (fun b7 => (tnode (fun a8 => (tleaf ze39 b7 a8)) (fun b8 => (tleaf ze40 b8 a5)))))))) (fun b5 => (tnode (fun a6 => (tnode (fun a7 => (tleaf ze41 b5 a7)) (fun b7 => (tnode (fun a8 => (tleaf ze42 b7 a8)) (fun b8 => (tleaf ze43 b8 a6)))))) (fun b6 => (tnode (fun a7 => (tleaf ze44 b6 a7)) (fun b7 => (tnode (fun a8 => (tleaf ze45 b7 a8)) (fun b8 => (tleaf ze46 b8 a2)))))))))))))) (fun b2 => (tnode (fun a3 => (tnode (fun a4 => (tnode (fun a5 => (tnode (fun a6 => (tnode (fun a7 => (tleaf ze47 b2 a7)) (fun b7 => (tnode (fun a8 => (tleaf ze48 b7 a8)) (fun b8 => (tleaf ze49 b8 a6)))))) (fun b6 => (tnode (fun a7 => (tleaf ze50 b6 a7)) (fun b7 => (tnode (fun a8 => (tleaf ze51 b7 a8)) (fun b8 => (tleaf ze52 b8 a5)))))))) (fun b5 => (tnode (fun a6 => (tnode (fun a7 => (tleaf ze53 b5 a7)) (fun b7 => (tnode (fun a8 => (tleaf ze54 b7 a8)) (fun b8 => (tleaf ze55 b8 a6)))))) (fun b6 => (tnode (fun a7 => (tleaf ze56 b6 a7)) (fun b7 => (tnode (fun a8 => (tleaf ze57 b7 a8)) (fun b8 => (tleaf ze58 b8 a4)))))))))) (fun b4 => (tnode (fun a5 => (tnode (fun a6 => (tnode (fun a7 => (tleaf ze59 b4 a7)) (fun b7 => (tnode (fun a8 => (tleaf ze60 b7 a8)) (fun b8 => (tleaf ze61 b8 a6)))))) (fun b6 => (tnode (fun a7 => (tleaf ze62 b6 a7)) (fun b7 => (tnode (fun a8 => (tleaf ze63 b7 a8)) (fun b8 => (tleaf ze64 b8 a5)))))))) (fun b5 => (tnode (fun a6 => (tnode (fun a7 => (tleaf ze65 b5 a7)) (fun b7 => (tnode (fun a8 => (tleaf ze66 b7 a8)) (fun b8 => (tleaf ze67 b8 a6)))))) (fun b6 => (tnode (fun a7 => (tleaf ze68 b6 a7)) (fun b7 => (tnode (fun a8 => (tleaf ze69 b7 a8)) (fun b8 => (tleaf ze70 b8 a3)))))))))))) (fun b3 => (tnode (fun a4 => (tnode (fun a5 => (tnode (fun a6 => (tnode (fun a7 => (tleaf ze71 b3 a7)) (fun b7 => (tnode (fun a8 => (tleaf ze72 b7 a8)) (fun b8 => (tleaf ze73 b8 a6)))))) (fun b6 => (tnode (fun a7 => (tleaf ze74 b6 a7)) (fun b7 => (tnode (fun a8 => (tleaf ze75 b7 a8)) (fun b8 => (tleaf ze76 b8 a5)))))))) (fun b5 => (tnode (fun a6 => (tnode (fun a7 => (tleaf ze77 b5 a7)) (fun b7 => (tnode (fun a8 => (tleaf ze78 b7 a8)) (fun b8 => (tleaf ze79 b8 a6)))))) (fun b6 => (tnode (fun a7 => (tleaf ze80 b6 a7)) (fun b7 => (tnode (fun a8 => (tleaf ze81 b7 a8)) (fun b8 => (tleaf ze82 b8 a4)))))))))) (fun b4 => (tnode (fun a5 => (tnode (fun a6 => (tnode (fun a7 => (tleaf ze83 b4 a7)) (fun b7 => (tnode (fun a8 => (tleaf ze84 b7 a8)) (fun b8 => (tleaf ze85 b8 a6)))))) (fun b6 => (tnode (fun a7 => (tleaf ze86 b6 a7)) (fun b7 => (tnode (fun a8 => (tleaf ze87 b7 a8)) (fun b8 => (tleaf ze88 b8 a5)))))))) (fun b5 => (tnode (fun a6 => (tnode (fun a7 => (tleaf ze89 b5 a7)) (fun b7 => (tnode (fun a8 => (tleaf ze90 b7 a8)) (fun b8 => (tleaf ze91 b8 a6)))))) (fun b6 => (tnode (fun a7 => (tleaf ze92 b6 a7)) (fun b7 => (tnode (fun a8 => (tleaf ze93 b7 a8)) (fun b8 => (tleaf ze94 b8 a1)))))))))))))))) (fun b1 => (tnode (fun a2 => (tnode (fun a3 => (tnode (fun a4 => (tnode (fun a5 => (tnode (fun a6 => (tnode (fun a7 => (tleaf ze95 b1 a7)) (fun b7 => (tleaf ze96 b7 a6)))) (fun b6 => (tnode (fun a7 => (tleaf ze97 b6 a7)) (fun b7 => (tnode (fun a8 => (tleaf ze98 b7 a8)) (fun b8 => (tleaf ze99 b8 a5)))))))) (fun b5 => (tnode (fun a6 => (tnode (fun a7 => (tleaf ze100 b5 a7)) (fun b7 => (tnode (fun a8 => (tleaf ze101 b7 a8)) (fun b8 => (tleaf ze102 b8 a6)))))) (fun b6 => (tnode (fun a7 => (tleaf ze103 b6 a7)) (fun b7 => (tnode (fun a8 => (tleaf ze104 b7 a8)) (fun b8 => (tleaf ze105 b8 a4)))))))))) (fun b4 => (tnode (fun a5 => (tnode (fun a6 => (tnode (fun a7 => (tleaf ze106 b4 a7)) (fun b7 => (tnode (fun a8 => (tleaf ze107 b7 a8)) (fun b8 => (tleaf ze108 b8 a6)))))) (fun b6 => (tnode (fun a7 => (tleaf ze109 b6 a7)) (fun b7 => (tnode (fun a8 => (tleaf ze110 b7 a8)) (fun b8 => (tleaf ze111 b8 a5)))))))) (fun b5 => (tnode (fun a6 => (tnode (fun a7 => (tleaf ze112 b5 a7)) (fun b7 => (tnode (fun a8 => (tleaf ze113 b7 a8)) (fun b8 => (tleaf ze114 b8 a6)))))) (fun b6 => (tnode (fun a7 => (tleaf ze115 b6 a7)) (fun b7 => (tnode (fun a8 => (tleaf ze116 b7 a8)) (fun b8 => (tleaf ze117 b8 a3)))))))))))) (fun b3 => (tnode (fun a4 => (tnode (fun a5 => (tnode (fun a6 => (tnode (fun a7 => (tleaf ze118 b3 a7)) (fun b7 => (tnode (fun a8 => (tleaf ze119 b7 a8)) (fun b8 => (tleaf ze120 b8 a6)))))) (fun b6 => (tnode (fun a7 => (tleaf ze121 b6 a7)) (fun b7 => (tnode (fun a8 => (tleaf ze122 b7 a8)) (fun b8 => (tleaf ze123 b8 a5)))))))) (fun b5 => (tnode (fun a6 => (tnode (fun a7 => (tleaf ze124 b5 a7)) (fun b7 => (tnode (fun a8 => (tleaf ze125 b7 a8)) (fun b8 => (tleaf ze126 b8 a6)))))) (fun b6 => (tnode (fun a7 => (tleaf ze127 b6 a7)) (fun b7 => (tnode (fun a8 => (tleaf ze128 b7 a8)) (fun b8 => (tleaf ze129 b8 a4)))))))))) (fun b4 => (tnode (fun a5 => (tnode (fun a6 => (tnode (fun a7 => (tleaf ze130 b4 a7)) (fun b7 => (tnode (fun a8 => (tleaf ze131 b7 a8)) (fun b8 => (tleaf ze132 b8 a6)))))) (fun b6 => (tnode (fun a7 => (tleaf ze133 b6 a7)) (fun b7 => (tnode (fun a8 => (tleaf ze134 b7 a8)) (fun b8 => (tleaf ze135 b8 a5)))))))) (fun b5 => (tnode (fun a6 => (tnode (fun a7 => (tleaf ze136 b5 a7)) (fun b7 => (tnode (fun a8 => (tleaf ze137 b7 a8)) (fun b8 => (tleaf ze138 b8 a6)))))) (fun b6 => (tnode (fun a7 => (tleaf ze139 b6 a7)) (fun b7 => (tnode (fun a8 => (tleaf ze140 b7 a8)) (fun b8 => (tleaf ze141 b8 a2)))))))))))))) (fun b2 => (tnode (fun a3 => (tnode (fun a4 => (tnode (fun a5 => (tnode (fun a6 => (tnode (fun a7 => (tleaf ze142 b2 a7)) (fun b7 => (tnode (fun a8 => (tleaf ze143 b7 a8)) (fun b8 => (tleaf ze144 b8 a6)))))) (fun b6 => (tnode (fun a7 => (tleaf ze145 b6 a7)) (fun b7 => (tnode (fun a8 => (tleaf ze146 b7 a8)) (fun b8 => (tleaf ze147 b8 a5)))))))) (fun b5 => (tnode (fun a6 => (tnode (fun a7 => (tleaf ze148 b5 a7)) (fun b7 => (tnode (fun a8 => (tleaf ze149 b7 a8)) (fun b8 => (tleaf ze150 b8 a6)))))) (fun b6 => (tnode (fun a7 => (tleaf ze151 b6 a7)) (fun b7 => (tnode (fun a8 => (tleaf ze152 b7 a8)) (fun b8 => (tleaf ze153 b8 a4)))))))))) (fun b4 => (tnode (fun a5 => (tnode (fun a6 => (tnode (fun a7 => (tleaf ze154 b4 a7)) (fun b7 => (tnode (fun a8 => (tleaf ze155 b7 a8)) (fun b8 => (tleaf ze156 b8 a6)))))) (fun b6 => (tnode (fun a7 => (tleaf ze157 b6 a7)) (fun b7 => (tnode (fun a8 => (tleaf ze158 b7 a8)) (fun b8 => (tleaf ze159 b8 a5)))))))) (fun b5 => (tnode (fun a6 => (tnode (fun a7 => (tleaf ze160 b5 a7)) (fun b7 => (tnode (fun a8 => (tleaf ze161 b7 a8)) (fun b8 => (tleaf ze162 b8 a6)))))) (fun b6 => (tnode (fun a7 => (tleaf ze163 b6 a7)) (fun b7 => (tnode (fun a8 => (tleaf ze164 b7 a8)) (fun b8 => (tleaf ze165 b8 a3)))))))))))) (fun b3 => (tnode (fun a4 => (tnode (fun a5 => (tnode (fun a6 => (tnode (fun a7 => (tleaf ze166 b3 a7)) (fun b7 => (tnode (fun a8 => (tleaf ze167 b7 a8)) (fun b8 => (tleaf ze168 b8 a6)))))) (fun b6 => (tnode (fun a7 => (tleaf ze169 b6 a7)) (fun b7 => (tnode (fun a8 => (tleaf ze170 b7 a8)) (fun b8 => (tleaf ze171 b8 a5)))))))) (fun b5 => (tnode (fun a6 => (tnode (fun a7 => (tleaf ze172 b5 a7)) (fun b7 => (tnode (fun a8 => (tleaf ze173 b7 a8)) (fun b8 => (tleaf ze174 b8 a6)))))) (fun b6 => (tnode (fun a7 => (tleaf ze175 b6 a7)) (fun b7 => (tnode (fun a8 => (tleaf ze176 b7 a8)) (fun b8 => (tleaf ze177 b8 a4)))))))))) (fun b4 => (tnode (fun a5 => (tnode (fun a6 => (tnode (fun a7 => (tleaf ze178 b4 a7)) (fun b7 => (tnode (fun a8 => (tleaf ze179 b7 a8)) (fun b8 => (tleaf ze180 b8 a6)))))) (fun b6 => (tnode (fun a7 => (tleaf ze181 b6 a7)) (fun b7 => (tnode (fun a8 => (tleaf ze182 b7 a8)) (fun b8 => (tleaf ze183 b8 a5)))))))) (fun b5 => (tnode (fun a6 => (tnode (fun a7 => (tleaf ze184 b5 a7)) (fun b7 => (tnode (fun a8 => (tleaf ze185 b7 a8)) (fun b8 => (tleaf ze186 b8 a6)))))) (fun b6 => (tnode (fun a7 => (tleaf ze187 b6 a7)) (fun b7 => (tnode (fun a8 => (tleaf ze188 b7 a8)) (fun b8 => (tleaf ze189 b8 a0)))))))))))))))))) (fun b0 => (tnode (fun a1 => (tnode (fun a2 => (tnode (fun a3 => (tnode (fun a4 => (tnode (fun a5 => (tnode (fun a6 => (tnode (fun a7 => (tleaf ze190 b0 a7)) (fun b7 => (tleaf ze191 b7 a6)))) (fun b6 => (tnode (fun a7 => (tleaf ze192 b6 a7)) (fun b7 => (tnode (fun a8 => (tleaf ze193 b7 a8)) (fun b8 => (tleaf ze194 b8 a5)))))))) (fun b5 => (tnode (fun a6 => (tnode (fun a7 => (tleaf ze195 b5 a7)) (fun b7 => (tnode (fun a8 => (tleaf ze196 b7 a8)) (fun b8 => (tleaf ze197 b8 a6)))))) (fun b6 => (tnode (fun a7 => (tleaf ze198 b6 a7)) (fun b7 => (tnode (fun a8 => (tleaf ze199 b7 a8)) (fun b8 => (tleaf ze200 b8 a4)))))))))) (fun b4 => (tnode (fun a5 => (tnode (fun a6 => (tnode (fun a7 => (tleaf ze201 b4 a7)) (fun b7 => (tnode (fun a8 => (tleaf ze202 b7 a8)) (fun b8 => (tleaf ze203 b8 a6)))))) (fun b6 => (tnode (fun a7 => (tleaf ze204 b6 a7)) (fun b7 => (tnode (fun a8 => (tleaf ze205 b7 a8)) (fun b8 => (tleaf ze206 b8 a5)))))))) (fun b5 => (tnode (fun a6 => (tnode (fun a7 => (tleaf ze207 b5 a7)) (fun b7 => (tnode (fun a8 => (tleaf ze208 b7 a8)) (fun b8 => (tleaf ze209 b8 a6)))))) (fun b6 => (tnode (fun a7 => (tleaf ze210 b6 a7)) (fun b7 => (tnode (fun a8 => (tleaf ze211 b7 a8)) (fun b8 => (tleaf ze212 b8 a3)))))))))))) (fun b3 => (tnode (fun a4 => (tnode (fun a5 => (tnode (fun a6 => (tnode (fun a7 => (tleaf ze213 b3 a7)) (fun b7 => (tnode (fun a8 => (tleaf ze214 b7 a8)) (fun b8 => (tleaf ze215 b8 a6)))))) (fun b6 => (tnode (fun a7 => (tleaf ze216 b6 a7)) (fun b7 => (tnode (fun a8 => (tleaf ze217 b7 a8)) (fun b8 => (tleaf ze218 b8 a5)))))))) (fun b5 => (tnode (fun a6 => (tnode (fun a7 => (tleaf ze219 b5 a7)) (fun b7 => (tnode (fun a8 => (tleaf ze220 b7 a8)) (fun b8 => (tleaf ze221 b8 a6)))))) (fun b6 => (tnode (fun a7 => (tleaf ze222 b6 a7)) (fun b7 => (tnode (fun a8 => (tleaf ze223 b7 a8)) (fun b8 => (tleaf ze224 b8 a4)))))))))) (fun b4 => (tnode (fun a5 => (tnode (fun a6 => (tnode (fun a7 => (tleaf ze225 b4 a7)) (fun b7 => (tnode (fun a8 => (tleaf ze226 b7 a8)) (fun b8 => (tleaf ze227 b8 a6)))))) (fun b6 => (tnode (fun a7 => (tleaf ze228 b6 a7)) (fun b7 => (tnode (fun a8 => (tleaf ze229 b7 a8)) (fun b8 => (tleaf ze230 b8 a5)))))))) (fun b5 => (tnode (fun a6 => (tnode (fun a7 => (tleaf ze231 b5 a7)) (fun b7 => (tnode (fun a8 => (tleaf ze232 b7 a8)) (fun b8 => (tleaf ze233 b8 a6)))))) (fun b6 => (tnode (fun a7 => (tleaf ze234 b6 a7)) (fun b7 => (tnode (fun a8 => (tleaf ze235 b7 a8)) (fun b8 => (tleaf ze236 b8 a2)))))))))))))) (fun b2 => (tnode (fun a3 => (tnode (fun a4 => (tnode (fun a5 => (tnode (fun a6 => (tnode (fun a7 => (tleaf ze237 b2 a7)) (fun b7 => (tnode (fun a8 => (tleaf ze238 b7 a8)) (fun b8 => (tleaf ze239 b8 a6)))))) (fun b6 => (tnode (fun a7 => (tleaf ze240 b6 a7)) (fun b7 => (tnode (fun a8 => (tleaf ze241 b7 a8)) (fun b8 => (tleaf ze242 b8 a5)))))))) (fun b5 => (tnode (fun a6 => (tnode (fun a7 => (tleaf ze243 b5 a7)) (fun b7 => (tnode (fun a8 => (tleaf ze244 b7 a8)) (fun b8 => (tleaf ze245 b8 a6)))))) (fun b6 => (tnode (fun a7 => (tleaf ze246 b6 a7)) (fun b7 => (tnode (fun a8 => (tleaf ze247 b7 a8)) (fun b8 => (tleaf ze248 b8 a4)))))))))) (fun b4 => (tnode (fun a5 => (tnode (fun a6 => (tnode (fun a7 => (tleaf ze249 b4 a7)) (fun b7 => (tnode (fun a8 => (tleaf ze250 b7 a8)) (fun b8 => (tleaf ze251 b8 a6)))))) (fun b6 => tnone))) (fun b5 => (tnode (fun a6 => (tnode (fun a7 => (tleaf ze255 b5 a7)) (fun b7 => (tnode (fun a8 => (tleaf ze256 b7 a8)) (fun b8 => (tleaf ze257 b8 a6)))))) (fun b6 => (tnode (fun a7 => (tleaf ze258 b6 a7)) (fun b7 => (tnode (fun a8 => (tleaf ze259 b7 a8)) (fun b8 => (tleaf ze260 b8 a3)))))))))))) (fun b3 => (tnode (fun a4 => (tnode (fun a5 => (tnode (fun a6 => (tnode (fun a7 => (tleaf ze261 b3 a7)) (fun b7 => (tnode (fun a8 => (tleaf ze262 b7 a8)) (fun b8 => (tleaf ze263 b8 a6)))))) (fun b6 => (tnode (fun a7 => (tleaf ze264 b6 a7)) (fun b7 => (tnode (fun a8 => (tleaf ze265 b7 a8)) (fun b8 => (tleaf ze266 b8 a5)))))))) (fun b5 => (tnode (fun a6 => (tnode (fun a7 => (tleaf ze267 b5 a7)) (fun b7 => (tnode (fun a8 => (tleaf ze268 b7 a8)) (fun b8 => (tleaf ze269 b8 a6)))))) (fun b6 => (tnode (fun a7 => (tleaf ze270 b6 a7)) (fun b7 => (tnode (fun a8 => (tleaf ze271 b7 a8)) (fun b8 => (tleaf ze272 b8 a4)))))))))) (fun b4 => (tnode (fun a5 => (tnode (fun a6 => (tnode (fun a7 => (tleaf ze273 b4 a7)) (fun b7 => (tnode (fun a8 => (tleaf ze274 b7 a8)) (fun b8 => (tleaf ze275 b8 a6)))))) (fun b6 => (tnode (fun a7 => (tleaf ze276 b6 a7)) (fun b7 => (tnode (fun a8 => (tleaf ze277 b7 a8)) (fun b8 => (tleaf ze278 b8 a5)))))))) (fun b5 => (tnode (fun a6 => (tnode (fun a7 => (tleaf ze279 b5 a7)) (fun b7 => (tnode (fun a8 => (tleaf ze280 b7 a8)) (fun b8 => (tleaf ze281 b8 a6)))))) (fun b6 => (tnode (fun a7 => (tleaf ze282 b6 a7)) (fun b7 => (tnode (fun a8 => (tleaf ze283 b7 a8)) (fun b8 => (tleaf ze284 b8 a1)))))))))))))))) (fun b1 => (tnode (fun a2 => (tnode (fun a3 => (tnode (fun a4 => (tnode (fun a5 => (tnode (fun a6 => (tnode (fun a7 => (tleaf ze285 b1 a7)) (fun b7 => (tnode (fun a8 => (tleaf ze286 b7 a8)) (fun b8 => (tleaf ze287 b8 a6)))))) (fun b6 => (tnode (fun a7 => (tleaf ze288 b6 a7)) (fun b7 => (tnode (fun a8 => (tleaf ze289 b7 a8)) (fun b8 => (tleaf ze290 b8 a5)))))))) (fun b5 => (tnode (fun a6 => (tnode (fun a7 => (tleaf ze291 b5 a7)) (fun b7 => (tnode (fun a8 => (tleaf ze292 b7 a8)) (fun b8 => (tleaf ze293 b8 a6)))))) (fun b6 => (tnode (fun a7 => (tleaf ze294 b6 a7)) (fun b7 => (tnode (fun a8 => (tleaf ze295 b7 a8)) (fun b8 => (tleaf ze296 b8 a4)))))))))) (fun b4 => (tnode (fun a5 => (tnode (fun a6 => (tnode (fun a7 => (tleaf ze297 b4 a7)) (fun b7 => (tnode (fun a8 => (tleaf ze298 b7 a8)) (fun b8 => (tleaf ze299 b8 a6)))))) (fun b6 => (tnode (fun a7 => (tleaf ze300 b6 a7)) (fun b7 => (tnode (fun a8 => (tleaf ze301 b7 a8)) (fun b8 => (tleaf ze302 b8 a5)))))))) (fun b5 => (tnode (fun a6 => (tnode (fun a7 => (tleaf ze303 b5 a7)) (fun b7 => (tnode (fun a8 => (tleaf ze304 b7 a8)) (fun b8 => (tleaf ze305 b8 a6)))))) (fun b6 => (tnode (fun a7 => (tleaf ze306 b6 a7)) (fun b7 => (tnode (fun a8 => (tleaf ze307 b7 a8)) (fun b8 => (tleaf ze308 b8 a3)))))))))))) (fun b3 => (tnode (fun a4 => (tnode (fun a5 => (tnode (fun a6 => (tnode (fun a7 => (tleaf ze309 b3 a7)) (fun b7 => (tnode (fun a8 => (tleaf ze310 b7 a8)) (fun b8 => (tleaf ze311 b8 a6)))))) (fun b6 => (tnode (fun a7 => (tleaf ze312 b6 a7)) (fun b7 => (tnode (fun a8 => (tleaf ze313 b7 a8)) (fun b8 => (tleaf ze314 b8 a5)))))))) (fun b5 => (tnode (fun a6 => (tnode (fun a7 => (tleaf ze315 b5 a7)) (fun b7 => (tnode (fun a8 => (tleaf ze316 b7 a8)) (fun b8 => (tleaf ze317 b8 a6)))))) (fun b6 => (tnode (fun a7 => (tleaf ze318 b6 a7)) (fun b7 => (tnode (fun a8 => (tleaf ze319 b7 a8)) (fun b8 => (tleaf ze320 b8 a4)))))))))) (fun b4 => (tnode (fun a5 => (tnode (fun a6 => (tnode (fun a7 => (tleaf ze321 b4 a7)) (fun b7 => (tnode (fun a8 => (tleaf ze322 b7 a8)) (fun b8 => (tleaf ze323 b8 a6)))))) (fun b6 => (tnode (fun a7 => (tleaf ze324 b6 a7)) (fun b7 => (tnode (fun a8 => (tleaf ze325 b7 a8)) (fun b8 => (tleaf ze326 b8 a5)))))))) (fun b5 => (tnode (fun a6 => (tnode (fun a7 => (tleaf ze327 b5 a7)) (fun b7 => (tnode (fun a8 => (tleaf ze328 b7 a8)) (fun b8 => (tleaf ze329 b8 a6)))))) (fun b6 => (tnode (fun a7 => (tleaf ze330 b6 a7)) (fun b7 => (tnode (fun a8 => (tleaf ze331 b7 a8)) (fun b8 => (tleaf ze332 b8 a2)))))))))))))) (fun b2 => (tnode (fun a3 => (tnode (fun a4 => (tnode (fun a5 => (tnode (fun a6 => (tnode (fun a7 => (tleaf ze333 b2 a7)) (fun b7 => (tnode (fun a8 => (tleaf ze334 b7 a8)) (fun b8 => tnone))))) (fun b6 => (tnode (fun a7 => (tleaf ze336 b6 a7)) (fun b7 => (tnode (fun a8 => (tleaf ze337 b7 a8)) (fun b8 => (tleaf ze338 b8 a5)))))))) (fun b5 => (tnode (fun a6 => (tnode (fun a7 => (tleaf ze339 b5 a7)) (fun b7 => (tnode (fun a8 => (tleaf ze340 b7 a8)) (fun b8 => (tleaf ze341 b8 a6)))))) (fun b6 => (tnode (fun a7 => (tleaf ze342 b6 a7)) (fun b7 => (tnode (fun a8 => (tleaf ze343 b7 a8)) (fun b8 => (tleaf ze344 b8 a4)))))))))) (fun b4 => (tnode (fun a5 => (tnode (fun a6 => (tnode (fun a7 => (tleaf ze345 b4 a7)) (fun b7 => (tnode (fun a8 => (tleaf ze346 b7 a8)) (fun b8 => (tleaf ze347 b8 a6)))))) (fun b6 => (tnode (fun a7 => (tleaf ze348 b6 a7)) (fun b7 => (tnode (fun a8 => (tleaf ze349 b7 a8)) (fun b8 => (tleaf ze350 b8 a5)))))))) (fun b5 => (tnode (fun a6 => (tnode (fun a7 => (tleaf ze351 b5 a7)) (fun b7 => (tnode (fun a8 => (tleaf ze352 b7 a8)) (fun b8 => (tleaf ze353 b8 a6)))))) (fun b6 => (tnode (fun a7 => (tleaf ze354 b6 a7)) (fun b7 => (tnode (fun a8 => (tleaf ze355 b7 a8)) (fun b8 => (tleaf ze356 b8 a3)))))))))))) (fun b3 => (tnode (fun a4 => (tnode (fun a5 => (tnode (fun a6 => (tnode (fun a7 => (tleaf ze357 b3 a7)) (fun b7 => (tnode (fun a8 => (tleaf ze358 b7 a8)) (fun b8 => (tleaf ze359 b8 a6)))))) (fun b6 => (tnode (fun a7 => (tleaf ze360 b6 a7)) (fun b7 => (tnode (fun a8 => (tleaf ze361 b7 a8)) (fun b8 => (tleaf ze362 b8 a5)))))))) (fun b5 => (tnode (fun a6 => (tnode (fun a7 => (tleaf ze363 b5 a7)) (fun b7 => (tnode (fun a8 => (tleaf ze364 b7 a8)) (fun b8 => (tleaf ze365 b8 a6)))))) (fun b6 => (tnode (fun a7 => (tleaf ze366 b6 a7)) (fun b7 => (tnode (fun a8 => tnone) (fun b8 => (tleaf ze368 b8 a4)))))))))) (fun b4 => (tnode (fun a5 => (tnode (fun a6 => (tnode (fun a7 => (tleaf ze369 b4 a7)) (fun b7 => (tnode (fun a8 => (tleaf ze370 b7 a8)) (fun b8 => (tleaf ze371 b8 a6)))))) (fun b6 => (tnode (fun a7 => (tleaf ze372 b6 a7)) (fun b7 => (tnode (fun a8 => (tleaf ze373 b7 a8)) (fun b8 => (tleaf ze374 b8 a5)))))))) (fun b5 => (tnode (fun a6 => (tnode (fun a7 => (tleaf ze375 b5 a7)) (fun b7 => (tnode (fun a8 => (tleaf ze376 b7 a8)) (fun b8 => (tleaf ze377 b8 a6)))))) (fun b6 => (tnode (fun a7 => (tleaf ze378 b6 a7)) (fun b7 => (tnode (fun a8 => (tleaf ze379 b7 a8)) (fun b8 => (tleaf ze380 b8 u)))))))))))))))))))) (fun _ => tnone)
def tab_zv (_ : Nat) : Option AV := none
def tab : Tab := ⟨tab_tk, tab_sz, tab_by, tab_ze, tab_zv⟩
theorem tab_ok : TabOk Tryz.prog tab := ⟨tab_tk_ok, tab_sz_ok, tab_by_ok, tab_ze_ok, fun h => nomatch h⟩
end Go.Proofs
