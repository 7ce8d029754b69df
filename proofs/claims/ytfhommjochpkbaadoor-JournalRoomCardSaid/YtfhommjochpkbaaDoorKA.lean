/- Parts of the proof, one behind the other. -/
import Derived.Test.YtfhommjochpkbaaDoorK43
import Derived.Test.YtfhommjochpkbaaDoorFwX
import Derived.Shelf.Strings.Repeat
import Derived.Shelf.Strings.OnBuilder
import Derived.Shelf.Strings.Trim
import Derived.Shelf.Strconv.ToError
import Derived.Shelf.Strconv.ToErrorRange
import Derived.Test.YtfhommjochpkbaaDoorChecked
import Derived.Test.YtfhommjochpkbaaDoorFwA
set_option linter.unusedSimpArgs false
set_option linter.unusedVariables false
set_option linter.unusedSectionVars false

/- The compiled form is that of the program's own functions, one by one. -/
namespace T43
open Go Fw Go.Proofs
theorem tbl_shut : (tbl.all fun o => match o with | some ir => ir.body.shut | none => true) = true := by kernel_rfl
theorem tbl_ok : tbl = (List.range tbl.length).map fun i => (Tryd.prog.funcs[i]?).bind (cFunc Tryd.prog) := by kernel_rfl
end T43


/- Contracts of the library, laid at this program. -/
namespace Go.Proofs
open Go.Shelf
def Tryd.lays156_ren : Go.Shelf.Ren := ⟨fun | 156 => 51 | 165 => 57 | 166 => 58 | 169 => 60 | 240 => 68 | 241 => 69 | 276 => 87 | 277 => 88 | n => n, fun | 31 => 42 | 9 => 9 | 3 => 3 | 4 => 4 | 0 => 0 | 20 => 20 | 72 => 97 | 76 => 99 | 70 => 95 | 37 => 54 | 75 => 83 | 127 => 108 | 164 => 127 | 5 => 5 | 80 => 72 | n => n, fun | n => n⟩
theorem Tryd.lays156 : Go.Proofs.Lays.n156 Tryd.prog Tryd.lays156_ren := {
  mixed := by kernel_rfl
  f156 := Tryd.func51.trans (congrArg some (by kernel_rfl))
  f165 := Tryd.func57.trans (congrArg some (by kernel_rfl))
  f166 := Tryd.func58.trans (congrArg some (by kernel_rfl))
  f169 := Tryd.func60.trans (congrArg some (by kernel_rfl))
  f240 := Tryd.func68.trans (congrArg some (by kernel_rfl))
  f241 := Tryd.func69.trans (congrArg some (by kernel_rfl))
  f276 := Tryd.func87.trans (congrArg some (by kernel_rfl))
  f277 := Tryd.func88.trans (congrArg some (by kernel_rfl))
  t0 := Tryd.underlying0
  a0 := Tryd.isAgg0
  z0 := Tryd.sizeOf0
  v0 := Tryd.zeroValue0
  t3 := Tryd.underlying3
  a3 := Tryd.isAgg3
  z3 := Tryd.sizeOf3
  v3 := Tryd.zeroValue3
  t4 := Tryd.underlying4
  a4 := Tryd.isAgg4
  z4 := Tryd.sizeOf4
  v4 := Tryd.zeroValue4
  t9 := Tryd.underlying9
  a9 := Tryd.isAgg9
  z9 := Tryd.sizeOf9
  v9 := Tryd.zeroValue9
  t20 := Tryd.underlying20
  a20 := Tryd.isAgg20
  z20 := Tryd.sizeOf20
  v20 := Tryd.zeroValue20
  t31 := Tryd.underlying42
  a31 := Tryd.isAgg42
  z31 := Tryd.sizeOf42
  v31 := Tryd.zeroValue42
  t37 := Tryd.underlying54
  a37 := Tryd.isAgg54
  z37 := Tryd.sizeOf54
  v37 := Tryd.zeroValue54
  t70 := Tryd.underlying95
  a70 := Tryd.isAgg95
  z70 := Tryd.sizeOf95
  v70 := Tryd.zeroValue95
  t72 := Tryd.underlying97
  a72 := Tryd.isAgg97
  z72 := Tryd.sizeOf97
  v72 := Tryd.zeroValue97
  t75 := Tryd.underlying83
  a75 := Tryd.isAgg83
  z75 := Tryd.sizeOf83
  v75 := Tryd.zeroValue83
  t76 := Tryd.underlying99
  a76 := Tryd.isAgg99
  z76 := Tryd.sizeOf99
  v76 := Tryd.zeroValue99
  t127 := Tryd.underlying108
  a127 := Tryd.isAgg108
  z127 := Tryd.sizeOf108
  v127 := Tryd.zeroValue108
  t164 := Tryd.underlying127
  a164 := Tryd.isAgg127
  z164 := Tryd.sizeOf127
  v164 := Tryd.zeroValue127 }
theorem Tryd.Builder_Extra_156 : Builder.Extra Tryd.prog Tryd.lays156_ren := {
  sizeBuilder := by kernel_rfl
  liesBuilder := by kernel_rfl
  t5 := Tryd.underlying5
  a5 := Tryd.isAgg5
  z5 := Tryd.sizeOf5
  v5 := Tryd.zeroValue5
  infoByte := by kernel_rfl
  cellsByte := by kernel_rfl
  sizeByte := by kernel_rfl
  neB5 := by decide }
open Go.RowKit in
theorem Tryd.strings_Join_none (a : Option Addr) (c : Nat) (sep : ByteArray) (w : World) :
    Calls Tryd.prog 51 #[.slice a 0 c, .string sep] w fun e w' => e = .returned (.string ⟨#[]⟩) ∧ w' = w := Any.strings_Join_none Tryd.lays156 Tryd.Builder_Extra_156 a c sep w
open Go.RowKit in
theorem Tryd.strings_Join (bk o c : Nat) (xs : List ByteArray) (sep : ByteArray) (w : World) (hcells : ∀ (j : Nat) x, xs[j]? = some x → w.cell? ⟨bk, o + j, none⟩ = some (.string x)) (hbk : bk < w.heap.size) (hN : xs.length ≤ 140737488355328) (hcap : xs.length ≤ c) (hlen : (Lib.join (xs.map (·.data.toList)) sep.data.toList).length ≤ 140737488355328) :
    Calls Tryd.prog 51 #[.slice (some ⟨bk, o, none⟩) xs.length c, .string sep] w fun e w' => e = .returned (.string ⟨(Lib.join (xs.map (·.data.toList)) sep.data.toList).toArray⟩) ∧ Below w.heap.size w w' := Any.strings_Join Tryd.lays156 Tryd.Builder_Extra_156 bk o c xs sep w hcells hbk hN hcap hlen
def Tryd.lays160_ren : Go.Shelf.Ren := ⟨fun | 160 => 61 | 232 => 71 | 231 => 70 | 227 => 72 | 234 => 74 | 233 => 73 | 236 => 76 | 235 => 75 | 228 => 89 | 271 => 92 | 151 => 91 | 197 => 90 | 120 => 103 | 152 => 102 | 260 => 101 | 137 => 107 | 119 => 108 | 224 => 109 | 225 => 110 | 217 => 111 | 266 => 112 | n => n, fun | 9 => 9 | 4 => 4 | 3 => 3 | 5 => 5 | 117 => 112 | 116 => 111 | 0 => 0 | 124 => 115 | 21 => 21 | 105 => 131 | 46 => 55 | 119 => 146 | 139 => 149 | 138 => 148 | n => n, fun | 3 => 4 | 4 => 5 | n => n⟩
theorem Tryd.lays160 : Go.Proofs.Lays.n160 Tryd.prog Tryd.lays160_ren := {
  mixed := by kernel_rfl
  f119 := Tryd.func108.trans (congrArg some (by kernel_rfl))
  f120 := Tryd.func103.trans (congrArg some (by kernel_rfl))
  f137 := Tryd.func107.trans (congrArg some (by kernel_rfl))
  f151 := Tryd.func91.trans (congrArg some (by kernel_rfl))
  f152 := Tryd.func102.trans (congrArg some (by kernel_rfl))
  f160 := Tryd.func61.trans (congrArg some (by kernel_rfl))
  f197 := Tryd.func90.trans (congrArg some (by kernel_rfl))
  f217 := Tryd.func111.trans (congrArg some (by kernel_rfl))
  f224 := Tryd.func109.trans (congrArg some (by kernel_rfl))
  f225 := Tryd.func110.trans (congrArg some (by kernel_rfl))
  f227 := Tryd.func72.trans (congrArg some (by kernel_rfl))
  f228 := Tryd.func89.trans (congrArg some (by kernel_rfl))
  f231 := Tryd.func70.trans (congrArg some (by kernel_rfl))
  f232 := Tryd.func71.trans (congrArg some (by kernel_rfl))
  f233 := Tryd.func73.trans (congrArg some (by kernel_rfl))
  f234 := Tryd.func74.trans (congrArg some (by kernel_rfl))
  f235 := Tryd.func75.trans (congrArg some (by kernel_rfl))
  f236 := Tryd.func76.trans (congrArg some (by kernel_rfl))
  f260 := Tryd.func101.trans (congrArg some (by kernel_rfl))
  f266 := Tryd.func112.trans (congrArg some (by kernel_rfl))
  f271 := Tryd.func92.trans (congrArg some (by kernel_rfl))
  t0 := Tryd.underlying0
  a0 := Tryd.isAgg0
  z0 := Tryd.sizeOf0
  v0 := Tryd.zeroValue0
  t3 := Tryd.underlying3
  a3 := Tryd.isAgg3
  z3 := Tryd.sizeOf3
  v3 := Tryd.zeroValue3
  t4 := Tryd.underlying4
  a4 := Tryd.isAgg4
  z4 := Tryd.sizeOf4
  v4 := Tryd.zeroValue4
  t5 := Tryd.underlying5
  a5 := Tryd.isAgg5
  z5 := Tryd.sizeOf5
  v5 := Tryd.zeroValue5
  t9 := Tryd.underlying9
  a9 := Tryd.isAgg9
  z9 := Tryd.sizeOf9
  v9 := Tryd.zeroValue9
  t21 := Tryd.underlying21
  a21 := Tryd.isAgg21
  z21 := Tryd.sizeOf21
  v21 := Tryd.zeroValue21
  t46 := Tryd.underlying55
  a46 := Tryd.isAgg55
  z46 := Tryd.sizeOf55
  v46 := Tryd.zeroValue55
  t105 := Tryd.underlying131
  a105 := Tryd.isAgg131
  z105 := Tryd.sizeOf131
  v105 := Tryd.zeroValue131
  t116 := Tryd.underlying111
  a116 := Tryd.isAgg111
  z116 := Tryd.sizeOf111
  t117 := Tryd.underlying112
  a117 := Tryd.isAgg112
  z117 := Tryd.sizeOf112
  v117 := Tryd.zeroValue112
  t119 := Tryd.underlying146
  a119 := Tryd.isAgg146
  z119 := Tryd.sizeOf146
  t124 := Tryd.underlying115
  a124 := Tryd.isAgg115
  z124 := Tryd.sizeOf115
  v124 := Tryd.zeroValue115
  t138 := Tryd.underlying148
  a138 := Tryd.isAgg148
  z138 := Tryd.sizeOf148
  v138 := Tryd.zeroValue148
  t139 := Tryd.underlying149
  a139 := Tryd.isAgg149
  z139 := Tryd.sizeOf149
  v139 := Tryd.zeroValue149
  g3 := by kernel_rfl
  g4 := by kernel_rfl }
open Go.RowKit in
theorem Tryd.strings_Trim_one (s : ByteArray) (c : UInt8) (hc : c.toNat < 128) (w : World) (hs : s.size ≤ 9223372036854775807) :
    Calls Tryd.prog 61 #[.string s, .string ⟨#[c]⟩] w fun e w' => e = .returned (.string ⟨(Lib.trimB s.data.toList c).toArray⟩) ∧ (w' = w ∨ w' = w.drew) := Any.strings_Trim_one Tryd.lays160 s c hc w hs
def Tryd.laysC245_ren : Go.Shelf.Ren := ⟨fun | 245 => 63 | 279 => 79 | 280 => 80 | 281 => 81 | 282 => 82 | 316 => 93 | 171 => 95 | 205 => 94 | 243 => 104 | 246 => 64 | 283 => 83 | 284 => 84 | 285 => 85 | 286 => 86 | 129 => 97 | 317 => 96 | 318 => 98 | 319 => 99 | 320 => 100 | 337 => 105 | 338 => 106 | n => n, fun | 9 => 9 | 3 => 3 | 75 => 83 | 167 => 116 | 4 => 4 | 168 => 118 | 210 => 135 | 37 => 54 | 0 => 0 | 127 => 108 | 145 => 144 | 143 => 142 | 2 => 2 | 171 => 122 | 53 => 81 | 5 => 5 | 173 => 125 | 212 => 138 | 51 => 103 | 20 => 20 | 213 => 139 | 46 => 55 | 232 => 74 | 233 => 153 | 80 => 72 | n => n, fun | 15 => 0 | 16 => 1 | 17 => 2 | 18 => 6 | 19 => 7 | n => n⟩
theorem Tryd.laysC245 : Go.Proofs.LaysC.n245 Tryd.prog Tryd.laysC245_ren := {
  mixed := by kernel_rfl
  f129 := Tryd.func97.trans (congrArg some (by kernel_rfl))
  f171 := Tryd.func95.trans (congrArg some (by kernel_rfl))
  f205 := Tryd.func94.trans (congrArg some (by kernel_rfl))
  f243 := Tryd.func104.trans (congrArg some (by kernel_rfl))
  f245 := Tryd.func63.trans (congrArg some (by kernel_rfl))
  f246 := Tryd.func64.trans (congrArg some (by kernel_rfl))
  f279 := Tryd.func79.trans (congrArg some (by kernel_rfl))
  f280 := Tryd.func80.trans (congrArg some (by kernel_rfl))
  f281 := Tryd.func81.trans (congrArg some (by kernel_rfl))
  f282 := Tryd.func82.trans (congrArg some (by kernel_rfl))
  f283 := Tryd.func83.trans (congrArg some (by kernel_rfl))
  f284 := Tryd.func84.trans (congrArg some (by kernel_rfl))
  f285 := Tryd.func85.trans (congrArg some (by kernel_rfl))
  f286 := Tryd.func86.trans (congrArg some (by kernel_rfl))
  f316 := Tryd.func93.trans (congrArg some (by kernel_rfl))
  f317 := Tryd.func96.trans (congrArg some (by kernel_rfl))
  f318 := Tryd.func98.trans (congrArg some (by kernel_rfl))
  f319 := Tryd.func99.trans (congrArg some (by kernel_rfl))
  f320 := Tryd.func100.trans (congrArg some (by kernel_rfl))
  f337 := Tryd.func105.trans (congrArg some (by kernel_rfl))
  f338 := Tryd.func106.trans (congrArg some (by kernel_rfl))
  t0 := Tryd.underlying0
  a0 := Tryd.isAgg0
  z0 := Tryd.sizeOf0
  v0 := Tryd.zeroValue0
  t2 := Tryd.underlying2
  a2 := Tryd.isAgg2
  z2 := Tryd.sizeOf2
  v2 := Tryd.zeroValue2
  t3 := Tryd.underlying3
  a3 := Tryd.isAgg3
  z3 := Tryd.sizeOf3
  v3 := Tryd.zeroValue3
  t4 := Tryd.underlying4
  a4 := Tryd.isAgg4
  z4 := Tryd.sizeOf4
  v4 := Tryd.zeroValue4
  t5 := Tryd.underlying5
  a5 := Tryd.isAgg5
  z5 := Tryd.sizeOf5
  v5 := Tryd.zeroValue5
  t9 := Tryd.underlying9
  a9 := Tryd.isAgg9
  z9 := Tryd.sizeOf9
  v9 := Tryd.zeroValue9
  t20 := Tryd.underlying20
  a20 := Tryd.isAgg20
  z20 := Tryd.sizeOf20
  v20 := Tryd.zeroValue20
  t37 := Tryd.underlying54
  a37 := Tryd.isAgg54
  z37 := Tryd.sizeOf54
  v37 := Tryd.zeroValue54
  t46 := Tryd.underlying55
  a46 := Tryd.isAgg55
  z46 := Tryd.sizeOf55
  v46 := Tryd.zeroValue55
  t51 := Tryd.underlying103
  a51 := Tryd.isAgg103
  z51 := Tryd.sizeOf103
  v51 := Tryd.zeroValue103
  t53 := Tryd.underlying81
  a53 := Tryd.isAgg81
  z53 := Tryd.sizeOf81
  v53 := Tryd.zeroValue81
  t75 := Tryd.underlying83
  a75 := Tryd.isAgg83
  z75 := Tryd.sizeOf83
  v75 := Tryd.zeroValue83
  t127 := Tryd.underlying108
  a127 := Tryd.isAgg108
  z127 := Tryd.sizeOf108
  v127 := Tryd.zeroValue108
  t143 := Tryd.underlying142
  a143 := Tryd.isAgg142
  z143 := Tryd.sizeOf142
  v143 := Tryd.zeroValue142
  t145 := Tryd.underlying144
  a145 := Tryd.isAgg144
  z145 := Tryd.sizeOf144
  v145 := Tryd.zeroValue144
  t167 := Tryd.underlying116
  a167 := Tryd.isAgg116
  z167 := Tryd.sizeOf116
  v167 := Tryd.zeroValue116
  t168 := Tryd.underlying118
  a168 := Tryd.isAgg118
  z168 := Tryd.sizeOf118
  v168 := Tryd.zeroValue118
  t171 := Tryd.underlying122
  a171 := Tryd.isAgg122
  z171 := Tryd.sizeOf122
  v171 := Tryd.zeroValue122
  t173 := Tryd.underlying125
  a173 := Tryd.isAgg125
  z173 := Tryd.sizeOf125
  v173 := Tryd.zeroValue125
  t210 := Tryd.underlying135
  a210 := Tryd.isAgg135
  z210 := Tryd.sizeOf135
  v210 := Tryd.zeroValue135
  t212 := Tryd.underlying138
  a212 := Tryd.isAgg138
  z212 := Tryd.sizeOf138
  v212 := Tryd.zeroValue138
  t213 := Tryd.underlying139
  a213 := Tryd.isAgg139
  z213 := Tryd.sizeOf139
  t232 := Tryd.underlying74
  a232 := Tryd.isAgg74
  z232 := Tryd.sizeOf74
  v232 := Tryd.zeroValue74
  t233 := Tryd.underlying153
  a233 := Tryd.isAgg153
  z233 := Tryd.sizeOf153
  v233 := Tryd.zeroValue153
  g15 := by kernel_rfl
  g16 := by kernel_rfl
  g17 := by kernel_rfl
  g18 := by kernel_rfl
  g19 := by kernel_rfl
  t80 := Tryd.underlying72
  a80 := Tryd.isAgg72
  z80 := Tryd.sizeOf72
  v80 := Tryd.zeroValue72
  i0 := by kernel_rfl
  i2 := by kernel_rfl
  i3 := by kernel_rfl
  i4 := by kernel_rfl
  i5 := by kernel_rfl
  i9 := by kernel_rfl
  i20 := by kernel_rfl
  i37 := by kernel_rfl
  i46 := by kernel_rfl
  i51 := by kernel_rfl
  i53 := by kernel_rfl
  i75 := by kernel_rfl
  i80 := by kernel_rfl
  i127 := by kernel_rfl
  i143 := by kernel_rfl
  i145 := by kernel_rfl
  i167 := by kernel_rfl
  i168 := by kernel_rfl
  i171 := by kernel_rfl
  i173 := by kernel_rfl
  i210 := by kernel_rfl
  i212 := by kernel_rfl
  i232 := by kernel_rfl
  i233 := by kernel_rfl
  m15 := by kernel_rfl
  m16 := by kernel_rfl
  m17 := by kernel_rfl
  m18 := by kernel_rfl
  m19 := by kernel_rfl
  c0 := by kernel_rfl
  c2 := by kernel_rfl
  c3 := by kernel_rfl
  c4 := by kernel_rfl
  c5 := by kernel_rfl
  c9 := by kernel_rfl
  c20 := by kernel_rfl
  c37 := by kernel_rfl
  c46 := by kernel_rfl
  c51 := by kernel_rfl
  c53 := by kernel_rfl
  c75 := by kernel_rfl
  c80 := by kernel_rfl
  c127 := by kernel_rfl
  c143 := by kernel_rfl
  c145 := by kernel_rfl
  c167 := by kernel_rfl
  c168 := by kernel_rfl
  c171 := by kernel_rfl
  c173 := by kernel_rfl
  c210 := by kernel_rfl
  c212 := by kernel_rfl
  c213 := by kernel_rfl
  c232 := by kernel_rfl
  c233 := by kernel_rfl }
open Go.RowKit in
theorem Tryd.strconv_toError_syntax (fn s : ByteArray) (base bits : Int) (ev : Value) (w : World) (hlim : s.size ≤ 281474976710656) (hv : w.cell? ⟨0, 0, none⟩ = some ev) (hev : ev = .nilIface ∨ ∃ te pe, ev = .iface te pe) :
    Calls Tryd.prog 63 #[.string fn, .string s, .int .i64 base, .int .i64 bits, .iface 116 (.int .i64 2)] w fun e w' => ∃ N, e = .returned (.iface 118 (.pointer (some ⟨N, 0, none⟩))) ∧ w.heap.size ≤ N ∧ w'.heap[N]? = some (.cells #[.string fn, .string s, ev] 135 (0, 0)) ∧ Below w.heap.size w w' := Any.strconv_toError_syntax Tryd.laysC245 fn s base bits ev w hlim hv hev
open Go.RowKit in
theorem Tryd.strconv_toError_range (fn s : ByteArray) (base bits : Int) (ev : Value) (w : World) (hlim : s.size ≤ 281474976710656) (hv : w.cell? ⟨1, 0, none⟩ = some ev) (hev : ev = .nilIface ∨ ∃ te pe, ev = .iface te pe) :
    Calls Tryd.prog 63 #[.string fn, .string s, .int .i64 base, .int .i64 bits, .iface 116 (.int .i64 1)] w fun e w' => ∃ N, e = .returned (.iface 118 (.pointer (some ⟨N, 0, none⟩))) ∧ w.heap.size ≤ N ∧ w'.heap[N]? = some (.cells #[.string fn, .string s, ev] 135 (0, 0)) ∧ Below w.heap.size w w' := Any.strconv_toError_range Tryd.laysC245 fn s base bits ev w hlim hv hev
def Tryd.lays105_ren : Go.Shelf.Ren := ⟨fun | 105 => 44 | 212 => 55 | 99 => 56 | 165 => 57 | 166 => 58 | 170 => 59 | 169 => 60 | 263 => 65 | 264 => 66 | 206 => 67 | 240 => 68 | 241 => 69 | 276 => 87 | 277 => 88 | n => n, fun | 9 => 9 | 3 => 3 | 4 => 4 | 20 => 20 | 0 => 0 | 46 => 55 | 109 => 92 | 5 => 5 | 72 => 97 | 76 => 99 | 51 => 103 | 146 => 104 | 53 => 81 | 148 => 106 | 70 => 95 | 37 => 54 | 75 => 83 | 127 => 108 | 164 => 127 | 80 => 72 | n => n, fun | n => n⟩
theorem Tryd.lays105 : Go.Proofs.Lays.n105 Tryd.prog Tryd.lays105_ren := {
  mixed := by kernel_rfl
  f99 := Tryd.func56.trans (congrArg some (by kernel_rfl))
  f105 := Tryd.func44.trans (congrArg some (by kernel_rfl))
  f165 := Tryd.func57.trans (congrArg some (by kernel_rfl))
  f166 := Tryd.func58.trans (congrArg some (by kernel_rfl))
  f169 := Tryd.func60.trans (congrArg some (by kernel_rfl))
  f170 := Tryd.func59.trans (congrArg some (by kernel_rfl))
  f206 := Tryd.func67.trans (congrArg some (by kernel_rfl))
  f212 := Tryd.func55.trans (congrArg some (by kernel_rfl))
  f240 := Tryd.func68.trans (congrArg some (by kernel_rfl))
  f241 := Tryd.func69.trans (congrArg some (by kernel_rfl))
  f263 := Tryd.func65.trans (congrArg some (by kernel_rfl))
  f264 := Tryd.func66.trans (congrArg some (by kernel_rfl))
  f276 := Tryd.func87.trans (congrArg some (by kernel_rfl))
  f277 := Tryd.func88.trans (congrArg some (by kernel_rfl))
  t0 := Tryd.underlying0
  a0 := Tryd.isAgg0
  z0 := Tryd.sizeOf0
  v0 := Tryd.zeroValue0
  t3 := Tryd.underlying3
  a3 := Tryd.isAgg3
  z3 := Tryd.sizeOf3
  v3 := Tryd.zeroValue3
  t4 := Tryd.underlying4
  a4 := Tryd.isAgg4
  z4 := Tryd.sizeOf4
  v4 := Tryd.zeroValue4
  t5 := Tryd.underlying5
  a5 := Tryd.isAgg5
  z5 := Tryd.sizeOf5
  v5 := Tryd.zeroValue5
  t9 := Tryd.underlying9
  a9 := Tryd.isAgg9
  z9 := Tryd.sizeOf9
  v9 := Tryd.zeroValue9
  t20 := Tryd.underlying20
  a20 := Tryd.isAgg20
  z20 := Tryd.sizeOf20
  v20 := Tryd.zeroValue20
  t37 := Tryd.underlying54
  a37 := Tryd.isAgg54
  z37 := Tryd.sizeOf54
  v37 := Tryd.zeroValue54
  t46 := Tryd.underlying55
  a46 := Tryd.isAgg55
  z46 := Tryd.sizeOf55
  v46 := Tryd.zeroValue55
  t51 := Tryd.underlying103
  a51 := Tryd.isAgg103
  z51 := Tryd.sizeOf103
  v51 := Tryd.zeroValue103
  t53 := Tryd.underlying81
  a53 := Tryd.isAgg81
  z53 := Tryd.sizeOf81
  v53 := Tryd.zeroValue81
  t70 := Tryd.underlying95
  a70 := Tryd.isAgg95
  z70 := Tryd.sizeOf95
  v70 := Tryd.zeroValue95
  t72 := Tryd.underlying97
  a72 := Tryd.isAgg97
  z72 := Tryd.sizeOf97
  v72 := Tryd.zeroValue97
  t75 := Tryd.underlying83
  a75 := Tryd.isAgg83
  z75 := Tryd.sizeOf83
  v75 := Tryd.zeroValue83
  t76 := Tryd.underlying99
  a76 := Tryd.isAgg99
  z76 := Tryd.sizeOf99
  v76 := Tryd.zeroValue99
  t109 := Tryd.underlying92
  a109 := Tryd.isAgg92
  z109 := Tryd.sizeOf92
  v109 := Tryd.zeroValue92
  t127 := Tryd.underlying108
  a127 := Tryd.isAgg108
  z127 := Tryd.sizeOf108
  v127 := Tryd.zeroValue108
  t146 := Tryd.underlying104
  a146 := Tryd.isAgg104
  z146 := Tryd.sizeOf104
  v146 := Tryd.zeroValue104
  t148 := Tryd.underlying106
  a148 := Tryd.isAgg106
  z148 := Tryd.sizeOf106
  v148 := Tryd.zeroValue106
  t164 := Tryd.underlying127
  a164 := Tryd.isAgg127
  z164 := Tryd.sizeOf127
  v164 := Tryd.zeroValue127 }
theorem Tryd.Builder_Extra_105 : Builder.Extra Tryd.prog Tryd.lays105_ren := {
  sizeBuilder := by kernel_rfl
  liesBuilder := by kernel_rfl
  t5 := Tryd.underlying5
  a5 := Tryd.isAgg5
  z5 := Tryd.sizeOf5
  v5 := Tryd.zeroValue5
  infoByte := by kernel_rfl
  cellsByte := by kernel_rfl
  sizeByte := by kernel_rfl
  neB5 := by decide }
open Go.RowKit Go.Lib in
theorem Tryd.strings_Repeat (s : ByteArray) (c : Nat) (w : World) (hc : c ≤ 9223372036854775807) (hlen : s.size * c ≤ 140737488355328) :
    Calls Tryd.prog 44 #[.string s, .int .i64 c] w fun e w' => e = .returned (.string ⟨(Lib.repeatL s.data.toList c).toArray⟩) ∧ Below w.heap.size w w' := Any.strings_Repeat Tryd.lays105 Tryd.Builder_Extra_105 s c w hc hlen
end Go.Proofs


/- The machine's context of this program, and that it is the program's. -/
namespace T43
open Go Fw Go.Proofs Go.RowKit
set_option maxRecDepth 100000
def bruijn : List Int := [0, 1, 56, 2, 57, 49, 28, 3, 61, 58, 42, 50, 38, 29, 17, 4, 62, 47, 59, 36, 45, 43, 51, 22, 53, 39, 33, 30, 24, 18, 12, 5, 63, 55, 48, 27, 60, 41, 37, 16, 46, 35, 44, 21, 52, 32, 23, 11, 54, 26, 40, 15, 34, 20, 31, 10, 25, 14, 19, 9, 13, 8, 7, 6]
def exts : Nat → Option (List AV → St → Option (AV × St))
  | 44 => some xRepeat
  | 51 => some xJoin
  | 61 => some xTrim1
  | 63 => some xToErr
  | _ => none
def gls : Nat → Option (List AV)
  | 0 => some [.anyiface]
  | 1 => some [.anyiface]
  | 7 => some (bruijn.map (AV.int .u8))
  | _ => none
def modes : Nat → Fw.Mode
  | 12 => .own [1]
  | 24 => .own [1, 1]
  | _ => .plain
def cx : Cx := { fns := fun i => (tbl[i]?).join, gl := gls, ext := exts, mode := modes }
theorem mixed : Tryd.prog.follows .mixedOrders = true := by kernel_rfl
theorem hext (f : Nat) (g : List AV → St → Option (AV × St)) (h : cx.ext f = some g) : ExtOkG Tryd.prog cx.gl f g := by
  change exts f = some g at h
  unfold exts at h
  split at h <;> cases h
  · exact xRepeat_ok Tryd.func44 (by intro h; exact absurd h (by decide)) (by kernel_rfl) fun s c w h1 h2 => Tryd.strings_Repeat s c w h1 h2
  · exact xJoin_ok Tryd.func51 (by intro h; exact absurd h (by decide)) (by kernel_rfl) (fun a c sep w => Tryd.strings_Join_none a c sep w) fun bk o c xs sep w h1 h2 h3 h4 h5 => Tryd.strings_Join bk o c xs sep w h1 h2 h3 h4 h5
  · exact xTrim1_ok Tryd.func61 (by intro h; exact absurd h (by decide)) (by kernel_rfl) fun s c w h1 h2 => Tryd.strings_Trim_one s c h1 w h2
  · refine xToErr_ok Tryd.func63 (by intro h; exact absurd h (by decide)) (by kernel_rfl) (ns := 0) (nr := 1) rfl rfl (fun fn s base bits ev w h1 h2 h3 => ?_) (fun fn s base bits ev w h1 h2 h3 => ?_)
    · exact (Tryd.strconv_toError_syntax fn s base bits ev w h1 h2 h3).mono fun e w' ⟨N, h4, _, _, h5⟩ => ⟨⟨_, _, h4⟩, h5⟩
    · exact (Tryd.strconv_toError_range fn s base bits ev w h1 h2 h3).mono fun e w' ⟨N, h4, _, _, h5⟩ => ⟨⟨_, _, h4⟩, h5⟩
theorem glok : cx.GlOk := by
  intro g cs h
  change gls g = some cs at h
  unfold gls at h
  split at h <;> cases h <;> rfl
theorem cxp (X : Bs) (hX : X.gl = cx.gl) : CxP Tryd.prog X cx := cxp_ofG tbl_shut tbl_ok rfl hext glok mixed X hX
end T43


/- Small facts: a string from a place on, counting on, bytes. -/
namespace T43
open Go Fw Go.Proofs
set_option maxRecDepth 100000
set_option linter.unusedSimpArgs false
set_option linter.unusedVariables false
theorem drop_at {a : List UInt8} {i : Nat} (h : i < a.length) : a.drop i = a.getD i 0 :: a.drop (i + 1) := by
  rw [List.drop_eq_getElem_cons h]; simp [List.getD, h]
theorem wrap_one {i : Nat} (h : i < 9223372036854775807) : IntKind.i64.wrap ((i : Int) + 1) = ((i + 1 : Nat) : Int) := by rw [wrap_i64 (by omega) (by omega)]; rfl
end T43


/- Sectors, frames, what is read of them: plain law. -/
namespace T43
set_option linter.unusedSimpArgs false
set_option linter.unusedVariables false
abbrev Bs8 := List UInt8
def zero32 : Bs8 := List.replicate 32 0
/-- A digit, in lower case. -/
def hexD (n : Nat) : UInt8 := if n % 16 < 10 then UInt8.ofNat (48 + n % 16) else UInt8.ofNat (87 + n % 16)
def hexB : Nat → Nat → Bs8
  | _, 0 => []
  | n, k + 1 => hexB (n / 16) k ++ [hexD n]
def mixS (h : Nat) (b : UInt8) : Nat := ((h ^^^ b.toNat) * 1099511628211) % 18446744073709551616
def mixB (s : Bs8) (h : Nat) : Nat := s.foldl mixS h
def digB (s : Bs8) : Bs8 := hexB (mixB s 14695981039346656037) 16
def szB (n : Nat) : Nat := (n + 59) / 32
def chunks : Nat → Bs8 → List Bs8
  | 0, _ => []
  | k + 1, s => s.take 32 :: chunks k (s.drop 32)
def headB (number : Nat) (r : Bs8) : Bs8 := hexB number 8 ++ hexB r.length 4
def frameAll (number : Nat) (r : Bs8) : Bs8 := headB number r ++ digB (headB number r ++ r) ++ r ++ List.replicate (32 * szB r.length - (r.length + 28)) 0
def frameB (number : Nat) (r : Bs8) : List Bs8 := chunks (szB r.length) (frameAll number r)
theorem hexB_len : ∀ (k n : Nat), (hexB n k).length = k
  | 0, _ => rfl
  | k + 1, n => by simp [hexB, hexB_len k]
theorem headB_len (n : Nat) (r : Bs8) : (headB n r).length = 12 := by simp [headB, hexB_len]
theorem digB_len (s : Bs8) : (digB s).length = 16 := hexB_len 16 _
theorem szB_le (n : Nat) : n + 28 ≤ 32 * szB n ∧ 32 * szB n < n + 60 := by unfold szB; omega
theorem frameAll_len (n : Nat) (r : Bs8) : (frameAll n r).length = 32 * szB r.length := by
  have := szB_le r.length
  simp only [frameAll, List.length_append, headB_len, digB_len, List.length_replicate]; omega
theorem chunks_len : ∀ (k : Nat) (s : Bs8), (chunks k s).length = k
  | 0, _ => rfl
  | k + 1, s => by simp [chunks, chunks_len k]
theorem chunks_flat : ∀ (k : Nat) (s : Bs8), s.length = 32 * k → (chunks k s).flatten = s
  | 0, s, h => by simp only [chunks, List.flatten_nil]; exact (List.eq_nil_of_length_eq_zero (by omega)).symm
  | k + 1, s, h => by
    simp only [chunks, List.flatten_cons]
    rw [chunks_flat k (s.drop 32) (by rw [List.length_drop]; omega), List.take_append_drop]
theorem chunks_32 : ∀ (k : Nat) (s : Bs8), s.length = 32 * k → ∀ x ∈ chunks k s, x.length = 32
  | 0, s, h, x, hx => by simp [chunks] at hx
  | k + 1, s, h, x, hx => by
    simp only [chunks, List.mem_cons] at hx
    rcases hx with rfl | hx
    · rw [List.length_take]; omega
    · exact chunks_32 k (s.drop 32) (by rw [List.length_drop]; omega) x hx
theorem frameB_len (n : Nat) (r : Bs8) : (frameB n r).length = szB r.length := chunks_len _ _
theorem frameB_flat (n : Nat) (r : Bs8) : (frameB n r).flatten = frameAll n r := chunks_flat _ _ (frameAll_len n r)
theorem frameB_32 (n : Nat) (r : Bs8) : ∀ x ∈ frameB n r, x.length = 32 := chunks_32 _ _ (frameAll_len n r)
theorem szB_pos (n : Nat) : 1 ≤ szB n := by unfold szB; omega
/-- The value of a digit. -/
def hexU (b : UInt8) : Option Nat := if 48 ≤ b.toNat ∧ b.toNat ≤ 57 then some (b.toNat - 48) else if 97 ≤ b.toNat ∧ b.toNat ≤ 102 then some (b.toNat - 87) else none
def hexV : Bs8 → Nat → Option Nat
  | [], n => some n
  | b :: s, n => match hexU b with
    | some d => hexV s (16 * n + d)
    | none => none
theorem hexD_u (n : Nat) : hexU (hexD n) = some (n % 16) := by
  have h : n % 16 < 16 := Nat.mod_lt _ (by decide)
  unfold hexD
  generalize n % 16 = m at *
  have : ∀ m : Fin 16, hexU (if m.val < 10 then UInt8.ofNat (48 + m.val) else UInt8.ofNat (87 + m.val)) = some m.val := by decide
  exact this ⟨m, h⟩
theorem hexD_range (n : Nat) : 48 ≤ (hexD n).toNat ∧ (hexD n).toNat ≤ 102 := by
  have h : n % 16 < 16 := Nat.mod_lt _ (by decide)
  unfold hexD
  generalize n % 16 = m at *
  have : ∀ m : Fin 16, 48 ≤ (if m.val < 10 then UInt8.ofNat (48 + m.val) else UInt8.ofNat (87 + m.val)).toNat ∧ (if m.val < 10 then UInt8.ofNat (48 + m.val) else UInt8.ofNat (87 + m.val)).toNat ≤ 102 := by decide
  exact this ⟨m, h⟩
theorem hexV_app : ∀ (s t : Bs8) (n : Nat), hexV (s ++ t) n = (hexV s n).bind (hexV t)
  | [], t, n => rfl
  | b :: s, t, n => by
    simp only [List.cons_append, hexV]
    cases hexU b with
    | none => rfl
    | some d => exact hexV_app s t _
theorem hexV_hexB : ∀ (k n m : Nat), hexV (hexB n k) m = some (m * 16 ^ k + n % 16 ^ k)
  | 0, n, m => by simp [hexB, hexV, Nat.mod_one]
  | k + 1, n, m => by
    simp only [hexB, hexV_app, hexV_hexB k (n / 16) m, Option.bind_some, hexV, hexD_u]
    have e1 : n % 16 ^ (k + 1) = n % 16 + 16 * (n / 16 % 16 ^ k) := by rw [Nat.pow_succ, Nat.mul_comm, Nat.mod_mul]
    rw [e1, Nat.pow_succ, ← Nat.mul_assoc, Nat.mul_comm (m * 16 ^ k) 16]
    congr 1; omega
def eNone : Int := 9
def eBad : Int := 14
/-- What stands at the begin of sectors. -/
def parseB (secs : List Bs8) : Nat × Bs8 × Nat × Int :=
  match secs with
  | [] => (0, [], 0, eNone)
  | f :: _ =>
    if f = zero32 then (0, [], 0, eNone)
    else if f.length ≠ 32 then (0, [], 0, eBad)
    else match hexV (f.take 8) 0, hexV ((f.drop 8).take 4) 0 with
      | some n, some l =>
        if 1024 < l ∨ 4096 ≤ n ∨ secs.length < szB l then (0, [], 0, eBad)
        else if frameB n (((secs.take (szB l)).flatten.drop 28).take l) = secs.take (szB l) then (n, ((secs.take (szB l)).flatten.drop 28).take l, szB l, 0)
        else (0, [], 0, eBad)
      | _, _ => (0, [], 0, eBad)
theorem frameB_cons (n : Nat) (r : Bs8) : ∃ t, frameB n r = (frameAll n r).take 32 :: t := by
  unfold frameB
  have := szB_pos r.length
  obtain ⟨k, hk⟩ : ∃ k, szB r.length = k + 1 := ⟨szB r.length - 1, by omega⟩
  rw [hk]; exact ⟨_, rfl⟩
theorem take_head (n : Nat) (r : Bs8) : ((frameAll n r).take 32).take 8 = hexB n 8 ∧ (((frameAll n r).take 32).drop 8).take 4 = hexB r.length 4 ∧ (frameAll n r).drop 28 = r ++ List.replicate (32 * szB r.length - (r.length + 28)) 0 := by
  have l1 := hexB_len 8 n
  have l2 := hexB_len 4 r.length
  have l3 := digB_len (headB n r ++ r)
  refine ⟨?_, ?_, ?_⟩
  · rw [List.take_take, show min 8 32 = 8 from rfl]
    simp only [frameAll, headB, List.append_assoc]
    rw [List.take_append_of_le_length (by omega), List.take_of_length_le (by omega)]
  · rw [List.drop_take, List.take_take, show min 4 (32 - 8) = 4 from rfl]
    simp only [frameAll, headB, List.append_assoc]
    rw [List.drop_append, List.drop_eq_nil_of_le (by omega), List.nil_append, l1, Nat.sub_self, List.drop_zero, List.take_append_of_le_length (by omega), List.take_of_length_le (by omega)]
  · have e : frameAll n r = (headB n r ++ digB (headB n r ++ r)) ++ (r ++ List.replicate (32 * szB r.length - (r.length + 28)) 0) := by simp only [frameAll, List.append_assoc]
    have l4 : (headB n r ++ digB (headB n r ++ r)).length = 28 := by simp [headB_len, digB_len]
    rw [e, List.drop_append, List.drop_eq_nil_of_le (by omega), List.nil_append, l4, Nat.sub_self, List.drop_zero]
theorem first_ne (n : Nat) (r : Bs8) : (frameAll n r).take 32 ≠ zero32 := by
  intro h
  have h1 := (take_head n r).1
  rw [h] at h1
  have h2 := congrArg (fun l => l.getD 7 1) h1
  have h3 : (hexB n 8).getD 7 1 = hexD n := by simp [hexB]
  simp only [h3] at h2
  have h4 := (hexD_range n).1
  rw [← h2] at h4
  revert h4; decide
theorem parse_frame (n : Nat) (r : Bs8) (hn : n < 4096) (hr : r.length ≤ 1024) (rest : List Bs8) : parseB (frameB n r ++ rest) = (n, r, szB r.length, 0) := by
  obtain ⟨t, ht⟩ := frameB_cons n r
  obtain ⟨h1, h2, h3⟩ := take_head n r
  have hl : ((frameAll n r).take 32).length = 32 := frameB_32 n r _ (by rw [ht]; simp)
  have hv1 : hexV (hexB n 8) 0 = some n := by rw [hexV_hexB]; simp only [Nat.zero_mul, Nat.zero_add]; rw [Nat.mod_eq_of_lt (by omega)]
  have hv2 : hexV (hexB r.length 4) 0 = some r.length := by rw [hexV_hexB]; simp only [Nat.zero_mul, Nat.zero_add]; rw [Nat.mod_eq_of_lt (by omega)]
  have htk : (frameB n r ++ rest).take (szB r.length) = frameB n r := by
    rw [List.take_append_of_le_length (by rw [frameB_len]; exact Nat.le_refl _), List.take_of_length_le (by rw [frameB_len]; exact Nat.le_refl _)]
  have hlen : szB r.length ≤ (frameB n r ++ rest).length := by rw [List.length_append, frameB_len]; omega
  have hrec : ((frameB n r).flatten.drop 28).take r.length = r := by
    rw [frameB_flat, h3, List.take_append_of_le_length (Nat.le_refl _), List.take_of_length_le (Nat.le_refl _)]
  have e : frameB n r ++ rest = (frameAll n r).take 32 :: (t ++ rest) := by rw [ht]; rfl
  unfold parseB
  split
  · rename_i h; rw [e] at h; cases h
  · rename_i f t' h
    rw [e] at h
    obtain ⟨rfl, _⟩ := List.cons.inj h
    rw [if_neg (first_ne n r), if_neg (by rw [hl]; simp)]
    simp only [h1, h2, hv1, hv2, htk, hrec]
    rw [if_neg (by omega), if_pos trivial]
theorem no_err {a n c k : Nat} {b r : Bs8} {e : Int} (h : (a, b, c, e) = (n, r, k, (0 : Int))) (he : e ≠ 0) : False := by
  simp only [Prod.mk.injEq] at h
  exact he h.2.2.2
theorem parse_ok {secs : List Bs8} {n k : Nat} {r : Bs8} (h : parseB secs = (n, r, k, 0)) : n < 4096 ∧ r.length ≤ 1024 ∧ k = szB r.length ∧ k ≤ secs.length ∧ secs.take k = frameB n r := by
  unfold parseB at h
  split at h
  · exact (no_err h (by decide)).elim
  · rename_i f t
    split at h
    · exact (no_err h (by decide)).elim
    split at h
    · exact (no_err h (by decide)).elim
    split at h
    · rename_i n' l h1 h2
      split at h
      · exact (no_err h (by decide)).elim
      rename_i hc
      split at h
      · rename_i hf
        simp only [Prod.mk.injEq] at h
        obtain ⟨rfl, hr, rfl, _⟩ := h
        rw [hr] at hf
        have hlen := congrArg List.length hf
        rw [frameB_len, List.length_take] at hlen
        have hfl := congrArg (fun x => (List.flatten x).length) hf
        simp only [frameB_flat, frameAll_len] at hfl
        have hrl : r.length = l := by
          have : r.length = min l ((((f :: t).take (szB l)).flatten).length - 28) := by rw [← hr, List.length_take, List.length_drop]
          have h4 := szB_le l
          have h5 : min (szB l) (f :: t).length = szB l := by omega
          rw [h5] at hlen
          rw [hlen] at hfl
          omega
        rw [hrl]
        exact ⟨by omega, by omega, rfl, by omega, hf.symm⟩
      · exact (no_err h (by decide)).elim
    · exact (no_err h (by decide)).elim
end T43


/- The disk and the journal: plain model. -/
namespace T43
set_option linter.unusedSimpArgs false
set_option linter.unusedVariables false
structure DK where
  now : List Bs8
  dur : List Bs8
  drt : List Bool
structure DKok (d : DK) (n : Nat) : Prop where
  l1 : d.now.length = n
  l2 : d.dur.length = n
  l3 : d.drt.length = n
  b1 : ∀ x ∈ d.now, x.length = 32
  b2 : ∀ x ∈ d.dur, x.length = 32
def DK.new (n : Nat) : DK := ⟨List.replicate n zero32, List.replicate n zero32, List.replicate n false⟩
def DK.writeE (d : DK) (i : Int) (x : Bs8) : Int := if i < 0 ∨ (d.now.length : Int) ≤ i then 6 else if x.length ≠ 32 then 1 else 0
def DK.put (d : DK) (i : Nat) (x : Bs8) : DK := ⟨d.now.set i x, d.dur, d.drt.set i true⟩
def DK.write (d : DK) (i : Int) (x : Bs8) : DK := if d.writeE i x = 0 then d.put i.toNat x else d
def DK.sync (d : DK) : DK := ⟨d.now, d.now, List.replicate d.now.length false⟩
def posL : Nat → List Bool → List Nat
  | _, [] => []
  | i, b :: l => if b then i :: posL (i + 1) l else posL (i + 1) l
def DK.dirty (d : DK) : List Nat := posL 0 d.drt
/-- Is the sector lost? -/
def lostB (kept : List Int) (i : Nat) (b : Bool) : Bool := b && !kept.contains (i : Int)
def crashL (kept : List Int) : Nat → List Bool → List Bs8 → List Bs8 → List Bs8
  | i, b :: bs, x :: xs, y :: ys => (if lostB kept i b then y else x) :: crashL kept (i + 1) bs xs ys
  | _, _, _, _ => []
def DK.crash (d : DK) (kept : List Int) : DK := ⟨crashL kept 0 d.drt d.now d.dur, crashL kept 0 d.drt d.now d.dur, List.replicate d.now.length false⟩
theorem crashL_len (kept : List Int) : ∀ (bs : List Bool) (xs ys : List Bs8) (i : Nat), xs.length = bs.length → ys.length = bs.length → (crashL kept i bs xs ys).length = bs.length
  | [], _, _, _, _, _ => rfl
  | b :: bs, [], _, _, h, _ => by cases h
  | b :: bs, _ :: _, [], _, _, h => by cases h
  | b :: bs, x :: xs, y :: ys, i, h1, h2 => by
    simp only [crashL, List.length_cons]
    rw [crashL_len kept bs xs ys (i + 1) (by simpa using h1) (by simpa using h2)]
theorem crashL_32 (kept : List Int) : ∀ (bs : List Bool) (xs ys : List Bs8) (i : Nat), (∀ x ∈ xs, x.length = 32) → (∀ y ∈ ys, y.length = 32) → ∀ z ∈ crashL kept i bs xs ys, z.length = 32
  | [], _, _, _, _, _, z, hz => by simp [crashL] at hz
  | b :: bs, [], _, _, _, _, z, hz => by simp [crashL] at hz
  | b :: bs, _ :: _, [], _, _, _, z, hz => by simp [crashL] at hz
  | b :: bs, x :: xs, y :: ys, i, h1, h2, z, hz => by
    simp only [crashL, List.mem_cons] at hz
    rcases hz with rfl | hz
    · split
      · exact h2 _ (by simp)
      · exact h1 _ (by simp)
    · exact crashL_32 kept bs xs ys (i + 1) (fun u hu => h1 u (by simp [hu])) (fun u hu => h2 u (by simp [hu])) z hz
theorem crashL_get (kept : List Int) : ∀ (bs : List Bool) (xs ys : List Bs8) (i j : Nat), xs.length = bs.length → ys.length = bs.length → j < bs.length → (crashL kept i bs xs ys).getD j [] = if lostB kept (i + j) (bs.getD j false) then ys.getD j [] else xs.getD j []
  | [], _, _, _, j, _, _, h => by simp at h
  | b :: bs, [], _, _, _, h, _, _ => by cases h
  | b :: bs, _ :: _, [], _, _, _, h, _ => by cases h
  | b :: bs, x :: xs, y :: ys, i, 0, h1, h2, h => by simp [crashL]
  | b :: bs, x :: xs, y :: ys, i, j + 1, h1, h2, h => by
    simp only [crashL, List.getD_cons_succ]
    rw [crashL_get kept bs xs ys (i + 1) j (by simpa using h1) (by simpa using h2) (by simpa using h), show i + 1 + j = i + (j + 1) by omega]
theorem DKok.new (n : Nat) : DKok (DK.new n) n := ⟨by simp [DK.new], by simp [DK.new], by simp [DK.new], fun x hx => by rw [(List.mem_replicate.1 hx).2]; rfl, fun x hx => by rw [(List.mem_replicate.1 hx).2]; rfl⟩
theorem mem_set {l : List Bs8} {i : Nat} {x y : Bs8} (h : y ∈ l.set i x) : y ∈ l ∨ y = x := by
  rcases List.mem_or_eq_of_mem_set h with h | h
  · exact .inl h
  · exact .inr h
theorem DKok.put {d : DK} {n i : Nat} {x : Bs8} (h : DKok d n) (hx : x.length = 32) : DKok (d.put i x) n := ⟨by simp [DK.put, h.l1], h.l2, by simp [DK.put, h.l3], fun y hy => (mem_set hy).elim (h.b1 y) (fun e => by rw [e]; exact hx), h.b2⟩
theorem DKok.write {d : DK} {n : Nat} {i : Int} {x : Bs8} (h : DKok d n) : DKok (d.write i x) n := by
  unfold DK.write
  split
  · rename_i hw
    refine h.put ?_
    unfold DK.writeE at hw
    split at hw
    · cases hw
    split at hw
    · cases hw
    rename_i h1; exact Classical.not_not.1 h1
  · exact h
theorem DKok.sync {d : DK} {n : Nat} (h : DKok d n) : DKok d.sync n := ⟨h.l1, h.l1, by simp [DK.sync, h.l1], h.b1, h.b1⟩
theorem DKok.crash {d : DK} {n : Nat} {kept : List Int} (h : DKok d n) : DKok (d.crash kept) n := by
  have l := crashL_len kept d.drt d.now d.dur 0 (by rw [h.l1, h.l3]) (by rw [h.l2, h.l3])
  have b := crashL_32 kept d.drt d.now d.dur 0 h.b1 h.b2
  exact ⟨by simp only [DK.crash]; rw [l, h.l3], by simp only [DK.crash]; rw [l, h.l3], by simp [DK.crash, h.l1], b, b⟩
structure JN where
  recs : List Bs8
  dur : Nat
  fin : Nat
def scanB : Nat → List Bs8 → Nat → List Bs8 → List Bs8 × Nat
  | 0, _, at', recs => (recs, at')
  | n + 1, secs, at', recs => if (parseB (secs.drop at')).2.2.2 = 0 ∧ (parseB (secs.drop at')).1 = recs.length then scanB n secs (at' + (parseB (secs.drop at')).2.2.1) (recs ++ [(parseB (secs.drop at')).2.1]) else (recs, at')
def openJ (d : DK) : JN := ⟨(scanB d.now.length d.now 0 []).1, (scanB d.now.length d.now 0 []).1.length, (scanB d.now.length d.now 0 []).2⟩
def wipeL (d : DK) (e : Nat) : List Bs8 := d.now.take e ++ List.replicate (d.now.length - e) zero32
def openD (d : DK) : DK := if d.drt.any id = true ∨ wipeL d (openJ d).fin ≠ d.now then ⟨wipeL d (openJ d).fin, wipeL d (openJ d).fin, List.replicate d.now.length false⟩ else d
def stageE (j : JN) (d : DK) (r : Bs8) : Int := if 1024 < r.length then 7 else if d.now.length - j.fin < szB r.length then 16 else 0
def stageD (j : JN) (d : DK) (r : Bs8) : DK := ⟨d.now.take j.fin ++ frameB j.recs.length r ++ d.now.drop (j.fin + szB r.length), d.dur, d.drt.take j.fin ++ List.replicate (szB r.length) true ++ d.drt.drop (j.fin + szB r.length)⟩
def stageJ (j : JN) (r : Bs8) : JN := ⟨j.recs ++ [r], j.dur, j.fin + szB r.length⟩
structure JNok (j : JN) (d : DK) : Prop where
  a : j.recs.length ≤ j.fin
  b : j.fin ≤ d.now.length
theorem scan_ok : ∀ (n : Nat) (secs : List Bs8) (at' : Nat) (recs : List Bs8), recs.length ≤ at' → at' ≤ secs.length → (scanB n secs at' recs).1.length ≤ (scanB n secs at' recs).2 ∧ (scanB n secs at' recs).2 ≤ secs.length
  | 0, secs, at', recs, h1, h2 => ⟨h1, h2⟩
  | n + 1, secs, at', recs, h1, h2 => by
    simp only [scanB]
    split
    · rename_i h
      obtain ⟨p1, p2, p3, p4, p5⟩ := parse_ok (secs := secs.drop at') (n := (parseB (secs.drop at')).1) (r := (parseB (secs.drop at')).2.1) (k := (parseB (secs.drop at')).2.2.1) (by rw [← h.1])
      have := szB_pos (parseB (secs.drop at')).2.1.length
      rw [List.length_drop] at p4
      exact scan_ok n secs _ _ (by rw [List.length_append, List.length_cons, List.length_nil]; omega) (by omega)
    · exact ⟨h1, h2⟩
theorem openJ_ok (d : DK) : JNok (openJ d) d := ⟨(scan_ok d.now.length d.now 0 [] (Nat.le_refl _) (Nat.zero_le _)).1, (scan_ok d.now.length d.now 0 [] (Nat.le_refl _) (Nat.zero_le _)).2⟩
theorem wipe_len {d : DK} {e : Nat} (h : e ≤ d.now.length) : (wipeL d e).length = d.now.length := by
  unfold wipeL; rw [List.length_append, List.length_take, List.length_replicate]; omega
theorem stageE_0 {j : JN} {d : DK} {r : Bs8} (h : stageE j d r = 0) : r.length ≤ 1024 ∧ szB r.length ≤ d.now.length - j.fin := by
  unfold stageE at h
  split at h
  · cases h
  split at h
  · cases h
  omega
theorem stageJ_ok {j : JN} {d : DK} {r : Bs8} {n : Nat} (h : DKok d n) (hj : JNok j d) (he : stageE j d r = 0) : JNok (stageJ j r) (stageD j d r) := by
  obtain ⟨e1, e2⟩ := stageE_0 he
  have hp := szB_pos r.length
  have := hj.a; have := hj.b
  refine ⟨?_, ?_⟩
  · simp only [stageJ, List.length_append, List.length_cons, List.length_nil]; omega
  · simp only [stageJ, stageD, List.length_append, List.length_take, List.length_drop, frameB_len]; omega
end T43


/- Digests and hexadecimal numerals. -/
namespace T43
open Go Fw Go.Proofs
set_option maxRecDepth 100000
set_option maxHeartbeats 8000000
set_option linter.unusedSimpArgs false
set_option linter.unusedVariables false
theorem wrap_u64 (n : Int) : IntKind.u64.wrap n = n % 18446744073709551616 := rfl
theorem xor64 (a b : Nat) (ha : a < 18446744073709551616) (hb : b < 18446744073709551616) : evBin .xor (.int .u64 (a : Int)) (.int .u64 (b : Int)) = some (.int .u64 ((a ^^^ b : Nat) : Int)) := by
  have h1 : a ^^^ b < 2 ^ 64 := Nat.xor_lt_two_pow (by simpa using ha) (by simpa using hb)
  have e : (BitVec.ofInt 64 (a : Int) ^^^ BitVec.ofInt 64 (b : Int)).toNat = a ^^^ b := by
    rw [BitVec.ofInt_natCast, BitVec.ofInt_natCast, BitVec.toNat_xor, BitVec.toNat_ofNat, BitVec.toNat_ofNat, Nat.mod_eq_of_lt (by simpa using ha), Nat.mod_eq_of_lt (by simpa using hb)]
  show some (AV.int .u64 (IntKind.u64.wrap ((BitVec.ofInt 64 (a : Int) ^^^ BitVec.ofInt 64 (b : Int)).toNat : Int))) = _
  rw [e, wrap_u64]
  congr 2
  have : a ^^^ b < 18446744073709551616 := by simpa using h1
  omega
theorem and15 (a : Nat) (ha : a < 18446744073709551616) : evBin .and (.int .u64 (a : Int)) (.int .u64 15) = some (.int .u64 ((a % 16 : Nat) : Int)) := by
  have e : (BitVec.ofInt 64 (a : Int) &&& BitVec.ofInt 64 ((15 : Nat) : Int)).toNat = a % 16 := by
    rw [BitVec.ofInt_natCast, BitVec.ofInt_natCast, BitVec.toNat_and, BitVec.toNat_ofNat, BitVec.toNat_ofNat, Nat.mod_eq_of_lt (by simpa using ha)]
    exact Nat.and_two_pow_sub_one_eq_mod a 4
  show some (AV.int .u64 (IntKind.u64.wrap ((BitVec.ofInt 64 (a : Int) &&& BitVec.ofInt 64 ((15 : Nat) : Int)).toNat : Int))) = _
  rw [e, wrap_u64]
  congr 2
  omega
def hexT : List UInt8 := [48, 49, 50, 51, 52, 53, 54, 55, 56, 57, 97, 98, 99, 100, 101, 102]
theorem hexT_get (n : Nat) : hexT.getD (n % 16) 0 = hexD n := by
  have h : n % 16 < 16 := Nat.mod_lt _ (by decide)
  unfold hexD
  generalize n % 16 = m at *
  have : ∀ m : Fin 16, hexT.getD m.val 0 = (if m.val < 10 then UInt8.ofNat (48 + m.val) else UInt8.ofNat (87 + m.val)) := by decide
  exact this ⟨m, h⟩
theorem hexT_at (n : Nat) : ([48, 49, 50, 51, 52, 53, 54, 55, 56, 57, 97, 98, 99, 100, 101, 102] : List UInt8).getD (n % 16) 0 = hexD n := hexT_get n
theorem hexB_cons : ∀ (k n : Nat), hexB n (k + 1) = hexD (n / 16 ^ k) :: hexB n k
  | 0, n => by simp [hexB]
  | k + 1, n => by
    rw [show hexB n (k + 1 + 1) = hexB (n / 16) (k + 1) ++ [hexD n] from rfl, hexB_cons k (n / 16), Nat.div_div_eq_div_mul, ← Nat.pow_succ']
    rfl
theorem mixS_lt (h : Nat) (b : UInt8) : mixS h b < 18446744073709551616 := by unfold mixS; exact Nat.mod_lt _ (by decide)
theorem mixB_cons (b : UInt8) (s : Bs8) (h : Nat) : mixB (b :: s) h = mixB s (mixS h b) := List.foldl_cons ..
theorem mixB_nil (h : Nat) : mixB [] h = h := List.foldl_nil ..
theorem mixB_lt : ∀ (s : Bs8) (h : Nat), h < 18446744073709551616 → mixB s h < 18446744073709551616
  | [], h, hh => by rw [mixB_nil]; exact hh
  | b :: s, h, _ => by rw [mixB_cons]; exact mixB_lt s _ (mixS_lt h b)
theorem byte64 (b : UInt8) : IntKind.u64.wrap ((b.toNat : Nat) : Int) = ((b.toNat : Nat) : Int) := by
  have := b.toNat_lt; rw [wrap_u64]; omega
theorem mul64 (h : Nat) (b : UInt8) : IntKind.u64.wrap (((h ^^^ b.toNat : Nat) : Int) * 1099511628211) = ((mixS h b : Nat) : Int) := by rw [wrap_u64]; unfold mixS; omega
theorem l039 (s : Bs8) (hs : s.length < 9223372036854775807) (st : St) (Q : Sig → FE → St → Prop) : ∀ (n i h : Nat) (e : FE), i + n = s.length → h < 18446744073709551616 → e 0 = .str s → e 8 = .int .i64 (s.length : Int) → e 3 = .int .u64 (h : Int) → e 9 = .int .i64 (i : Int) →
    (∀ e', e' 3 = .int .u64 ((mixB (s.drop i) h : Nat) : Int) → Q (.exit 0) e' st) → WLoop cx ir39L0 e st Q
  | 0, i, h, e, hi, hh, h0, h8, h3, h9, hQ => by
    refine WLoop.rnd (c := _) ir39L0.eq_1 ?_
    have d1 : decide ((i : Int) < (s.length : Int)) = false := decide_eq_false (by omega)
    rw [List.drop_eq_nil_of_le (by omega), mixB_nil] at hQ
    simp (config := {contextual := true, implicitDefEqProofs := false, maxSteps := 4000000}) only [go_sem, ↓reduceIte, Bool.false_eq_true, Nat.reduceEqDiff, Nat.reduceAdd, Int.reduceLE, Int.reduceLT, Int.reduceEq, Int.reduceToNat, Int.toNat_natCast, Int.cast_ofNat_Int, Int.natCast_one, Nat.reduceMod, Nat.reduceDiv, UInt8.reduceToNat, Nat.reduceLT, h0, h8, h3, h9, d1]
    exact hQ _ h3
  | n + 1, i, h, e, hi, hh, h0, h8, h3, h9, hQ => by
    refine WLoop.rnd (c := _) ir39L0.eq_1 ?_
    have d1 : decide ((i : Int) < (s.length : Int)) = true := decide_eq_true (by omega)
    have b1 : (0 : Int) ≤ (i : Int) := by omega
    have b2 : (i : Int) < (s.length : Int) := by omega
    rw [drop_at (by omega), mixB_cons] at hQ
    have x1 := xor64 h (s.getD i 0).toNat hh (by have := (s.getD i 0).toNat_lt; omega)
    have w := wrap_one (i := i) (by omega)
    simp (config := {contextual := true, implicitDefEqProofs := false, maxSteps := 4000000}) only [go_sem, ↓reduceIte, Bool.false_eq_true, Nat.reduceEqDiff, Nat.reduceAdd, Int.reduceLE, Int.reduceLT, Int.reduceEq, Int.reduceToNat, Int.toNat_natCast, Int.cast_ofNat_Int, Int.natCast_one, Nat.reduceMod, Nat.reduceDiv, UInt8.reduceToNat, Nat.reduceLT, h0, h8, h3, h9, d1, b1, b2, byte64, x1, mul64, w]
    exact l039 s hs st Q n (i + 1) _ _ (by omega) (mixS_lt _ _) h0 h8 rfl rfl hQ
def nibC (h j : Nat) : AV := .int .u8 (((hexD (h / 16 ^ (15 - j))).toNat : Nat) : Int)
def nibL (h i : Nat) : List AV := (List.range i).map (nibC h) ++ List.replicate (16 - i) (.int .u8 0)
theorem nib_step {h i : Nat} (hi : i < 16) : patch (nibL h i) i [nibC h i] = some (nibL h (i + 1)) := by
  unfold nibL
  have l : ((List.range i).map (nibC h)).length = i := by simp
  unfold patch
  rw [if_pos (by simp; omega), List.take_append_of_le_length (by simp), List.take_of_length_le (by simp), List.drop_append, List.drop_eq_nil_of_le (by simp), List.nil_append, l, List.length_singleton, List.drop_replicate, List.range_succ, List.map_append]
  simp only [List.map_cons, List.map_nil, show i + 1 - i = 1 by omega, show 16 - i - 1 = 16 - (i + 1) by omega]
theorem l139 (h : Nat) (hh : h < 18446744073709551616) (C : Nat) (ty : Option TypeId) (lo : Nat) (Q : Sig → FE → St → Prop) : ∀ (n i : Nat) (e : FE) (st : St), i + n = 16 → Fw.look C st.heap = some (.cells ty (nibL h i)) → lo ≤ C → lo ≤ st.low → e 3 = .int .u64 (h : Int) → e 5 = .ptr C 0 → e 20 = .int .i64 (i : Int) →
    (∀ e' st', Fw.look C st'.heap = some (.cells ty ((List.range 16).map (nibC h))) → lo ≤ st'.low → e' 5 = .ptr C 0 → Q (.exit 2) e' st') → WLoop cx ir39L1 e st Q
  | 0, i, e, st, hi, hlk, hlo, hl2, h3, h5, h20, hQ => by
    refine WLoop.rnd (c := _) ir39L1.eq_1 ?_
    have d1 : decide ((i : Int) < 16) = false := decide_eq_false (by omega)
    simp (config := {contextual := true, implicitDefEqProofs := false, maxSteps := 4000000}) only [go_sem, ↓reduceIte, Bool.false_eq_true, Nat.reduceEqDiff, Nat.reduceAdd, Int.reduceLE, Int.reduceLT, Int.reduceEq, Int.reduceToNat, Int.toNat_natCast, Int.cast_ofNat_Int, Int.natCast_one, Nat.reduceMod, Nat.reduceDiv, UInt8.reduceToNat, Nat.reduceLT, h3, h5, h20, d1]
    refine hQ _ _ ?_ hl2 h5
    rw [hlk, show i = 16 by omega]; simp [nibL]
  | n + 1, i, e, st, hi, hlk, hlo, hl2, h3, h5, h20, hQ => by
    refine WLoop.rnd (c := _) ir39L1.eq_1 ?_
    have d1 : decide ((i : Int) < 16) = true := decide_eq_true (by omega)
    have b0 : (0 : Int) ≤ (i : Int) ∧ (i : Int) < ((16 : Nat) : Int) := by omega
    have b0' : (i : Int) < 16 := by omega
    have w1 : IntKind.i64.wrap (4 * (i : Int)) = 4 * (i : Int) := wrap_i64 (by omega) (by omega)
    have w2 : IntKind.i64.wrap (60 - 4 * (i : Int)) = ((60 - 4 * i : Nat) : Int) := by rw [wrap_i64 (by omega) (by omega)]; omega
    have s1 : evBin .shr (.int .u64 (h : Int)) (.int .i64 ((60 - 4 * i : Nat) : Int)) = some (.int .u64 ((h / 16 ^ (15 - i) : Nat) : Int)) := by
      rw [bin_shr, if_neg (by omega)]
      congr 2
      rw [Int.toNat_natCast, show min (60 - 4 * i) IntKind.u64.bits = 60 - 4 * i from Nat.min_eq_left (by show 60 - 4 * i ≤ 64; omega), Int.fdiv_eq_ediv_of_nonneg _ (Int.pow_nonneg (by decide)), show 60 - 4 * i = 4 * (15 - i) by omega, Int.pow_mul]
      norm_cast
    have a1 := and15 (h / 16 ^ (15 - i)) (Nat.lt_of_le_of_lt (Nat.div_le_self _ _) hh)
    have b3 : (0 : Int) ≤ ((h / 16 ^ (15 - i) % 16 : Nat) : Int) := by omega
    have b4 : ((h / 16 ^ (15 - i) % 16 : Nat) : Int) < 16 := by omega
    have g1 := hexT_at (h / 16 ^ (15 - i))
    have p1 := nib_step (h := h) (i := i) (by omega)
    have e1 : nibC h i = .int .u8 (((hexD (h / 16 ^ (15 - i))).toNat : Nat) : Int) := rfl
    rw [e1] at p1
    have w := wrap_one (i := i) (by omega)
    simp (config := {contextual := true, implicitDefEqProofs := false, maxSteps := 4000000}) only [go_sem, ↓reduceIte, Bool.false_eq_true, Nat.reduceEqDiff, Nat.reduceAdd, Int.reduceLE, Int.reduceLT, Int.reduceEq, Int.reduceToNat, Int.toNat_natCast, Int.cast_ofNat_Int, Int.natCast_one, Nat.reduceMod, Nat.reduceDiv, UInt8.reduceToNat, Nat.reduceLT, h3, h5, h20, d1, w1, w2, s1, a1, b3, b4, g1, iaddrA, b0, b0', Nat_mul_one, hlk, p1, w]
    exact l139 h hh C ty lo Q n (i + 1) _ _ (by omega) (look_put_self hlk) hlo (Nat.le_min.2 ⟨hl2, hlo⟩) h3 h5 rfl hQ
theorem hexB_range : ∀ (k n : Nat), hexB n k = (List.range k).map fun j => hexD (n / 16 ^ (k - 1 - j))
  | 0, n => rfl
  | k + 1, n => by
    rw [show hexB n (k + 1) = hexB (n / 16) k ++ [hexD n] from rfl, hexB_range k (n / 16), List.range_succ, List.map_append]
    congr 1
    · refine List.map_congr_left fun j hj => ?_
      have hj := List.mem_range.1 hj
      rw [Nat.div_div_eq_div_mul, ← Nat.pow_succ', show k + 1 - 1 - j = k - 1 - j + 1 by omega]
    · simp
theorem nib_bytes (h : Nat) : bytesOf ((List.range 16).map (nibC h)) = some (hexB h 16) := by
  rw [hexB_range]
  generalize List.range 16 = l
  induction l with
  | nil => rfl
  | cons j l ih =>
    rw [List.map_cons, show bytesOf (nibC h j :: List.map (nibC h) l) = (bytesOf (List.map (nibC h) l)).map (UInt8.ofNat (((hexD (h / 16 ^ (15 - j))).toNat : Nat) : Int).toNat :: ·) from rfl, ih]
    simp
theorem b2s_m {C off n : Nat} {c : Option Nat} {st : St} {ty : Option TypeId} {cs ds : List AV} {b : List UInt8} (hl : Fw.look C st.heap = some (.cells ty cs)) (hs : sub cs off n = some ds) (hb : bytesOf ds = some b) : b2sA st (.mslice C off n c) = some (.str b) := by
  simp only [b2sA, cellsOf, St.get, hl, Nat.mul_one, hs, Option.bind_some, hb, Option.map_some]
theorem sub_all {cs : List AV} {n : Nat} (h : cs.length = n) : sub cs 0 n = some cs := by
  unfold sub; rw [if_pos (by omega), List.drop_zero, List.take_of_length_le (by omega)]
theorem c39 (s : Bs8) (hs : s.length < 9223372036854775807) (st : St) (K : AV → St → Prop) : CallW cx 39 [.str s] st K = K (.str (digB s)) st := by
  refine CallW.eq (CallW.fn' (fn := ir39) rfl rfl (by kernel_rfl) ir39.eq_1 ?_) K
  simp (config := {contextual := true, implicitDefEqProofs := false, maxSteps := 4000000}) only [go_sem, ↓reduceIte, Bool.false_eq_true, Nat.reduceEqDiff, Nat.reduceAdd, Int.reduceLE, Int.reduceLT, Int.reduceEq, Int.reduceToNat, Int.toNat_natCast, Int.cast_ofNat_Int, Int.natCast_one, Nat.reduceMod, Nat.reduceDiv, UInt8.reduceToNat, Nat.reduceLT]
  refine l039 s hs _ _ s.length 0 14695981039346656037 _ (by omega) (by decide) rfl rfl rfl rfl ?_
  intro e' h3
  rw [List.drop_zero] at h3
  have hb := mixB_lt s 14695981039346656037 (by decide)
  simp (config := {contextual := true, implicitDefEqProofs := false, maxSteps := 4000000}) only [go_sem, ↓reduceIte, Bool.false_eq_true, Nat.reduceEqDiff, Nat.reduceAdd, Int.reduceLE, Int.reduceLT, Int.reduceEq, Int.reduceToNat, Int.toNat_natCast, Int.cast_ofNat_Int, Int.natCast_one, Nat.reduceMod, Nat.reduceDiv, UInt8.reduceToNat, Nat.reduceLT, h3]
  refine l139 _ hb st.next (some 90) st.next _ 16 0 _ _ (by omega) (by simp [Fw.look, nibL]) (Nat.le_refl _) (Nat.le_refl _) h3 rfl rfl ?_
  intro e2 st2 hlk hlo h5
  have e1 : sliceArr 1 16 (AV.ptr st.next 0) none none none = some (.mslice st.next 0 16 (some 16)) := rfl
  have e2 := b2s_m (off := 0) (n := 16) (c := some 16) hlk (by rw [sub_all (by simp)]) (nib_bytes _)
  have e3 : min st.low st2.low = min st.low st2.low := rfl
  simp (config := {contextual := true, implicitDefEqProofs := false, maxSteps := 4000000}) only [go_sem, ↓reduceIte, Bool.false_eq_true, Nat.reduceEqDiff, Nat.reduceAdd, Int.reduceLE, Int.reduceLT, Int.reduceEq, Int.reduceToNat, Int.toNat_natCast, Int.cast_ofNat_Int, Int.natCast_one, Nat.reduceMod, Nat.reduceDiv, UInt8.reduceToNat, Nat.reduceLT, h5, e1, e2]
  rw [LeaveW_flat rfl hlo]
  exact ⟨rfl, rfl⟩
end T43


/- The reference's digest and hexadecimal numerals; the program's. -/

namespace T43
open Go Fw Go.Proofs
set_option maxRecDepth 100000
set_option maxHeartbeats 8000000
set_option linter.unusedSimpArgs false
set_option linter.unusedVariables false
theorem l46 (h0 k : Nat) (hh : h0 < 9223372036854775807) (hk : k ≤ 100) (st : St) (Q : Sig → FE → St → Prop) : ∀ (n i : Nat) (e : FE), i + n = k → e 0 = .int .i64 ((h0 / 16 ^ i : Nat) : Int) → e 1 = .int .i64 (k : Int) → e 5 = .str (hexB h0 i) → e 6 = .int .i64 (i : Int) →
    (∀ e', e' 5 = .str (hexB h0 k) → Q (.exit 0) e' st) → WLoop cx ir46L0 e st Q
  | 0, i, e, hi, h0', h1, h5, h6, hQ => by
    refine WLoop.rnd (c := _) ir46L0.eq_1 ?_
    have d1 : decide ((i : Int) < (k : Int)) = false := decide_eq_false (by omega)
    simp (config := {contextual := true, implicitDefEqProofs := false, maxSteps := 4000000}) only [go_sem, ↓reduceIte, Bool.false_eq_true, Nat.reduceEqDiff, Nat.reduceAdd, Int.reduceLE, Int.reduceLT, Int.reduceEq, Int.reduceToNat, Int.toNat_natCast, Int.cast_ofNat_Int, Int.natCast_one, Nat.reduceMod, Nat.reduceDiv, UInt8.reduceToNat, Nat.reduceLT, h0', h1, h5, h6, d1]
    refine hQ _ (h5.trans ?_)
    rw [show i = k by omega]
  | n + 1, i, e, hi, h0', h1, h5, h6, hQ => by
    refine WLoop.rnd (c := _) ir46L0.eq_1 ?_
    have d1 : decide ((i : Int) < (k : Int)) = true := decide_eq_true (by omega)
    obtain ⟨u, hu⟩ : ∃ u, h0 / 16 ^ i = u := ⟨_, rfl⟩
    have hul : u < 9223372036854775807 := by rw [← hu]; exact Nat.lt_of_le_of_lt (Nat.div_le_self _ _) hh
    rw [hu] at h0'
    have r1 : evBin .rem (.int .i64 (u : Int)) (.int .i64 16) = some (.int .i64 ((u % 16 : Nat) : Int)) := by
      show some (AV.int .i64 ((u : Int).tmod 16)) = _
      rw [Int.tmod_eq_emod_of_nonneg (by omega)]; rfl
    have q1 : evBin .quo (.int .i64 (u : Int)) (.int .i64 16) = some (.int .i64 ((u / 16 : Nat) : Int)) := by
      show some (AV.int .i64 (IntKind.i64.wrap ((u : Int).tdiv 16))) = _
      rw [Int.tdiv_eq_ediv_of_nonneg (by omega), wrap_i64 (by omega) (by omega)]; rfl
    have hm : u % 16 < 16 := Nat.mod_lt _ (by decide)
    have w2 : IntKind.i64.wrap (((u % 16 : Nat) : Int) + 1) = ((u % 16 + 1 : Nat) : Int) := wrap_one (by omega)
    have w := wrap_one (i := i) (by omega)
    have hl := hexB_len i h0
    have g1 : cut [48, 49, 50, 51, 52, 53, 54, 55, 56, 57, 97, 98, 99, 100, 101, 102] ((u % 16 : Nat) : Int) ((u % 16 + 1 : Nat) : Int) = [hexD u] := by
      unfold hexD
      generalize u % 16 = m at hm
      have : ∀ m : Fin 16, cut [48, 49, 50, 51, 52, 53, 54, 55, 56, 57, 97, 98, 99, 100, 101, 102] ((m.val : Nat) : Int) ((m.val + 1 : Nat) : Int) = [if m.val < 10 then UInt8.ofNat (48 + m.val) else UInt8.ofNat (87 + m.val)] := by decide
      exact this ⟨m, hm⟩
    have b1 : (0 : Int) ≤ ((u % 16 : Nat) : Int) := by omega
    have b2 : ((u % 16 : Nat) : Int) ≤ ((u % 16 + 1 : Nat) : Int) := by omega
    have b3 : ((u % 16 + 1 : Nat) : Int) ≤ 16 := by omega
    have b4 : (0 : Int) ≤ ((u % 16 + 1 : Nat) : Int) := by omega
    have c1 : evBin .add (.str [hexD u]) (.str (hexB h0 i)) = some (.str (hexB h0 (i + 1))) := by
      rw [hexB_cons, hu]
      show (if [hexD u].length + (hexB h0 i).length ≤ 9223372036854775807 then some (AV.str ([hexD u] ++ hexB h0 i)) else none) = _
      rw [if_pos (by rw [hl]; simp; omega)]; rfl
    simp (config := {contextual := true, implicitDefEqProofs := false, maxSteps := 4000000}) only [go_sem, ↓reduceIte, Bool.false_eq_true, Nat.reduceEqDiff, Nat.reduceAdd, Int.reduceLE, Int.reduceLT, Int.reduceEq, Int.reduceToNat, Int.toNat_natCast, Int.cast_ofNat_Int, Int.natCast_one, Nat.reduceMod, Nat.reduceDiv, UInt8.reduceToNat, Nat.reduceLT, h0', h1, h5, h6, d1, r1, q1, w2, b1, b2, b3, b4, g1, c1, w]
    refine ⟨⟨by omega, by omega, by omega⟩, ?_⟩
    refine l46 h0 k hh hk st Q n (i + 1) _ (by omega) ?_ h1 rfl rfl hQ
    rw [Nat.pow_succ, ← Nat.div_div_eq_div_mul, hu]; rfl
theorem c46 (n k : Nat) (hn : n < 9223372036854775807) (hk : k ≤ 100) (st : St) (K : AV → St → Prop) : CallW cx 46 [.int .i64 (n : Int), .int .i64 (k : Int)] st K = K (.str (hexB n k)) st := by
  refine CallW.eq (CallW.fn' (fn := ir46) rfl rfl (by kernel_rfl) ir46.eq_1 ?_) K
  simp (config := {contextual := true, implicitDefEqProofs := false, maxSteps := 4000000}) only [go_sem, ↓reduceIte, Bool.false_eq_true, Nat.reduceEqDiff, Nat.reduceAdd, Int.reduceLE, Int.reduceLT, Int.reduceEq, Int.reduceToNat, Int.toNat_natCast, Int.cast_ofNat_Int, Int.natCast_one, Nat.reduceMod, Nat.reduceDiv, UInt8.reduceToNat, Nat.reduceLT]
  refine l46 n k hn hk _ _ k 0 _ (by omega) (by rw [Nat.pow_zero, Nat.div_one]; rfl) rfl rfl rfl ?_
  intro e' h5
  simp (config := {contextual := true, implicitDefEqProofs := false, maxSteps := 4000000}) only [go_sem, ↓reduceIte, Bool.false_eq_true, Nat.reduceEqDiff, Nat.reduceAdd, Int.reduceLE, Int.reduceLT, Int.reduceEq, Int.reduceToNat, Int.toNat_natCast, Int.cast_ofNat_Int, Int.natCast_one, Nat.reduceMod, Nat.reduceDiv, UInt8.reduceToNat, Nat.reduceLT, h5]
theorem hexD_0 : hexD 0 = 48 := rfl
theorem hexB_pad : ∀ (m k n : Nat), n < 16 ^ k → hexB n (m + k) = List.replicate m 48 ++ hexB n k
  | 0, k, n, _ => by simp
  | m + 1, k, n, h => by
    rw [show m + 1 + k = (m + k) + 1 by omega, hexB_cons, hexB_pad m k n h, Nat.div_eq_of_lt (Nat.lt_of_lt_of_le h (Nat.pow_le_pow_right (by decide) (by omega))), hexD_0]; rfl
theorem c106 (st : St) (K : AV → St → Prop) : CallW cx 106 [.int .u64 16] st K = K (.int .i64 4) st := by
  refine CallW.eq (CallW.fn' (fn := ir106) rfl rfl (by kernel_rfl) ir106.eq_1 ?_) K
  have a1 : evBin .and (.int .u64 16) (.int .u64 18446744073709551600) = some (.int .u64 16) := by kernel_rfl
  have n1 : evUn .neg (.int .u64 16) = some (.int .u64 18446744073709551600) := by kernel_rfl
  have m1 : evBin .mul (.int .u64 16) (.int .u64 285870213051353865) = some (.int .u64 4573923408821661840) := by kernel_rfl
  have s1 : evBin .shr (.int .u64 4573923408821661840) (.int .u64 58) = some (.int .u64 15) := by kernel_rfl
  have d1 : decide ((16 : Int) = 0) = false := rfl
  have w0 : IntKind.u64.wrap (0 - 16) = 18446744073709551600 := by kernel_rfl
  have w1 : IntKind.u64.wrap (16 * 285870213051353865) = 4573923408821661840 := by kernel_rfl
  have g7 : cx.gl 7 = some (bruijn.map (AV.int .u8)) := rfl
  have i1 : iaddrA 1 (some 64) (.vptr (bruijn.map (AV.int .u8)) 0) 15 = some (.vptr (bruijn.map (AV.int .u8)) 15) := rfl
  have l1 : ∀ st : St, loadA st false 1 (.vptr (bruijn.map (AV.int .u8)) 15) = some (.int .u8 4) := fun _ => rfl
  simp (config := {contextual := true, implicitDefEqProofs := false, maxSteps := 4000000}) only [go_sem, ↓reduceIte, Bool.false_eq_true, Nat.reduceEqDiff, Nat.reduceAdd, Int.reduceLE, Int.reduceLT, Int.reduceEq, Int.reduceToNat, Int.toNat_natCast, Int.cast_ofNat_Int, Int.natCast_one, Nat.reduceMod, Nat.reduceDiv, UInt8.reduceToNat, Nat.reduceLT, d1, n1, a1, m1, s1, w0, w1, g7, Option.map_some, i1, l1]
  rfl
theorem c100 (st : St) (K : AV → St → Prop) : CallW cx 100 [.int .u64 16] st K = K (.int .i64 4) st := by
  refine CallW.eq (CallW.fn' (fn := ir100) rfl rfl (by kernel_rfl) ir100.eq_1 ?_) K
  simp (config := {contextual := true, implicitDefEqProofs := false, maxSteps := 4000000}) only [go_sem, ↓reduceIte, Bool.false_eq_true, Nat.reduceEqDiff, Nat.reduceAdd, Int.reduceLE, Int.reduceLT, Int.reduceEq, Int.reduceToNat, Int.toNat_natCast, Int.cast_ofNat_Int, Int.natCast_one, Nat.reduceMod, Nat.reduceDiv, UInt8.reduceToNat, Nat.reduceLT, c106]
theorem c99 (st : St) (K : AV → St → Prop) : CallW cx 99 [.int .i64 16] st K = K (.bool true) st := by
  refine CallW.eq (CallW.fn' (fn := ir99) rfl rfl (by kernel_rfl) ir99.eq_1 ?_) K
  have w0 : IntKind.i64.wrap (16 - 1) = 15 := by kernel_rfl
  have a1 : evBin .and (.int .i64 16) (.int .i64 15) = some (.int .i64 0) := by kernel_rfl
  simp (config := {contextual := true, implicitDefEqProofs := false, maxSteps := 4000000}) only [go_sem, ↓reduceIte, Bool.false_eq_true, Nat.reduceEqDiff, Nat.reduceAdd, Int.reduceLE, Int.reduceLT, Int.reduceEq, Int.reduceToNat, Int.toNat_natCast, Int.cast_ofNat_Int, Int.natCast_one, Nat.reduceMod, Nat.reduceDiv, UInt8.reduceToNat, Nat.reduceLT, w0, a1]
end T43


/- Hexadecimal numerals of the library. -/
namespace T43
open Go Fw Go.Proofs
set_option maxRecDepth 100000
set_option maxHeartbeats 8000000
set_option linter.unusedSimpArgs false
set_option linter.unusedVariables false
def bytC (b : UInt8) : AV := .int .u8 ((b.toNat : Nat) : Int)
theorem hexT36 (u : Nat) : ([48, 49, 50, 51, 52, 53, 54, 55, 56, 57, 97, 98, 99, 100, 101, 102, 103, 104, 105, 106, 107, 108, 109, 110, 111, 112, 113, 114, 115, 116, 117, 118, 119, 120, 121, 122] : List UInt8).getD (u % 16) 0 = hexD u := by
  rw [← hexT_at u]
  have h : u % 16 < 16 := Nat.mod_lt _ (by decide)
  generalize u % 16 = m at *
  have : ∀ m : Fin 16, ([48, 49, 50, 51, 52, 53, 54, 55, 56, 57, 97, 98, 99, 100, 101, 102, 103, 104, 105, 106, 107, 108, 109, 110, 111, 112, 113, 114, 115, 116, 117, 118, 119, 120, 121, 122] : List UInt8).getD m.val 0 = ([48, 49, 50, 51, 52, 53, 54, 55, 56, 57, 97, 98, 99, 100, 101, 102] : List UInt8).getD m.val 0 := by decide
  exact this ⟨m, h⟩
theorem patch_one {cs : List AV} {i : Nat} {v : AV} (h : i < cs.length) : patch cs i [v] = some (cs.set i v) := by
  unfold patch
  rw [if_pos (by simp; omega), List.set_eq_take_append_cons_drop, if_pos h]
  simp
/-- The last cells of a row are the digits of n. -/
structure HB (n r : Nat) (cs : List AV) : Prop where
  len : cs.length = 65
  tail : cs.drop (65 - r) = (hexB n r).map bytC
theorem HB.step {n r : Nat} {cs : List AV} (h : HB n r cs) (hr : r < 65) : HB n (r + 1) (cs.set (64 - r) (bytC (hexD (n / 16 ^ r)))) := by
  refine ⟨by simp [h.len], ?_⟩
  have hl := h.len
  rw [hexB_cons, List.map_cons, ← h.tail, show 65 - (r + 1) = 64 - r by omega, List.drop_set, if_neg (by omega), Nat.sub_self, List.drop_eq_getElem_cons (by omega), List.set_cons_zero, show 64 - r + 1 = 65 - r by omega]
theorem HB.bytes {n r : Nat} {cs : List AV} (h : HB n r cs) (hr : r ≤ 65) : sub cs (65 - r) r = some ((hexB n r).map bytC) ∧ bytesOf ((hexB n r).map bytC) = some (hexB n r) := by
  refine ⟨?_, ?_⟩
  · unfold sub
    rw [if_pos (by rw [h.len]; omega), h.tail, List.take_of_length_le (by simp [hexB_len])]
  · generalize hexB n r = l
    induction l with
    | nil => rfl
    | cons b l ih =>
      rw [List.map_cons, show bytesOf (bytC b :: List.map bytC l) = (bytesOf (List.map bytC l)).map (UInt8.ofNat ((b.toNat : Nat) : Int).toNat :: ·) from rfl, ih]
      simp
/-- Where the loop ends: so many digits are left for the last step. -/
def hexN (n r : Nat) : Prop := n < 16 ^ (r + 1) ∧ (r = 0 ∨ 16 ^ r ≤ n)
theorem l086 (n : Nat) (hn : n < 18446744073709551616) (C lo : Nat) (ty : Option TypeId) (Q : Sig → FE → St → Prop) : ∀ (m r : Nat) (e : FE) (st : St) (cs : List AV), r + m = 16 → (r = 0 ∨ 16 ^ r ≤ n ∨ 1 = 1) → (r = 0 ∨ 16 ^ r ≤ n) → HB n r cs → Fw.look C st.heap = some (.cells ty cs) → lo ≤ C → lo ≤ st.low → e 1 = .int .u64 ((n / 16 ^ r : Nat) : Int) → e 12 = .ptr C 0 → e 13 = .int .i64 ((65 - r : Nat) : Int) → e 14 = .int .u64 4 → e 15 = .int .u64 16 → e 16 = .int .u64 15 → e 3 = .bool false → e 4 = .bool false → e 10 = .nilslice →
    (∀ e' st' r cs', r ≤ 15 → hexN n r → HB n r cs' → Fw.look C st'.heap = some (.cells ty cs') → lo ≤ st'.low → e' 1 = .int .u64 ((n / 16 ^ r : Nat) : Int) → e' 12 = .ptr C 0 → e' 13 = .int .i64 ((65 - r : Nat) : Int) → e' 3 = .bool false → e' 4 = .bool false → e' 10 = .nilslice → Q (.exit 0) e' st') → WLoop cx ir86L0 e st Q
  | 0, r, e, st, cs, hr, _, hk, hB, hlk, hlo, hl2, h1, h12, h13, h14, h15, h16, h3, h4, h10, hQ => by
    exfalso
    rcases hk with h | h
    · omega
    · rw [show r = 16 by omega] at h
      have : (16 : Nat) ^ 16 = 18446744073709551616 := by decide
      omega
  | m + 1, r, e, st, cs, hr, _, hk, hB, hlk, hlo, hl2, h1, h12, h13, h14, h15, h16, h3, h4, h10, hQ => by
    refine WLoop.rnd (c := _) ir86L0.eq_1 ?_
    obtain ⟨u, hu⟩ : ∃ u, n / 16 ^ r = u := ⟨_, rfl⟩
    have hul : u < 18446744073709551616 := by rw [← hu]; exact Nat.lt_of_le_of_lt (Nat.div_le_self _ _) hn
    by_cases h16u : 16 ≤ u
    · have d1 : decide ((16 : Int) ≤ (u : Int)) = true := decide_eq_true (by omega)
      rw [hu] at h1
      have a1 := and15 u hul
      have b3 : (0 : Int) ≤ ((u % 16 : Nat) : Int) := by omega
      have b4 : ((u % 16 : Nat) : Int) < 36 := by omega
      have g1 := hexT36 u
      have w1 : IntKind.i64.wrap (((65 - r : Nat) : Int) - 1) = ((64 - r : Nat) : Int) := by rw [wrap_i64 (by omega) (by omega)]; omega
      have i1 : (0 : Int) ≤ ((64 - r : Nat) : Int) := by omega
      have i2 : ((64 - r : Nat) : Int) < 65 := by omega
      have i3 : (0 : Int) ≤ ((64 - r : Nat) : Int) ∧ ((64 - r : Nat) : Int) < ((65 : Nat) : Int) := by omega
      have s1 : evBin .shr (.int .u64 (u : Int)) (.int .u64 4) = some (.int .u64 ((u / 16 : Nat) : Int)) := by
        rw [bin_shr, if_neg (by omega)]
        congr 2
        have e4 : min (4 : Int).toNat IntKind.u64.bits = 4 := rfl
        rw [e4, Int.fdiv_eq_ediv_of_nonneg _ (Int.pow_nonneg (by decide))]
        norm_cast
      have p1 := patch_one (cs := cs) (i := 64 - r) (v := .int .u8 (((hexD u).toNat : Nat) : Int)) (by rw [hB.len]; omega)
      have hB2 := hB.step (by omega)
      rw [hu] at hB2
      simp (config := {contextual := true, implicitDefEqProofs := false, maxSteps := 4000000}) only [go_sem, ↓reduceIte, Bool.false_eq_true, Nat.reduceEqDiff, Nat.reduceAdd, Int.reduceLE, Int.reduceLT, Int.reduceEq, Int.reduceToNat, Int.toNat_natCast, Int.cast_ofNat_Int, Int.natCast_one, Nat.reduceMod, Nat.reduceDiv, UInt8.reduceToNat, Nat.reduceLT, h1, h12, h13, h14, h15, h16, h3, h4, d1, a1, b3, b4, g1, w1, iaddrA, i1, i2, i3, Nat_mul_one, hlk, p1, s1]
      refine l086 n hn C lo ty Q m (r + 1) _ _ _ (by omega) (.inr (.inr rfl)) (.inr ?_) hB2 (look_put_self hlk) hlo (Nat.le_min.2 ⟨hl2, hlo⟩) ?_ h12 ?_ h14 h15 h16 h3 h4 h10 hQ
      · have := Nat.div_mul_le_self n (16 ^ r)
        rw [hu] at this
        rw [Nat.pow_succ, Nat.mul_comm]
        exact Nat.le_trans (Nat.mul_le_mul_right _ h16u) this
      · rw [Nat.pow_succ, ← Nat.div_div_eq_div_mul, hu]; rfl
      · rw [show 65 - (r + 1) = 64 - r by omega]; rfl
    · have d1 : decide ((16 : Int) ≤ (u : Int)) = false := decide_eq_false (by omega)
      have h1' := h1
      rw [hu] at h1'
      simp (config := {contextual := true, implicitDefEqProofs := false, maxSteps := 4000000}) only [go_sem, ↓reduceIte, Bool.false_eq_true, Nat.reduceEqDiff, Nat.reduceAdd, Int.reduceLE, Int.reduceLT, Int.reduceEq, Int.reduceToNat, Int.toNat_natCast, Int.cast_ofNat_Int, Int.natCast_one, Nat.reduceMod, Nat.reduceDiv, UInt8.reduceToNat, Nat.reduceLT, h1', h12, h13, h14, h15, h16, h3, h4, d1]
      refine hQ _ _ r cs (by omega) ⟨?_, hk⟩ hB hlk hl2 h1 h12 h13 h3 h4 h10
      rw [Nat.pow_succ]
      have := Nat.div_lt_iff_lt_mul (x := n) (y := 16) (k := 16 ^ r) (Nat.pow_pos (by decide))
      rw [hu] at this
      rw [Nat.mul_comm]
      exact this.1 (by omega)
theorem fb_walk (n : Nat) (hn : n < 18446744073709551616) (st : St) : CallW cx 86 [.nilslice, .int .u64 (n : Int), .int .i64 16, .bool false, .bool false] st (fun v s' => s' = st ∧ ∃ r, r ≤ 15 ∧ hexN n r ∧ v = .tuple [.nilslice, .str (hexB n (r + 1))]) := by
  refine CallW.fn' (fn := ir86) rfl rfl (by kernel_rfl) ir86.eq_1 ?_
  have w3 : IntKind.u64.wrap (16 - 1) = 15 := by kernel_rfl
  have w4 : IntKind.u64.wrap 4 = 4 := by kernel_rfl
  have w5 : IntKind.u64.wrap 16 = 16 := by kernel_rfl
  simp (config := {contextual := true, implicitDefEqProofs := false, maxSteps := 4000000}) only [go_sem, ↓reduceIte, Bool.false_eq_true, Nat.reduceEqDiff, Nat.reduceAdd, Int.reduceLE, Int.reduceLT, Int.reduceEq, Int.reduceToNat, Int.toNat_natCast, Int.cast_ofNat_Int, Int.natCast_one, Nat.reduceMod, Nat.reduceDiv, UInt8.reduceToNat, Nat.reduceLT, c99, c100, w3, w4, w5]
  refine l086 n hn st.next st.next (some 139) _ 16 0 _ _ _ (by omega) (.inl rfl) (.inl rfl) ⟨?_, ?_⟩ (by simp only [Fw.look, if_true]; rfl) (Nat.le_refl _) (Nat.le_refl _) (by rw [Nat.pow_zero, Nat.div_one]; rfl) rfl rfl rfl rfl rfl rfl rfl rfl ?_
  · rfl
  · rfl
  intro e' st' r cs hr hN hB hlk hlo h1 h12 h13 h3 h4 h10
  obtain ⟨u, hu⟩ : ∃ u, n / 16 ^ r = u := ⟨_, rfl⟩
  rw [hu] at h1
  have hu16 : u < 16 := by
    rw [← hu]
    have := hN.1
    rw [Nat.pow_succ, Nat.mul_comm] at this
    exact (Nat.div_lt_iff_lt_mul (Nat.pow_pos (by decide))).2 this
  have w1 : IntKind.i64.wrap (((65 - r : Nat) : Int) - 1) = ((64 - r : Nat) : Int) := by rw [wrap_i64 (by omega) (by omega)]; omega
  have i1 : (0 : Int) ≤ ((64 - r : Nat) : Int) := by omega
  have i2 : ((64 - r : Nat) : Int) < 65 := by omega
  have b3 : (0 : Int) ≤ (u : Int) := by omega
  have b4 : (u : Int) < 36 := by omega
  have g1 := hexT36 u
  rw [Nat.mod_eq_of_lt hu16] at g1
  have p1 := patch_one (cs := cs) (i := 64 - r) (v := .int .u8 (((hexD u).toNat : Nat) : Int)) (by rw [hB.len]; omega)
  have hB2 := hB.step (by omega)
  rw [hu] at hB2
  obtain ⟨k1, k2⟩ := hB2.bytes (by omega)
  rw [show 65 - (r + 1) = 64 - r by omega] at k1
  have hlk2 := look_put_self (b := .cells (some 139) (cs.set (64 - r) (bytC (hexD u)))) hlk
  have k3 := fun (c : Option Nat) (nx lo : Nat) => b2s_m (C := st.next) (off := 64 - r) (n := r + 1) (c := c) (st := { heap := Fw.put st.next (.cells (some 139) (cs.set (64 - r) (bytC (hexD u)))) st'.heap, next := nx, low := lo }) hlk2 k1 k2
  have e1 : sliceArr 1 65 (.ptr st.next 0) (some (.int .i64 ((64 - r : Nat) : Int))) none none = some (.mslice st.next (64 - r) (r + 1) (some (65 - (64 - r)))) := by
    simp only [sliceArr, bounds]
    rw [if_pos (by omega)]
    simp only [Option.map_some, Int.toNat_natCast, Nat.zero_add, Nat.mul_one]
    rw [if_neg (by omega), show 65 - (64 - r) = r + 1 by omega]
  have e2 : bytC (hexD u) = .int .u8 (((hexD u).toNat : Nat) : Int) := rfl
  rw [e2] at k3
  have hlo2 : st.next ≤ min st'.low st.next := Nat.le_min.2 ⟨hlo, Nat.le_refl _⟩
  simp (config := {contextual := true, implicitDefEqProofs := false, maxSteps := 4000000}) only [go_sem, ↓reduceIte, Bool.false_eq_true, Nat.reduceEqDiff, Nat.reduceAdd, Int.reduceLE, Int.reduceLT, Int.reduceEq, Int.reduceToNat, Int.toNat_natCast, Int.cast_ofNat_Int, Int.natCast_one, Nat.reduceMod, Nat.reduceDiv, UInt8.reduceToNat, Nat.reduceLT, h1, h12, h13, h3, h4, h10, w1, iaddrA, i1, i2, b3, b4, g1, Nat_mul_one, hlk, p1, e1, k3]
  rw [LeaveW_tuple rfl hlo2]
  exact ⟨rfl, r, hr, hN, rfl⟩
theorem fi_walk (n : Nat) (hn : n < 9223372036854775807) (st : St) : ∃ r, r ≤ 15 ∧ hexN n r ∧ ∀ K, CallW cx 54 [.int .i64 (n : Int), .int .i64 16] st K = K (.str (hexB n (r + 1))) st := by
  have h1 : CallW cx 54 [.int .i64 (n : Int), .int .i64 16] st (fun v s' => s' = st ∧ ∃ r, r ≤ 15 ∧ hexN n r ∧ v = .str (hexB n (r + 1))) := by
    refine CallW.fn' (fn := ir54) rfl rfl (by kernel_rfl) ir54.eq_1 ?_
    obtain ⟨k, v, s', a1, rfl, r, a2, a3, rfl⟩ := fb_walk n (by omega) { heap := st.heap, next := st.next, low := st.next }
    have kf := fun K => CallW.eq ⟨k, _, _, a1, rfl, rfl⟩ K
    have ki : ∀ K, CallW cx 64 [.int .i64 (n : Int), .int .i64 16] { heap := st.heap, next := st.next, low := st.next } K = K (.str (hexB n (r + 1))) { heap := st.heap, next := st.next, low := st.next } := by
      intro K
      refine CallW.eq (CallW.fn' (fn := ir64) rfl rfl (by kernel_rfl) ir64.eq_1 ?_) K
      have d1 : decide ((n : Int) < 0) = false := decide_eq_false (by omega)
      have w1 : IntKind.u64.wrap (n : Int) = (n : Int) := by rw [wrap_u64]; omega
      simp (config := {contextual := true, implicitDefEqProofs := false, maxSteps := 4000000}) only [go_sem, ↓reduceIte, Bool.false_eq_true, Nat.reduceEqDiff, Nat.reduceAdd, Int.reduceLE, Int.reduceLT, Int.reduceEq, Int.reduceToNat, Int.toNat_natCast, Int.cast_ofNat_Int, Int.natCast_one, Nat.reduceMod, Nat.reduceDiv, UInt8.reduceToNat, Nat.reduceLT, d1, w1, kf]
    simp (config := {contextual := true, implicitDefEqProofs := false, maxSteps := 4000000}) only [go_sem, ↓reduceIte, Bool.false_eq_true, Nat.reduceEqDiff, Nat.reduceAdd, Int.reduceLE, Int.reduceLT, Int.reduceEq, Int.reduceToNat, Int.toNat_natCast, Int.cast_ofNat_Int, Int.natCast_one, Nat.reduceMod, Nat.reduceDiv, UInt8.reduceToNat, Nat.reduceLT, ki]
    exact ⟨r, a2, a3, rfl⟩
  obtain ⟨k, v, s', a1, rfl, r, a2, a3, rfl⟩ := h1
  exact ⟨r, a2, a3, fun K => CallW.eq ⟨k, _, _, a1, rfl, rfl⟩ K⟩
theorem rep0 (m : Nat) (hm : m ≤ 100) (st : St) (K : AV → St → Prop) : CallW cx 44 [.str [48], .int .i64 (m : Int)] st K = K (.str (List.replicate m 48)) st := by
  refine CallW.eq (CallW.ext (g := xRepeat) rfl ?_) K
  have e : ∀ m, Lib.repeatL [48] m = List.replicate m 48 := by
    intro m
    induction m with
    | zero => rfl
    | succ m ih => rw [Lib.repeatL, ih]; rfl
  simp only [xRepeat]
  rw [if_pos (by refine ⟨by omega, by omega, ?_⟩; simp; omega)]
  simp only [Int.toNat_natCast, e, oget_some, and_self]
theorem c43 (n k : Nat) (hz : 1 ≤ k) (hk : k ≤ 15) (hn : n < 16 ^ k) (st : St) (K : AV → St → Prop) : CallW cx 43 [.int .i64 (n : Int), .int .i64 (k : Int)] st K = K (.str (hexB n k)) st := by
  have hn2 : n < 9223372036854775807 := by
    have : (16 : Nat) ^ k ≤ 16 ^ 15 := Nat.pow_le_pow_right (by decide) hk
    have : (16 : Nat) ^ 15 = 1152921504606846976 := by decide
    omega
  refine CallW.eq (CallW.fn' (fn := ir43) rfl rfl (by kernel_rfl) ir43.eq_1 ?_) K
  obtain ⟨r, hr, hN, kf⟩ := fi_walk n hn2 { heap := st.heap, next := st.next, low := st.next }
  have hrk : r + 1 ≤ k := by
    rcases hN.2 with h | h
    · omega
    · have := Nat.lt_of_le_of_lt h hn
      have := (Nat.pow_lt_pow_iff_right (by decide : 1 < 16)).1 this
      omega
  have w1 : IntKind.i64.wrap ((k : Int) - ((r + 1 : Nat) : Int)) = ((k - (r + 1) : Nat) : Int) := by rw [wrap_i64 (by omega) (by omega)]; omega
  have kr := fun st K => rep0 (k - (r + 1)) (by omega) st K
  have hl := hexB_len (r + 1) n
  have c1 : evBin .add (.str (List.replicate (k - (r + 1)) 48)) (.str (hexB n (r + 1))) = some (.str (hexB n k)) := by
    rw [show hexB n k = hexB n (k - (r + 1) + (r + 1)) by rw [show k - (r + 1) + (r + 1) = k by omega], hexB_pad _ _ _ hN.1]
    show (if (List.replicate (k - (r + 1)) (48 : UInt8)).length + (hexB n (r + 1)).length ≤ 9223372036854775807 then some (AV.str (List.replicate (k - (r + 1)) 48 ++ hexB n (r + 1))) else none) = _
    rw [if_pos (by rw [hl, List.length_replicate]; omega)]
  simp (config := {contextual := true, implicitDefEqProofs := false, maxSteps := 4000000}) only [go_sem, ↓reduceIte, Bool.false_eq_true, Nat.reduceEqDiff, Nat.reduceAdd, Int.reduceLE, Int.reduceLT, Int.reduceEq, Int.reduceToNat, Int.toNat_natCast, Int.cast_ofNat_Int, Int.natCast_one, Nat.reduceMod, Nat.reduceDiv, UInt8.reduceToNat, Nat.reduceLT, kf, hl, w1, kr, c1]
end T43


/- Frames: the program's and the reference's. -/
namespace T43
open Go Fw Go.Proofs
set_option maxRecDepth 100000
set_option maxHeartbeats 8000000
set_option linter.unusedSimpArgs false
set_option linter.unusedVariables false
def encS (l : List Bs8) : List AV := l.map AV.str
theorem encS_len (l : List Bs8) : (encS l).length = l.length := by simp [encS]
theorem encS_al (l : List Bs8) : alAll (fun _ => false) (encS l) = true := (alAll_iff _).2 fun a ha => by
  obtain ⟨x, _, rfl⟩ := List.mem_map.1 ha; rfl
theorem encS_one (l : List Bs8) : (encS l).all AV.one = true := List.all_eq_true.2 fun a ha => by
  obtain ⟨x, _, rfl⟩ := List.mem_map.1 ha; rfl
theorem encS_sc (l : List Bs8) : (encS l).all AV.sc = true := List.all_eq_true.2 fun a ha => by
  obtain ⟨x, _, rfl⟩ := List.mem_map.1 ha; rfl
theorem encS_byte (l : List Bs8) : (encS l).any AV.byte = false := by
  rw [List.any_eq_false]; intro a ha
  obtain ⟨x, _, rfl⟩ := List.mem_map.1 ha; simp [AV.byte]
theorem c45 (n : Nat) (hn : n ≤ 1000000) (st : St) (K : AV → St → Prop) : CallW cx 45 [.int .i64 (n : Int)] st K = K (.int .i64 (szB n : Int)) st := by
  refine CallW.eq (CallW.fn' (fn := ir45) rfl rfl (by kernel_rfl) ir45.eq_1 ?_) K
  have w1 : IntKind.i64.wrap ((n : Int) + 28) = ((n + 28 : Nat) : Int) := by rw [wrap_i64 (by omega) (by omega)]; omega
  have w2 : IntKind.i64.wrap (((n + 28 : Nat) : Int) + 32) = ((n + 60 : Nat) : Int) := by rw [wrap_i64 (by omega) (by omega)]; omega
  have w3 : IntKind.i64.wrap (((n + 60 : Nat) : Int) - 1) = ((n + 59 : Nat) : Int) := by rw [wrap_i64 (by omega) (by omega)]; omega
  have q1 : evBin .quo (.int .i64 ((n + 59 : Nat) : Int)) (.int .i64 32) = some (.int .i64 ((szB n : Nat) : Int)) := by
    show some (AV.int .i64 (IntKind.i64.wrap (((n + 59 : Nat) : Int).tdiv 32))) = _
    rw [Int.tdiv_eq_ediv_of_nonneg (by omega), wrap_i64 (by omega) (by omega)]; rfl
  simp (config := {contextual := true, implicitDefEqProofs := false, maxSteps := 4000000}) only [go_sem, ↓reduceIte, Bool.false_eq_true, Nat.reduceEqDiff, Nat.reduceAdd, Int.reduceLE, Int.reduceLT, Int.reduceEq, Int.reduceToNat, Int.toNat_natCast, Int.cast_ofNat_Int, Int.natCast_one, Nat.reduceMod, Nat.reduceDiv, UInt8.reduceToNat, Nat.reduceLT, w1, w2, w3, q1]
def chunkAt (i : Nat) (all : Bs8) : Bs8 := (all.drop (32 * i)).take 32
theorem chunks_snoc : ∀ (i : Nat) (all : Bs8), chunks (i + 1) all = chunks i all ++ [chunkAt i all]
  | 0, all => by simp [chunks, chunkAt]
  | i + 1, all => by
    rw [show chunks (i + 1 + 1) all = all.take 32 :: chunks (i + 1) (all.drop 32) from rfl, chunks_snoc i (all.drop 32)]
    simp only [chunks, chunkAt, List.drop_drop, List.cons_append, show 32 + 32 * i = 32 * (i + 1) by omega]
theorem app_tok (ty N i : Nat) (h : List (Nat × AObj)) (nx lo : Nat) (cs : List AV) (x : Bs8) (hl : cs.length = i) (hi : i ≤ 1000000) :
    appendA { heap := (N, .tok ty i 1) :: h, next := nx, low := lo } ty 1 16 (.slice cs i (.tok N i)) (.slice [.str x] 1 .full) = some (.slice (cs ++ [.str x]) (i + 1) (.tok N (i + 1)), { heap := (N, .tok ty (i + 1) 1) :: h, next := nx, low := min lo N }) := by
  simp only [appendA, cellsOf, AV.count, List.length_singleton, Nat.mul_one, Nat.reduceMul, if_true, List.all_cons, AV.one, List.all_nil, Bool.and_self, Bool.true_eq_false, if_false, hl, Nat.one_ne_zero, List.map_cons, List.map_nil, AV.strip, St.get, Fw.look, and_self, St.set, Fw.put]
  rw [if_pos (by unfold room; omega)]
theorem app_nil (ty : Nat) (st : St) (x : Bs8) : appendA st ty 1 16 .nilslice (.slice [.str x] 1 .full) = some (.slice [.str x] 1 (.tok st.next 1), { heap := (st.next, .tok ty 1 1) :: st.heap, next := st.next + 1, low := st.low }) := by
  simp only [appendA, cellsOf, AV.count, List.length_singleton, Nat.mul_one, Nat.reduceMul, if_true, List.all_cons, AV.one, List.all_nil, Bool.and_self, Bool.true_eq_false, if_false, Nat.one_ne_zero, List.map_cons, List.map_nil, AV.strip, St.new]
  rw [if_pos (by unfold room; omega)]
theorem chunks_one (k : Nat) (all : Bs8) (h : 1 ≤ k) : encS (chunks 1 all) = [AV.str (chunkAt 0 all)] := by simp [chunks, encS, chunkAt]
section
variable (all : Bs8) (k : Nat) (hlen : all.length = 32 * k) (hk : k ≤ 1000) (N : Nat) (h : List (Nat × AObj)) (Q : Sig → FE → St → Prop)
include hlen hk
theorem l024 : ∀ (n i : Nat) (e : FE), i + n = k → 1 ≤ i → e 7 = .str all → e 8 = .slice (encS (chunks i all)) i (.tok N i) → e 9 = .int .i64 ((32 * i : Nat) : Int) →
    (∀ e', e' 8 = .slice (encS (chunks k all)) k (.tok N k) → Q (.exit 0) e' { heap := (N, .tok 9 k 1) :: h, next := N + 1, low := N }) → WLoop cx ir24L0 e { heap := (N, .tok 9 i 1) :: h, next := N + 1, low := N } Q
  | 0, i, e, hi, h1, h7, h8, h9, hQ => by
    refine WLoop.rnd (c := _) ir24L0.eq_1 ?_
    have d1 : decide (((32 * i : Nat) : Int) < (all.length : Int)) = false := decide_eq_false (by omega)
    simp (config := {contextual := true, implicitDefEqProofs := false, maxSteps := 4000000}) only [go_sem, ↓reduceIte, Bool.false_eq_true, Nat.reduceEqDiff, Nat.reduceAdd, Int.reduceLE, Int.reduceLT, Int.reduceEq, Int.reduceToNat, Int.toNat_natCast, Int.cast_ofNat_Int, Int.natCast_one, Nat.reduceMod, Nat.reduceDiv, UInt8.reduceToNat, Nat.reduceLT, h7, h8, h9, d1]
    obtain rfl : i = k := by omega
    exact hQ _ h8
  | n + 1, i, e, hi, h1, h7, h8, h9, hQ => by
    refine WLoop.rnd (c := _) ir24L0.eq_1 ?_
    have d1 : decide (((32 * i : Nat) : Int) < (all.length : Int)) = true := decide_eq_true (by omega)
    have w1 : IntKind.i64.wrap (((32 * i : Nat) : Int) + 32) = ((32 * (i + 1) : Nat) : Int) := by rw [wrap_i64 (by omega) (by omega)]; omega
    have s1 : slOk all.length ((32 * i : Nat) : Int) ((32 * (i + 1) : Nat) : Int) := ⟨by omega, by omega, by omega⟩
    have s2 : cut all ((32 * i : Nat) : Int) ((32 * (i + 1) : Nat) : Int) = chunkAt i all := by
      unfold cut chunkAt
      rw [Int.toNat_natCast, Int.toNat_natCast, show 32 * (i + 1) - 32 * i = 32 by omega]
    have a1 := app_tok 9 N i h (N + 1) N (encS (chunks i all)) (chunkAt i all) (by rw [encS_len, chunks_len]) (by omega)
    rw [show encS (chunks i all) ++ [AV.str (chunkAt i all)] = encS (chunks (i + 1) all) by rw [chunks_snoc]; simp [encS], Nat.min_self] at a1
    simp (config := {contextual := true, implicitDefEqProofs := false, maxSteps := 4000000}) only [go_sem, ↓reduceIte, Bool.false_eq_true, Nat.reduceEqDiff, Nat.reduceAdd, Int.reduceLE, Int.reduceLT, Int.reduceEq, Int.reduceToNat, Int.toNat_natCast, Int.cast_ofNat_Int, Int.natCast_one, Nat.reduceMod, Nat.reduceDiv, UInt8.reduceToNat, Nat.reduceLT, h7, h8, h9, d1, w1, s1, s2, a1]
    exact l024 n (i + 1) _ (by omega) (by omega) h7 rfl rfl hQ
theorem l0f24 (hk1 : 1 ≤ k) (e : FE) (h7 : e 7 = .str all) (h8 : e 8 = .nilslice) (h9 : e 9 = .int .i64 0)
    (hQ : ∀ e', e' 8 = .slice (encS (chunks k all)) k (.tok N k) → Q (.exit 0) e' { heap := (N, .tok 9 k 1) :: h, next := N + 1, low := N }) : WLoop cx ir24L0 e { heap := h, next := N, low := N } Q := by
  refine WLoop.rnd (c := _) ir24L0.eq_1 ?_
  have d1 : decide ((0 : Int) < (all.length : Int)) = true := decide_eq_true (by omega)
  have w1 : IntKind.i64.wrap ((0 : Int) + 32) = 32 := by kernel_rfl
  have s1 : slOk all.length (0 : Int) (32 : Int) := ⟨by omega, by omega, by omega⟩
  have s2 : cut all (0 : Int) (32 : Int) = chunkAt 0 all := by unfold cut chunkAt; rfl
  have a1 := app_nil 9 { heap := h, next := N, low := N } (chunkAt 0 all)
  simp (config := {contextual := true, implicitDefEqProofs := false, maxSteps := 4000000}) only [go_sem, ↓reduceIte, Bool.false_eq_true, Nat.reduceEqDiff, Nat.reduceAdd, Int.reduceLE, Int.reduceLT, Int.reduceEq, Int.reduceToNat, Int.toNat_natCast, Int.cast_ofNat_Int, Int.natCast_one, Nat.reduceMod, Nat.reduceDiv, UInt8.reduceToNat, Nat.reduceLT, h7, h8, h9, d1, w1, s1, s2, a1]
  exact l024 all k hlen hk N h Q (k - 1) 1 _ (by omega) (Nat.le_refl _) h7 (by rw [chunks_one k all hk1]; rfl) rfl hQ
end
theorem add_str {a b : Bs8} (h : a.length + b.length ≤ 9223372036854775807) : evBin .add (.str a) (.str b) = some (.str (a ++ b)) := by
  show (if a.length + b.length ≤ 9223372036854775807 then some (AV.str (a ++ b)) else none) = _
  rw [if_pos h]
theorem repz (m : Nat) (hm : m ≤ 100000) (st : St) (K : AV → St → Prop) : CallW cx 44 [.str [0], .int .i64 (m : Int)] st K = K (.str (List.replicate m 0)) st := by
  refine CallW.eq (CallW.ext (g := xRepeat) rfl ?_) K
  have e : ∀ m, Lib.repeatL [0] m = List.replicate m 0 := by
    intro m
    induction m with
    | zero => rfl
    | succ m ih => rw [Lib.repeatL, ih]; rfl
  simp only [xRepeat]
  rw [if_pos (by refine ⟨by omega, by omega, ?_⟩; simp; omega)]
  simp only [Int.toNat_natCast, e, oget_some, and_self]
theorem frame_run (n : Nat) (r : Bs8) (hn : n < 4096) (hr : r.length ≤ 1024) : RunO cx ir24 [.int .i64 (n : Int), .str r] (.tuple [.slice (encS (frameB n r)) (szB r.length) (.tok 0 (szB r.length)), .int .i64 0]) { heap := [(0, .tok 9 (szB r.length) 1)], next := 1, low := 0 } := by
  refine RunO.of' ir24.eq_1 (by kernel_rfl) ?_
  have d1 : decide ((1024 : Int) < (r.length : Int)) = false := decide_eq_false (by omega)
  have d2 : decide ((n : Int) < 0) = false := decide_eq_false (by omega)
  have d3 : decide ((4096 : Int) ≤ (n : Int)) = false := decide_eq_false (by omega)
  have k1 := fun st K => c43 n 8 (by omega) (by omega) (by omega) st K
  have k2 := fun st K => c43 r.length 4 (by omega) (by omega) (by omega) st K
  simp only [Int.cast_ofNat_Int] at k1 k2
  have hl1 := hexB_len 8 n
  have hl2 := hexB_len 4 r.length
  have hl3 := headB_len n r
  have a1 : evBin .add (.str (hexB n 8)) (.str (hexB r.length 4)) = some (.str (headB n r)) := add_str (by omega)
  have a2 : evBin .add (.str (headB n r)) (.str r) = some (.str (headB n r ++ r)) := add_str (by omega)
  have k3 := fun st K => c39 (headB n r ++ r) (by rw [List.length_append]; omega) st K
  have hl4 := digB_len (headB n r ++ r)
  obtain ⟨D, hD⟩ : ∃ D, digB (headB n r ++ r) = D := ⟨_, rfl⟩
  have hall := frameAll_len n r
  have hfa : frameAll n r = headB n r ++ D ++ r ++ List.replicate (32 * szB r.length - (r.length + 28)) 0 := by rw [← hD]; rfl
  rw [hD] at k3 hl4
  have a3 : evBin .add (.str (headB n r)) (.str D) = some (.str (headB n r ++ D)) := add_str (by omega)
  have a4 : evBin .add (.str (headB n r ++ D)) (.str r) = some (.str (headB n r ++ D ++ r)) := add_str (by rw [List.length_append]; omega)
  have k4 := fun st K => c45 r.length (by omega) st K
  have hz := szB_le r.length
  have hp := szB_pos r.length
  have hl5 : (headB n r ++ D ++ r).length = r.length + 28 := by rw [List.length_append, List.length_append]; omega
  have w1 : IntKind.i64.wrap (32 * ((szB r.length : Nat) : Int)) = ((32 * szB r.length : Nat) : Int) := by rw [wrap_i64 (by omega) (by omega)]; omega
  have w2 : IntKind.i64.wrap (((32 * szB r.length : Nat) : Int) - ((r.length + 28 : Nat) : Int)) = ((32 * szB r.length - (r.length + 28) : Nat) : Int) := by rw [wrap_i64 (by omega) (by omega)]; omega
  have k5 := fun st K => repz (32 * szB r.length - (r.length + 28)) (by omega) st K
  have a5 : evBin .add (.str (headB n r ++ D ++ r)) (.str (List.replicate (32 * szB r.length - (r.length + 28)) 0)) = some (.str (frameAll n r)) := by rw [hfa]; exact add_str (by rw [hl5, List.length_replicate]; omega)
  simp (config := {contextual := true, implicitDefEqProofs := false, maxSteps := 4000000}) only [go_sem, ↓reduceIte, Bool.false_eq_true, Nat.reduceEqDiff, Nat.reduceAdd, Int.reduceLE, Int.reduceLT, Int.reduceEq, Int.reduceToNat, Int.toNat_natCast, Int.cast_ofNat_Int, Int.natCast_one, Nat.reduceMod, Nat.reduceDiv, UInt8.reduceToNat, Nat.reduceLT, d1, d2, d3, k1, k2, a1, a2, k3, a3, a4, k4, hl5, w1, w2, k5, a5]
  refine l0f24 (frameAll n r) (szB r.length) hall (by omega) 0 [] _ hp _ rfl rfl rfl ?_
  intro e' h8
  simp (config := {contextual := true, implicitDefEqProofs := false, maxSteps := 4000000}) only [go_sem, ↓reduceIte, Bool.false_eq_true, Nat.reduceEqDiff, Nat.reduceAdd, Int.reduceLE, Int.reduceLT, Int.reduceEq, Int.reduceToNat, Int.toNat_natCast, Int.cast_ofNat_Int, Int.natCast_one, Nat.reduceMod, Nat.reduceDiv, UInt8.reduceToNat, Nat.reduceLT, h8]
  rfl
theorem c24 (n : Nat) (r : Bs8) (hn : n < 4096) (hr : r.length ≤ 1024) (s : St) (K : AV → St → Prop) : CallW cx 24 [.int .i64 (n : Int), .str r] s K = K (.tuple [.mslice s.next 0 (szB r.length) none, .int .i64 0]) { heap := (s.next, .cells none (encS (frameB n r))) :: s.heap, next := s.next + 1, low := s.low } := by
  refine CallW.own_eq (fn := ir24) rfl rfl rfl (as0 := [.int .i64 (n : Int), .str r]) rfl (frame_run n r hn hr) ?_ K
  have hl : (encS (frameB n r)).length = szB r.length := by rw [encS_len, frameB_len]
  have hc : ∀ b, ownC b { heap := [(0, .tok 9 (szB r.length) 1)], next := 1, low := 0 } (.slice (encS (frameB n r)) (szB r.length) (.tok 0 (szB r.length))) = some (.mslice (b + 0) 0 (szB r.length) none) := by
    intro b
    simp only [ownC, St.get, Fw.look, if_true, hl, Nat.mul_one, encS_sc, encS_byte, and_self]
  simp only [ownV, compsOf, mapO, hc, Option.bind_some, show ∀ b s', ownC b s' (.int .i64 0) = some (.int .i64 0) from fun _ _ => rfl, Option.map_some, Nat.add_zero, toComps]
  simp only [ownH, St.get, Fw.look, if_true, ownO, Option.bind_some, Option.map_some, List.cons_append, List.nil_append, rowOf, Nat.add_zero]
end T43


/- The reference's frames; sectors without anything; numerals read. -/
namespace T43
open Go Fw Go.Proofs
set_option maxRecDepth 100000
set_option maxHeartbeats 8000000
set_option linter.unusedSimpArgs false
set_option linter.unusedVariables false
theorem bytes_zero : ∀ n, bytesOf (List.replicate n (.int .u8 0)) = some (List.replicate n 0)
  | 0 => rfl
  | n + 1 => by
    rw [List.replicate_succ, show bytesOf (AV.int .u8 0 :: List.replicate n (.int .u8 0)) = (bytesOf (List.replicate n (.int .u8 0))).map (UInt8.ofNat (0 : Int).toNat :: ·) from rfl, bytes_zero n]; rfl
theorem flat_zero : ∀ n, (List.replicate n [AV.int .u8 0]).flatten = List.replicate n (.int .u8 0)
  | 0 => rfl
  | n + 1 => by rw [List.replicate_succ, List.flatten_cons, flat_zero n]; rfl
end T43


/- Hexadecimal numerals read by the library. -/
namespace T43
open Go Fw Go.Proofs
set_option maxRecDepth 100000
set_option maxHeartbeats 8000000
set_option linter.unusedSimpArgs false
set_option linter.unusedVariables false
theorem wrap_u8 (n : Int) : IntKind.u8.wrap n = n % 256 := rfl
theorem or32 (c : UInt8) : evBin .or (.int .u8 ((c.toNat : Nat) : Int)) (.int .u8 32) = some (.int .u8 ((c.toNat ||| 32 : Nat) : Int)) := by
  have h : ∀ c : Fin 256, IntKind.u8.wrap ((BitVec.ofInt IntKind.u8.bits ((c.val : Nat) : Int) ||| BitVec.ofInt IntKind.u8.bits 32).toNat : Int) = ((c.val ||| 32 : Nat) : Int) := by decide +kernel
  have := h ⟨c.toNat, c.toNat_lt⟩
  show some (AV.int .u8 (IntKind.u8.wrap ((BitVec.ofInt IntKind.u8.bits ((c.toNat : Nat) : Int) ||| BitVec.ofInt IntKind.u8.bits 32).toNat : Int))) = _
  rw [this]
theorem or32_lt (c : UInt8) : c.toNat ||| 32 < 256 := by
  have h : ∀ c : Fin 256, c.val ||| 32 < 256 := by decide +kernel
  exact h ⟨c.toNat, c.toNat_lt⟩
theorem c77 (c : UInt8) (s : St) (K : AV → St → Prop) : CallW cx 77 [.int .u8 ((c.toNat : Nat) : Int)] s K = K (.int .u8 ((c.toNat ||| 32 : Nat) : Int)) s := by
  refine CallW.eq (CallW.fn' (fn := ir77) rfl rfl (by kernel_rfl) ir77.eq_1 ?_) K
  have o := or32 c
  simp (config := {contextual := true, implicitDefEqProofs := false, maxSteps := 4000000}) only [go_sem, ↓reduceIte, Bool.false_eq_true, Nat.reduceEqDiff, Nat.reduceAdd, Int.reduceLE, Int.reduceLT, Int.reduceEq, Int.reduceToNat, Int.toNat_natCast, Int.cast_ofNat_Int, Int.natCast_one, Nat.reduceMod, Nat.reduceDiv, UInt8.reduceToNat, Nat.reduceLT, o]
/-- The value of a digit, in either case. -/
def hexC (b : UInt8) : Option Nat := if 48 ≤ b.toNat ∧ b.toNat ≤ 57 then some (b.toNat - 48) else if 97 ≤ b.toNat ||| 32 ∧ b.toNat ||| 32 ≤ 102 then some ((b.toNat ||| 32) - 87) else none
def hexG : Bs8 → Nat → Option Nat
  | [], n => some n
  | b :: s, n => match hexC b with
    | some d => hexG s (16 * n + d)
    | none => none
theorem hexU_C {b : UInt8} {d : Nat} (h : hexU b = some d) : hexC b = some d := by
  have : ∀ c : Fin 256, ∀ d, (if 48 ≤ c.val ∧ c.val ≤ 57 then some (c.val - 48) else if 97 ≤ c.val ∧ c.val ≤ 102 then some (c.val - 87) else none) = some d → (if 48 ≤ c.val ∧ c.val ≤ 57 then some (c.val - 48) else if 97 ≤ c.val ||| 32 ∧ c.val ||| 32 ≤ 102 then some ((c.val ||| 32) - 87) else none) = some d := by
    intro c d
    have h2 : ∀ c : Fin 256, (if 48 ≤ c.val ∧ c.val ≤ 57 then some (c.val - 48) else if 97 ≤ c.val ∧ c.val ≤ 102 then some (c.val - 87) else none) = none ∨ (if 48 ≤ c.val ∧ c.val ≤ 57 then some (c.val - 48) else if 97 ≤ c.val ∧ c.val ≤ 102 then some (c.val - 87) else none) = (if 48 ≤ c.val ∧ c.val ≤ 57 then some (c.val - 48) else if 97 ≤ c.val ||| 32 ∧ c.val ||| 32 ≤ 102 then some ((c.val ||| 32) - 87) else none) := by decide +kernel
    intro h3
    rcases h2 c with h4 | h4
    · rw [h4] at h3; cases h3
    · rw [← h4]; exact h3
  exact this ⟨b.toNat, b.toNat_lt⟩ d h
theorem hexV_G : ∀ (s : Bs8) (n v : Nat), hexV s n = some v → hexG s n = some v
  | [], n, v, h => h
  | b :: s, n, v, h => by
    simp only [hexV] at h
    simp only [hexG]
    cases hu : hexU b with
    | none => rw [hu] at h; cases h
    | some d =>
      rw [hu] at h
      rw [hexU_C hu]
      exact hexV_G s _ v h
section
variable (a : Bs8) (B : Nat) (hB : 4 * a.length ≤ B) (hB2 : B ≤ 32) (C : Nat) (ty : Option TypeId) (st : St) (hlk : Fw.look C st.heap = some (.cells ty (byteCells a))) (Q : Sig → FE → St → Prop)
include hB hB2 hlk
theorem l62 : ∀ (n i v : Nat) (e : FE), i + n = a.length → v < 16 ^ i → e 99 = .mslice C 0 a.length none → e 100 = .int .i64 (a.length : Int) → e 101 = .int .i64 (i : Int) → e 13 = .int .u64 (v : Int) → e 1 = .int .i64 16 → e 10 = .int .u64 1152921504606846976 → e 11 = .int .u64 ((2 ^ B - 1 : Nat) : Int) → e 12 = .bool false → e 8 = .bool false →
    (∀ e' w, hexG (a.drop i) v = some w → e' 13 = .int .u64 (w : Int) → e' 12 = .bool false → Q (.exit 3) e' st) → (∀ e', hexG (a.drop i) v = none → e' 6 = .int .u64 0 → e' 7 = .iface 116 (.int .i64 2) → Q .ret e' st) → WLoop cx ir62L0 e st Q
  | 0, i, v, e, hi, hv, h99, h100, h101, h13, h1, h10, h11, h12, h8, hQ, hR => by
    refine WLoop.rnd (c := _) ir62L0.eq_1 ?_
    have d1 : decide ((i : Int) < (a.length : Int)) = false := decide_eq_false (by omega)
    simp (config := {contextual := true, implicitDefEqProofs := false, maxSteps := 4000000}) only [go_sem, ↓reduceIte, Bool.false_eq_true, Nat.reduceEqDiff, Nat.reduceAdd, Int.reduceLE, Int.reduceLT, Int.reduceEq, Int.reduceToNat, Int.toNat_natCast, Int.cast_ofNat_Int, Int.natCast_one, Nat.reduceMod, Nat.reduceDiv, UInt8.reduceToNat, Nat.reduceLT, h99, h100, h101, d1]
    refine hQ _ v ?_ h13 h12
    rw [List.drop_eq_nil_of_le (by omega)]; rfl
  | n + 1, i, v, e, hi, hv, h99, h100, h101, h13, h1, h10, h11, h12, h8, hQ, hR => by
    refine WLoop.rnd (c := _) ir62L0.eq_1 ?_
    have d1 : decide ((i : Int) < (a.length : Int)) = true := decide_eq_true (by omega)
    have b1 : (0 : Int) ≤ (i : Int) ∧ (i : Int) < (a.length : Int) := by omega
    have hw := wrap_one (i := i) (by omega)
    have hb : sub (byteCells a) i 1 = some [.int .u8 ((a.getD i 0).toNat : Int)] := by
      rw [sub_one (by simp [byteCells]; omega)]
      simp [byteCells, List.getD, show i < a.length by omega]
    rw [drop_at (a := a) (i := i) (by omega)] at hQ hR
    simp only [hexG] at hQ hR
    obtain ⟨c, hcd⟩ : ∃ c, a.getD i 0 = c := ⟨_, rfl⟩
    rw [hcd] at hQ hR hb
    have hcb := c.toNat_lt
    have c1 : decide (((16 : Int)) = 0) = false := rfl
    have w2 : IntKind.u8.wrap 16 = 16 := rfl
    have w3 : IntKind.u64.wrap 16 = 16 := rfl
    have hv2 : v < 16 ^ 7 := Nat.lt_of_lt_of_le hv (Nat.pow_le_pow_right (by decide) (by omega))
    have h167 : (16 : Nat) ^ 7 = 268435456 := by decide
    have c5 : decide ((1152921504606846976 : Int) ≤ (v : Int)) = false := decide_eq_false (by omega)
    have w4 : IntKind.u64.wrap ((v : Int) * 16) = ((16 * v : Nat) : Int) := by rw [wrap_u64]; omega
    have hmax : 16 ^ (i + 1) ≤ 2 ^ B := by
      rw [show (16 : Nat) = 2 ^ 4 from rfl, ← Nat.pow_mul]
      exact Nat.pow_le_pow_right (by decide) (by omega)
    have fin : ∀ d : Nat, hexC c = some d → ∀ e' : FE, e' 99 = .mslice C 0 a.length none → True := fun _ _ _ _ => trivial
    have arith : ∀ d : Nat, d < 16 → IntKind.u64.wrap (((16 * v : Nat) : Int) + (d : Int)) = ((16 * v + d : Nat) : Int) ∧ decide (((16 * v + d : Nat) : Int) < ((16 * v : Nat) : Int)) = false ∧ decide (((2 ^ B - 1 : Nat) : Int) < ((16 * v + d : Nat) : Int)) = false ∧ IntKind.u64.wrap (d : Int) = (d : Int) ∧ decide ((16 : Int) ≤ (d : Int)) = false ∧ 16 * v + d < 16 ^ (i + 1) := by
      intro d hd
      have h1 : 16 * v + d < 16 ^ (i + 1) := by rw [Nat.pow_succ]; omega
      exact ⟨by rw [wrap_u64]; omega, decide_eq_false (by omega), decide_eq_false (by omega), by rw [wrap_u64]; omega, decide_eq_false (by omega), h1⟩
    obtain ⟨M, hM⟩ : ∃ M, 2 ^ B - 1 = M := ⟨_, rfl⟩
    rw [hM] at h11 arith
    have c0 : decide (((c.toNat : Nat) : Int) = 95) = true ∨ decide (((c.toNat : Nat) : Int) = 95) = false := by cases decide (((c.toNat : Nat) : Int) = 95) <;> simp
    by_cases g1 : 48 ≤ c.toNat ∧ c.toNat ≤ 57
    · have e1 : decide ((48 : Int) ≤ ((c.toNat : Nat) : Int)) = true := decide_eq_true (by omega)
      have e2 : decide (((c.toNat : Nat) : Int) ≤ 57) = true := decide_eq_true (by omega)
      have e0 : decide (((c.toNat : Nat) : Int) = 95) = false := decide_eq_false (by omega)
      have u : hexC c = some (c.toNat - 48) := by unfold hexC; rw [if_pos g1]
      rw [u] at hQ hR
      simp only at hQ hR
      have w1 : IntKind.u8.wrap (((c.toNat : Nat) : Int) - 48) = ((c.toNat - 48 : Nat) : Int) := by rw [wrap_u8]; omega
      obtain ⟨d, hd⟩ : ∃ d, c.toNat - 48 = d := ⟨_, rfl⟩
      rw [hd] at w1 hQ hR
      obtain ⟨x1, x2, x3, x4, x5, x6⟩ := arith d (by omega)
      simp (config := {contextual := true, implicitDefEqProofs := false, maxSteps := 4000000}) only [go_sem, ↓reduceIte, Bool.false_eq_true, Nat.reduceEqDiff, Nat.reduceAdd, Int.reduceLE, Int.reduceLT, Int.reduceEq, Int.reduceToNat, Int.toNat_natCast, Int.cast_ofNat_Int, Int.natCast_one, Nat.reduceMod, Nat.reduceDiv, UInt8.reduceToNat, Nat.reduceLT, h99, h100, h101, h13, h1, h10, h11, h12, h8, d1, hw, oget_iaddr_mslice, b1, Nat_mul_one, hlk, hb, c1, e0, e1, e2, w1, w2, w3, w4, c5, x1, x2, x3, x4, x5]
      exact l62 n (i + 1) (16 * v + d) _ (by omega) x6 h99 h100 rfl rfl h1 h10 (by rw [hM]; exact h11) h12 h8 hQ hR
    · have efirst : (decide ((48 : Int) ≤ ((c.toNat : Nat) : Int)) = false) ∨ (decide ((48 : Int) ≤ ((c.toNat : Nat) : Int)) = true ∧ decide (((c.toNat : Nat) : Int) ≤ 57) = false) := by
        by_cases g : 48 ≤ c.toNat
        · exact .inr ⟨decide_eq_true (by omega), decide_eq_false (by omega)⟩
        · exact .inl (decide_eq_false (by omega))
      obtain ⟨l, hl⟩ : ∃ l, c.toNat ||| 32 = l := ⟨_, rfl⟩
      have hl2 := or32_lt c
      have kl := fun st K => c77 c st K
      rw [hl] at hl2 kl
      have e0' : decide (((c.toNat : Nat) : Int) = 95) = false ∨ decide (((c.toNat : Nat) : Int) = 95) = true := by cases decide (((c.toNat : Nat) : Int) = 95) <;> simp
      by_cases g3 : 97 ≤ l
      · have e3 : decide ((97 : Int) ≤ (l : Int)) = true := decide_eq_true (by omega)
        by_cases g4 : l ≤ 122
        · have e4 : decide ((l : Int) ≤ 122) = true := decide_eq_true (by omega)
          have w1 : IntKind.u8.wrap ((l : Int) - 97) = ((l - 97 : Nat) : Int) := by rw [wrap_u8]; omega
          have w5 : IntKind.u8.wrap (((l - 97 : Nat) : Int) + 10) = ((l - 87 : Nat) : Int) := by rw [wrap_u8]; omega
          obtain ⟨d, hd⟩ : ∃ d, l - 87 = d := ⟨_, rfl⟩
          rw [hd] at w5
          by_cases g5 : l ≤ 102
          · have u : hexC c = some (l - 87) := by unfold hexC; rw [if_neg g1, if_pos (by omega), hl]
            rw [u, hd] at hQ hR
            simp only at hQ hR
            obtain ⟨x1, x2, x3, x4, x5, x6⟩ := arith d (by omega)
            rcases e0' with e0 | e0 <;> rcases efirst with e1 | ⟨e1, e2⟩
            all_goals first
              | (exfalso; have := of_decide_eq_true e0; omega)
              | skip
            all_goals first
              | simp (config := {contextual := true, implicitDefEqProofs := false, maxSteps := 4000000}) only [go_sem, ↓reduceIte, Bool.false_eq_true, Nat.reduceEqDiff, Nat.reduceAdd, Int.reduceLE, Int.reduceLT, Int.reduceEq, Int.reduceToNat, Int.toNat_natCast, Int.cast_ofNat_Int, Int.natCast_one, Nat.reduceMod, Nat.reduceDiv, UInt8.reduceToNat, Nat.reduceLT, h99, h100, h101, h13, h1, h10, h11, h12, h8, d1, hw, oget_iaddr_mslice, b1, Nat_mul_one, hlk, hb, c1, e0, e1, e2, kl, e3, e4, w1, w5, w2, w3, w4, c5, x1, x2, x3, x4, x5]
              | simp (config := {contextual := true, implicitDefEqProofs := false, maxSteps := 4000000}) only [go_sem, ↓reduceIte, Bool.false_eq_true, Nat.reduceEqDiff, Nat.reduceAdd, Int.reduceLE, Int.reduceLT, Int.reduceEq, Int.reduceToNat, Int.toNat_natCast, Int.cast_ofNat_Int, Int.natCast_one, Nat.reduceMod, Nat.reduceDiv, UInt8.reduceToNat, Nat.reduceLT, h99, h100, h101, h13, h1, h10, h11, h12, h8, d1, hw, oget_iaddr_mslice, b1, Nat_mul_one, hlk, hb, c1, e0, e1, kl, e3, e4, w1, w5, w2, w3, w4, c5, x1, x2, x3, x4, x5]
            all_goals exact l62 n (i + 1) (16 * v + d) _ (by omega) x6 h99 h100 rfl rfl h1 h10 (by rw [hM]; exact h11) h12 h8 hQ hR
          · have u : hexC c = none := by unfold hexC; rw [if_neg g1, if_neg (by omega)]
            rw [u] at hQ hR
            have x5 : decide ((16 : Int) ≤ (d : Int)) = true := decide_eq_true (by omega)
            rcases e0' with e0 | e0 <;> rcases efirst with e1 | ⟨e1, e2⟩
            all_goals first
              | simp (config := {contextual := true, implicitDefEqProofs := false, maxSteps := 4000000}) only [go_sem, ↓reduceIte, Bool.false_eq_true, Nat.reduceEqDiff, Nat.reduceAdd, Int.reduceLE, Int.reduceLT, Int.reduceEq, Int.reduceToNat, Int.toNat_natCast, Int.cast_ofNat_Int, Int.natCast_one, Nat.reduceMod, Nat.reduceDiv, UInt8.reduceToNat, Nat.reduceLT, h99, h100, h101, h13, h1, h10, h11, h12, h8, d1, hw, oget_iaddr_mslice, b1, Nat_mul_one, hlk, hb, c1, e0, e1, e2, kl, e3, e4, w1, w5, w2, x5]
              | simp (config := {contextual := true, implicitDefEqProofs := false, maxSteps := 4000000}) only [go_sem, ↓reduceIte, Bool.false_eq_true, Nat.reduceEqDiff, Nat.reduceAdd, Int.reduceLE, Int.reduceLT, Int.reduceEq, Int.reduceToNat, Int.toNat_natCast, Int.cast_ofNat_Int, Int.natCast_one, Nat.reduceMod, Nat.reduceDiv, UInt8.reduceToNat, Nat.reduceLT, h99, h100, h101, h13, h1, h10, h11, h12, h8, d1, hw, oget_iaddr_mslice, b1, Nat_mul_one, hlk, hb, c1, e0, e1, kl, e3, e4, w1, w5, w2, x5]
            all_goals exact hR _ rfl rfl rfl
        · have e4 : decide ((l : Int) ≤ 122) = false := decide_eq_false (by omega)
          have u : hexC c = none := by unfold hexC; rw [if_neg g1, if_neg (by omega)]
          rw [u] at hQ hR
          rcases e0' with e0 | e0 <;> rcases efirst with e1 | ⟨e1, e2⟩
          all_goals first
            | simp (config := {contextual := true, implicitDefEqProofs := false, maxSteps := 4000000}) only [go_sem, ↓reduceIte, Bool.false_eq_true, Nat.reduceEqDiff, Nat.reduceAdd, Int.reduceLE, Int.reduceLT, Int.reduceEq, Int.reduceToNat, Int.toNat_natCast, Int.cast_ofNat_Int, Int.natCast_one, Nat.reduceMod, Nat.reduceDiv, UInt8.reduceToNat, Nat.reduceLT, h99, h100, h101, h13, h1, h10, h11, h12, h8, d1, hw, oget_iaddr_mslice, b1, Nat_mul_one, hlk, hb, c1, e0, e1, e2, kl, e3, e4]
            | simp (config := {contextual := true, implicitDefEqProofs := false, maxSteps := 4000000}) only [go_sem, ↓reduceIte, Bool.false_eq_true, Nat.reduceEqDiff, Nat.reduceAdd, Int.reduceLE, Int.reduceLT, Int.reduceEq, Int.reduceToNat, Int.toNat_natCast, Int.cast_ofNat_Int, Int.natCast_one, Nat.reduceMod, Nat.reduceDiv, UInt8.reduceToNat, Nat.reduceLT, h99, h100, h101, h13, h1, h10, h11, h12, h8, d1, hw, oget_iaddr_mslice, b1, Nat_mul_one, hlk, hb, c1, e0, e1, kl, e3, e4]
          all_goals exact hR _ rfl rfl rfl
      · have e3 : decide ((97 : Int) ≤ (l : Int)) = false := decide_eq_false (by omega)
        have u : hexC c = none := by unfold hexC; rw [if_neg g1, if_neg (by omega)]
        rw [u] at hQ hR
        rcases e0' with e0 | e0 <;> rcases efirst with e1 | ⟨e1, e2⟩
        all_goals first
          | simp (config := {contextual := true, implicitDefEqProofs := false, maxSteps := 4000000}) only [go_sem, ↓reduceIte, Bool.false_eq_true, Nat.reduceEqDiff, Nat.reduceAdd, Int.reduceLE, Int.reduceLT, Int.reduceEq, Int.reduceToNat, Int.toNat_natCast, Int.cast_ofNat_Int, Int.natCast_one, Nat.reduceMod, Nat.reduceDiv, UInt8.reduceToNat, Nat.reduceLT, h99, h100, h101, h13, h1, h10, h11, h12, h8, d1, hw, oget_iaddr_mslice, b1, Nat_mul_one, hlk, hb, c1, e0, e1, e2, kl, e3]
          | simp (config := {contextual := true, implicitDefEqProofs := false, maxSteps := 4000000}) only [go_sem, ↓reduceIte, Bool.false_eq_true, Nat.reduceEqDiff, Nat.reduceAdd, Int.reduceLE, Int.reduceLT, Int.reduceEq, Int.reduceToNat, Int.toNat_natCast, Int.cast_ofNat_Int, Int.natCast_one, Nat.reduceMod, Nat.reduceDiv, UInt8.reduceToNat, Nat.reduceLT, h99, h100, h101, h13, h1, h10, h11, h12, h8, d1, hw, oget_iaddr_mslice, b1, Nat_mul_one, hlk, hb, c1, e0, e1, kl, e3]
        all_goals exact hR _ rfl rfl rfl
end
def numG (a : Bs8) : AV := match hexG a 0 with
  | some w => .tuple [.int .u64 (w : Int), .niliface]
  | none => .tuple [.int .u64 0, .iface 116 (.int .i64 2)]
theorem c62 (a : Bs8) (hne : a ≠ []) (B : Nat) (hB0 : B = 16 ∨ B = 32) (hB : 4 * a.length ≤ B) (s : St) (K : AV → St → Prop) : CallW cx 62 [.str a, .int .i64 16, .int .i64 (B : Int)] s K = K (numG a) s := by
  refine CallW.eq (CallW.fn' (fn := ir62) rfl rfl (by kernel_rfl) ir62.eq_1 ?_) K
  have d1 : decide (a = []) = false := decide_eq_false hne
  have s0 : IntKind.u64.wrap (B : Int) = (B : Int) := by rw [wrap_u64]; omega
  have s1 : evBin .shl (.int .u64 1) (.int .u64 (B : Int)) = some (.int .u64 ((2 ^ B : Nat) : Int)) := by rcases hB0 with rfl | rfl <;> kernel_rfl
  have s2 : IntKind.u64.wrap (((2 ^ B : Nat) : Int) - 1) = ((2 ^ B - 1 : Nat) : Int) := by rcases hB0 with rfl | rfl <;> kernel_rfl
  have b0 : decide ((B : Int) = 0) = false := decide_eq_false (by omega)
  have b1 : decide ((B : Int) < 0) = false := decide_eq_false (by omega)
  have b2 : decide ((64 : Int) < (B : Int)) = false := decide_eq_false (by omega)
  simp (config := {contextual := true, implicitDefEqProofs := false, maxSteps := 4000000}) only [go_sem, ↓reduceIte, Bool.false_eq_true, Nat.reduceEqDiff, Nat.reduceAdd, Int.reduceLE, Int.reduceLT, Int.reduceEq, Int.reduceToNat, Int.toNat_natCast, Int.cast_ofNat_Int, Int.natCast_one, Nat.reduceMod, Nat.reduceDiv, UInt8.reduceToNat, Nat.reduceLT, d1, b0, b1, b2, s0, s1, s2]
  unfold numG
  refine l62 a B hB (by omega) s.next none _ (by simp only [Fw.look, if_true]) _ a.length 0 0 _ (by omega) (by decide) rfl rfl rfl rfl rfl rfl rfl rfl rfl ?_ ?_
  · intro e' w hw h13 h12
    rw [List.drop_zero] at hw
    rw [hw]
    have hlv : ∀ (s' : St) (K : AV → St → Prop), s.next ≤ s'.low → LeaveW s s' (.tuple [.int .u64 (w : Int), .niliface]) K = K (.tuple [.int .u64 (w : Int), .niliface]) s := fun s' K h => LeaveW_tuple rfl h K
    simp (config := {contextual := true, implicitDefEqProofs := false, maxSteps := 4000000}) only [go_sem, ↓reduceIte, Bool.false_eq_true, Nat.reduceEqDiff, Nat.reduceAdd, Int.reduceLE, Int.reduceLT, Int.reduceEq, Int.reduceToNat, Int.toNat_natCast, Int.cast_ofNat_Int, Int.natCast_one, Nat.reduceMod, Nat.reduceDiv, UInt8.reduceToNat, Nat.reduceLT, h13, h12, hlv]
  · intro e' hw h6 h7
    rw [List.drop_zero] at hw
    rw [hw]
    simp (config := {contextual := true, implicitDefEqProofs := false, maxSteps := 4000000}) only [go_sem, ↓reduceIte, Bool.false_eq_true, Nat.reduceEqDiff, Nat.reduceAdd, Int.reduceLE, Int.reduceLT, Int.reduceEq, Int.reduceToNat, Int.toNat_natCast, Int.cast_ofNat_Int, Int.natCast_one, Nat.reduceMod, Nat.reduceDiv, UInt8.reduceToNat, Nat.reduceLT, h6, h7]
    have hfree : [AV.int .u64 0, .iface 116 (.int .i64 2)].all (AV.free s.next) = true := by simp [AV.free, AV.al]
    rw [LeaveW_tfree hfree (Nat.le_refl _)]
    exact ⟨rfl, rfl⟩
def numP (a : Bs8) : AV := match hexG a 0 with
  | some w => .tuple [.int .u64 (w : Int), .niliface]
  | none => .tuple [.int .u64 0, .anyiface]
theorem c50 (a : Bs8) (hne : a ≠ []) (B : Nat) (hB0 : B = 16 ∨ B = 32) (hB : 4 * a.length ≤ B) (s : St) (K : AV → St → Prop) : CallW cx 50 [.str a, .int .i64 16, .int .i64 (B : Int)] s K = K (numP a) s := by
  refine CallW.eq (CallW.fn' (fn := ir50) rfl rfl (by kernel_rfl) ir50.eq_1 ?_) K
  have k1 := fun st K => c62 a hne B hB0 hB st K
  unfold numG at k1
  unfold numP
  have e0 : evEq .iface .niliface .niliface = some true := rfl
  have e1 : evEq .iface (.iface 116 (.int .i64 2)) .niliface = some false := rfl
  have x1 : ∀ (fs : Bs8) (st : St) (K : AV → St → Prop), CallW cx 63 [.str fs, .str a, .int .i64 16, .int .i64 (B : Int), .iface 116 (.int .i64 2)] st K = K .anyiface st := by
    intro fs st K
    refine CallW.eq (CallW.ext (g := xToErr) rfl ?_) K
    simp only [xToErr]
    rw [if_pos (by refine ⟨trivial, ?_, .inr trivial⟩; omega)]
    simp only [oget_some, and_self]
  cases hG : hexG a 0 with
  | none =>
    rw [hG] at k1
    simp only at k1
    simp (config := {contextual := true, implicitDefEqProofs := false, maxSteps := 4000000}) only [go_sem, ↓reduceIte, Bool.false_eq_true, Nat.reduceEqDiff, Nat.reduceAdd, Int.reduceLE, Int.reduceLT, Int.reduceEq, Int.reduceToNat, Int.toNat_natCast, Int.cast_ofNat_Int, Int.natCast_one, Nat.reduceMod, Nat.reduceDiv, UInt8.reduceToNat, Nat.reduceLT, k1, e1, x1]
    have hfree : [AV.int .u64 0, .anyiface].all (AV.free s.next) = true := by simp [AV.free, AV.al]
    rw [LeaveW_tfree hfree (Nat.le_refl _)]
    exact ⟨rfl, rfl⟩
  | some w =>
    rw [hG] at k1
    simp only at k1
    simp (config := {contextual := true, implicitDefEqProofs := false, maxSteps := 4000000}) only [go_sem, ↓reduceIte, Bool.false_eq_true, Nat.reduceEqDiff, Nat.reduceAdd, Int.reduceLE, Int.reduceLT, Int.reduceEq, Int.reduceToNat, Int.toNat_natCast, Int.cast_ofNat_Int, Int.natCast_one, Nat.reduceMod, Nat.reduceDiv, UInt8.reduceToNat, Nat.reduceLT, k1, e0]
end T43


/- Rows of strings as the machine holds them; sectors without anything. -/
namespace T43
open Go Fw Go.Proofs
set_option maxRecDepth 100000
set_option maxHeartbeats 8000000
set_option linter.unusedSimpArgs false
set_option linter.unusedVariables false
theorem dropW_nil {p : UInt8 → Bool} : ∀ {l : Bs8}, l.dropWhile p = [] ↔ ∀ x ∈ l, p x = true
  | [] => by simp
  | b :: l => by
    rw [List.dropWhile_cons]
    cases h : p b
    · simp [h]
    · simp only [if_true, List.mem_cons, forall_eq_or_imp, h, true_and]
      exact dropW_nil
theorem trim_nil (l : Bs8) (c : UInt8) : Lib.trimB l c = [] ↔ ∀ x ∈ l, x = c := by
  unfold Lib.trimB Lib.trimLeftB Lib.trimRightB
  rw [dropW_nil]
  refine ⟨fun h => ?_, fun h x hx => ?_⟩
  · have h2 : (l.reverse.dropWhile (· == c)) = [] := by
      cases hd : l.reverse.dropWhile (· == c) with
      | nil => rfl
      | cons y r =>
        have h3 := h y (by rw [hd]; simp)
        have h4 : (y == c) = false := by
          have := List.head_dropWhile_not (· == c) (l := l.reverse) (by rw [hd]; simp)
          simpa [hd] using this
        rw [h4] at h3; cases h3
    rw [dropW_nil] at h2
    intro x hx
    simpa using h2 x (List.mem_reverse.2 hx)
  · have hx2 : x ∈ l := by
      have := List.mem_reverse.1 hx
      exact List.mem_reverse.1 ((List.dropWhile_sublist _).subset this)
    simp [h x hx2]
theorem blank32 {s : Bs8} (h : s.length = 32) : Lib.trimB s 0 = [] ↔ s = zero32 := by
  rw [trim_nil]
  refine ⟨fun h2 => ?_, fun h2 x hx => ?_⟩
  · exact List.eq_replicate_iff.2 ⟨h, h2⟩
  · rw [h2] at hx; exact (List.mem_replicate.1 hx).2
theorem c48 (a : Bs8) (ha : a.length ≤ 9223372036854775807) (s : St) (K : AV → St → Prop) : CallW cx 48 [.str a] s K = K (.bool (decide (Lib.trimB a 0 = []))) s := by
  refine CallW.eq (CallW.fn' (fn := ir48) rfl rfl (by kernel_rfl) ir48.eq_1 ?_) K
  have k1 : ∀ (st : St) (K : AV → St → Prop), CallW cx 61 [.str a, .str [0]] st K = K (.str (Lib.trimB a 0)) st := by
    intro st K
    refine CallW.eq (CallW.ext (g := xTrim1) rfl ?_) K
    simp only [xTrim1]
    rw [if_pos ⟨ha, by decide⟩]
    simp only [oget_some, and_self]
  simp (config := {contextual := true, implicitDefEqProofs := false, maxSteps := 4000000}) only [go_sem, ↓reduceIte, Bool.false_eq_true, Nat.reduceEqDiff, Nat.reduceAdd, Int.reduceLE, Int.reduceLT, Int.reduceEq, Int.reduceToNat, Int.toNat_natCast, Int.cast_ofNat_Int, Int.natCast_one, Nat.reduceMod, Nat.reduceDiv, UInt8.reduceToNat, Nat.reduceLT, k1]
/-- A row of strings: a list that never changes, or an object's stretch. -/
def RowS (st : St) (v : AV) (xs : List Bs8) : Prop :=
  (∃ o : Own, v = .slice (encS xs) xs.length o) ∨ (v = .nilslice ∧ xs = []) ∨ ∃ (id : Nat) (ty : Option TypeId) (rest : List AV), v = .mslice id 0 xs.length none ∧ Fw.look id st.heap = some (.cells ty (encS xs ++ rest)) ∧ id < st.next
theorem RowS.lenv {st : St} {v : AV} {xs : List Bs8} (h : RowS st v xs) : lenvA v = some (.int .i64 (xs.length : Int)) := by
  rcases h with ⟨o, rfl⟩ | ⟨rfl, rfl⟩ | ⟨id, ty, rest, rfl, _⟩ <;> rfl
theorem sub_encS {xs : List Bs8} {i : Nat} (h : i < xs.length) : sub (encS xs) i 1 = some [.str (xs.getD i [])] := by
  rw [sub_one (by rw [encS_len]; exact h)]
  simp [encS, List.getD, h]
theorem sub_app {xs : List Bs8} {i : Nat} (h : i < xs.length) (rest : List AV) : sub (encS xs ++ rest) i 1 = some [.str (xs.getD i [])] := by
  rw [sub_one (by rw [List.length_append, encS_len]; omega)]
  simp [encS, List.getD, h, List.getElem?_append]
/-- A place in it, and what stands there. -/
theorem RowS.at {st : St} {v : AV} {xs : List Bs8} (h : RowS st v xs) {i : Nat} (hi : i < xs.length) : ∃ p, iaddrA 1 none v (i : Int) = some p ∧ (∀ l, loadA { heap := st.heap, next := st.next, low := l } false 1 p = some (.str (xs.getD i []))) ∧ (deedOf p = none ∨ ∃ id, deedOf p = some (.rd id)) := by
  rcases h with ⟨o, rfl⟩ | ⟨rfl, rfl⟩ | ⟨id, ty, rest, rfl, h2, _⟩
  · refine ⟨.vptr (encS xs) i, ?_, fun l => ?_, .inl rfl⟩
    · simp only [iaddrA]; rw [if_pos (by omega)]; simp
    · simp only [loadA, sub_encS hi, Option.bind_some, ofCells, Bool.false_eq_true, if_false]
  · simp at hi
  · refine ⟨.ptr id i, ?_, fun l => ?_, .inr ⟨id, rfl⟩⟩
    · simp only [iaddrA]; rw [if_pos (by omega)]; simp
    · simp only [loadA, St.get, h2, sub_app hi, Option.bind_some, ofCells, Bool.false_eq_true, if_false]
theorem RowS.keep {st st' : St} {v : AV} {xs : List Bs8} (h : RowS st v xs) (hn : st.next ≤ st'.next) (hk : ∀ i, i < st.next → Fw.look i st'.heap = Fw.look i st.heap) : RowS st' v xs := by
  rcases h with h | h | ⟨id, ty, rest, h1, h2, h3⟩
  · exact .inl h
  · exact .inr (.inl h)
  · exact .inr (.inr ⟨id, ty, rest, h1, by rw [hk id h3]; exact h2, by omega⟩)
theorem strsOf_enc : ∀ xs : List Bs8, strsOf (encS xs) = some xs
  | [] => rfl
  | x :: xs => by
    rw [show encS (x :: xs) = AV.str x :: encS xs from rfl, strsOf, strsOf_enc xs]; rfl
theorem join_flat : ∀ xs : List Bs8, Lib.join xs [] = xs.flatten
  | [] => rfl
  | [x] => by simp [Lib.join, List.intercalate]
  | x :: y :: xs => by
    have := join_flat (y :: xs)
    simp only [Lib.join, List.intercalate] at this ⊢
    simp only [List.intersperse, List.flatten_cons, List.nil_append] at this ⊢
    rw [this]
theorem RowS.take {st : St} {v : AV} {xs : List Bs8} (h : RowS st v xs) {k : Nat} (hk : k ≤ xs.length) (hp : 0 < k) : ∃ v', sliceA 1 v none (some (.int .i64 (k : Int))) none = some v' ∧ RowS st v' (xs.take k) := by
  have hb : bounds xs.length none (some (.int .i64 (k : Int))) = some (0, k) := by
    simp only [bounds]; rw [if_pos (by omega)]; simp
  have hl : (xs.take k).length = k := by rw [List.length_take]; omega
  rcases h with ⟨o, rfl⟩ | ⟨rfl, rfl⟩ | ⟨id, ty, rest, rfl, h2, h3⟩
  · refine ⟨.slice (encS (xs.take k)) k (if k = xs.length ∧ 0 < xs.length then o else .no), ?_, .inl ⟨_, by rw [hl]⟩⟩
    simp only [sliceA, encS_len, Nat.mul_one, if_true, hb, Option.bind_some, Nat.zero_mul, List.drop_zero, Nat.sub_zero]
    simp [encS, List.map_take]
  · simp at hk; omega
  · refine ⟨.mslice id 0 k none, ?_, .inr (.inr ⟨id, ty, encS (xs.drop k) ++ rest, by rw [hl], ?_, h3⟩)⟩
    · simp only [sliceA, hb, Option.bind_some, Nat.zero_mul, Nat.add_zero, Nat.sub_zero]
      rw [if_pos (by omega)]
    · rw [h2, ← List.append_assoc]
      congr 2
      simp only [encS, ← List.map_append, List.take_append_drop]
theorem RowS.join {st : St} {v : AV} {xs : List Bs8} (h : RowS st v xs) (hn : xs.length ≤ 140737488355328) (hl : xs.flatten.length ≤ 140737488355328) (K : AV → St → Prop) : CallW cx 51 [v, .str []] st K = K (.str xs.flatten) st := by
  refine CallW.eq (CallW.ext (g := xJoin) rfl ?_) K
  rcases h with ⟨o, rfl⟩ | ⟨rfl, rfl⟩ | ⟨id, ty, rest, rfl, h2, h3⟩
  · simp only [xJoin, strsOf_enc, Option.bind_some, join_flat]
    rw [if_pos ⟨trivial, hn, hl⟩]
    simp only [oget_some, and_self]
  · simp only [xJoin, oget_some, List.flatten_nil, and_self]
  · have hs : sub (encS xs ++ rest) 0 xs.length = some (encS xs) := by
      unfold sub
      rw [if_pos (by rw [List.length_append, encS_len]; omega), List.drop_zero, List.take_append_of_le_length (by rw [encS_len]; exact Nat.le_refl _), List.take_of_length_le (by rw [encS_len]; exact Nat.le_refl _)]
    simp only [xJoin, St.get, h2, hs, strsOf_enc, Option.bind_some, join_flat]
    rw [if_pos ⟨trivial, hn, hl⟩]
    simp only [oget_some, and_self]
end T43
