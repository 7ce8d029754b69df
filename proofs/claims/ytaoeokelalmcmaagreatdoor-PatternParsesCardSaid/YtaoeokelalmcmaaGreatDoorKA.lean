/- Parts of the proof, one behind the other. -/
import Derived.Test.YtaoeokelalmcmaaGreatDoorK06
import Derived.Test.YtaoeokelalmcmaaGreatDoorFwX
import Derived.Shelf.Strings.Repeat
import Derived.Shelf.Strings.SlTrimAscii
import Derived.Shelf.Strconv.Atoi
import Derived.Shelf.Strings.Search2
import Derived.Test.YtaoeokelalmcmaaGreatDoorChecked
import Derived.Lib.Walk
import Derived.WalkKit
import Derived.KernelRfl
import Derived.Shelf.RegionOpenPlain
import Derived.Laws.IdiomRangeMap
import Derived.Lib.SmallJoins
import Derived.Test.YtaoeokelalmcmaaGreatDoorFwL
import Derived.Lib.IndexBytes
import Derived.Lib.IndexMore
set_option linter.unusedSimpArgs false
set_option linter.unusedVariables false
set_option linter.unusedSectionVars false

namespace T06
open Go Fw Go.Proofs
theorem tbl_shut : (tbl.all fun o => match o with | some ir => ir.body.shut | none => true) = true := by kernel_rfl
theorem tbl_ok : tbl = (List.range tbl.length).map fun i => (Tryz.prog.funcs[i]?).bind (cFunc Tryz.prog) := by kernel_rfl
end T06


namespace Go.Proofs
open Go.Shelf
def Tryz.lays160_ren : Go.Shelf.Ren := ⟨fun | 160 => 85 | 232 => 105 | 231 => 104 | 227 => 106 | 234 => 108 | 233 => 107 | 236 => 110 | 235 => 109 | 228 => 128 | 271 => 130 | 151 => 129 | 197 => 124 | 120 => 142 | 152 => 141 | 260 => 140 | 137 => 146 | 119 => 147 | 224 => 102 | 225 => 101 | 217 => 100 | 266 => 126 | n => n, fun | 9 => 9 | 4 => 4 | 3 => 3 | 5 => 5 | 117 => 125 | 116 => 124 | 0 => 0 | 124 => 128 | 21 => 21 | 105 => 141 | 46 => 103 | 119 => 165 | 139 => 168 | 138 => 167 | n => n, fun | 3 => 8 | 4 => 9 | n => n⟩
theorem Tryz.lays160 : Go.Proofs.Lays.n160 Tryz.prog Tryz.lays160_ren := {
  mixed := by kernel_rfl
  f119 := Tryz.func147.trans (congrArg some (by kernel_rfl))
  f120 := Tryz.func142.trans (congrArg some (by kernel_rfl))
  f137 := Tryz.func146.trans (congrArg some (by kernel_rfl))
  f151 := Tryz.func129.trans (congrArg some (by kernel_rfl))
  f152 := Tryz.func141.trans (congrArg some (by kernel_rfl))
  f160 := Tryz.func85.trans (congrArg some (by kernel_rfl))
  f197 := Tryz.func124.trans (congrArg some (by kernel_rfl))
  f217 := Tryz.func100.trans (congrArg some (by kernel_rfl))
  f224 := Tryz.func102.trans (congrArg some (by kernel_rfl))
  f225 := Tryz.func101.trans (congrArg some (by kernel_rfl))
  f227 := Tryz.func106.trans (congrArg some (by kernel_rfl))
  f228 := Tryz.func128.trans (congrArg some (by kernel_rfl))
  f231 := Tryz.func104.trans (congrArg some (by kernel_rfl))
  f232 := Tryz.func105.trans (congrArg some (by kernel_rfl))
  f233 := Tryz.func107.trans (congrArg some (by kernel_rfl))
  f234 := Tryz.func108.trans (congrArg some (by kernel_rfl))
  f235 := Tryz.func109.trans (congrArg some (by kernel_rfl))
  f236 := Tryz.func110.trans (congrArg some (by kernel_rfl))
  f260 := Tryz.func140.trans (congrArg some (by kernel_rfl))
  f266 := Tryz.func126.trans (congrArg some (by kernel_rfl))
  f271 := Tryz.func130.trans (congrArg some (by kernel_rfl))
  t0 := Tryz.underlying0
  a0 := Tryz.isAgg0
  z0 := Tryz.sizeOf0
  v0 := Tryz.zeroValue0
  t3 := Tryz.underlying3
  a3 := Tryz.isAgg3
  z3 := Tryz.sizeOf3
  v3 := Tryz.zeroValue3
  t4 := Tryz.underlying4
  a4 := Tryz.isAgg4
  z4 := Tryz.sizeOf4
  v4 := Tryz.zeroValue4
  t5 := Tryz.underlying5
  a5 := Tryz.isAgg5
  z5 := Tryz.sizeOf5
  v5 := Tryz.zeroValue5
  t9 := Tryz.underlying9
  a9 := Tryz.isAgg9
  z9 := Tryz.sizeOf9
  v9 := Tryz.zeroValue9
  t21 := Tryz.underlying21
  a21 := Tryz.isAgg21
  z21 := Tryz.sizeOf21
  v21 := Tryz.zeroValue21
  t46 := Tryz.underlying103
  a46 := Tryz.isAgg103
  z46 := Tryz.sizeOf103
  v46 := Tryz.zeroValue103
  t105 := Tryz.underlying141
  a105 := Tryz.isAgg141
  z105 := Tryz.sizeOf141
  v105 := Tryz.zeroValue141
  t116 := Tryz.underlying124
  a116 := Tryz.isAgg124
  z116 := Tryz.sizeOf124
  t117 := Tryz.underlying125
  a117 := Tryz.isAgg125
  z117 := Tryz.sizeOf125
  v117 := Tryz.zeroValue125
  t119 := Tryz.underlying165
  a119 := Tryz.isAgg165
  z119 := Tryz.sizeOf165
  t124 := Tryz.underlying128
  a124 := Tryz.isAgg128
  z124 := Tryz.sizeOf128
  v124 := Tryz.zeroValue128
  t138 := Tryz.underlying167
  a138 := Tryz.isAgg167
  z138 := Tryz.sizeOf167
  v138 := Tryz.zeroValue167
  t139 := Tryz.underlying168
  a139 := Tryz.isAgg168
  z139 := Tryz.sizeOf168
  v139 := Tryz.zeroValue168
  g3 := by kernel_rfl
  g4 := by kernel_rfl }
def Tryz.lays172_ren : Go.Shelf.Ren := ⟨fun | 172 => 86 | 244 => 111 | 245 => 112 | 247 => 131 | 279 => 132 | 280 => 133 | 281 => 134 | 282 => 135 | 287 => 143 | 316 => 144 | 171 => 46 | 205 => 145 | 321 => 148 | 322 => 149 | 243 => 68 | 246 => 80 | 283 => 94 | 284 => 95 | 285 => 96 | 286 => 97 | 129 => 119 | 317 => 118 | 318 => 120 | 319 => 121 | 320 => 122 | 337 => 138 | 338 => 139 | n => n, fun | 9 => 9 | 3 => 3 | 75 => 100 | 76 => 101 | 4 => 4 | 5 => 5 | 167 => 146 | 37 => 67 | 0 => 0 | 85 => 147 | 2 => 2 | 168 => 149 | 53 => 114 | 175 => 157 | 46 => 103 | 210 => 161 | 127 => 135 | 145 => 173 | 143 => 171 | 21 => 21 | 171 => 113 | 173 => 117 | 212 => 137 | 51 => 130 | 20 => 20 | 213 => 138 | 232 => 163 | 233 => 164 | 80 => 112 | n => n, fun | 15 => 4 | 16 => 5 | 17 => 3 | 18 => 6 | 19 => 7 | n => n⟩
theorem Tryz.lays172 : Go.Proofs.Lays.n172 Tryz.prog Tryz.lays172_ren := {
  mixed := by kernel_rfl
  f129 := Tryz.func119.trans (congrArg some (by kernel_rfl))
  f171 := Tryz.func46.trans (congrArg some (by kernel_rfl))
  f172 := Tryz.func86.trans (congrArg some (by kernel_rfl))
  f205 := Tryz.func145.trans (congrArg some (by kernel_rfl))
  f243 := Tryz.func68.trans (congrArg some (by kernel_rfl))
  f244 := Tryz.func111.trans (congrArg some (by kernel_rfl))
  f245 := Tryz.func112.trans (congrArg some (by kernel_rfl))
  f246 := Tryz.func80.trans (congrArg some (by kernel_rfl))
  f247 := Tryz.func131.trans (congrArg some (by kernel_rfl))
  f279 := Tryz.func132.trans (congrArg some (by kernel_rfl))
  f280 := Tryz.func133.trans (congrArg some (by kernel_rfl))
  f281 := Tryz.func134.trans (congrArg some (by kernel_rfl))
  f282 := Tryz.func135.trans (congrArg some (by kernel_rfl))
  f283 := Tryz.func94.trans (congrArg some (by kernel_rfl))
  f284 := Tryz.func95.trans (congrArg some (by kernel_rfl))
  f285 := Tryz.func96.trans (congrArg some (by kernel_rfl))
  f286 := Tryz.func97.trans (congrArg some (by kernel_rfl))
  f287 := Tryz.func143.trans (congrArg some (by kernel_rfl))
  f316 := Tryz.func144.trans (congrArg some (by kernel_rfl))
  f317 := Tryz.func118.trans (congrArg some (by kernel_rfl))
  f318 := Tryz.func120.trans (congrArg some (by kernel_rfl))
  f319 := Tryz.func121.trans (congrArg some (by kernel_rfl))
  f320 := Tryz.func122.trans (congrArg some (by kernel_rfl))
  f321 := Tryz.func148.trans (congrArg some (by kernel_rfl))
  f322 := Tryz.func149.trans (congrArg some (by kernel_rfl))
  f337 := Tryz.func138.trans (congrArg some (by kernel_rfl))
  f338 := Tryz.func139.trans (congrArg some (by kernel_rfl))
  t0 := Tryz.underlying0
  a0 := Tryz.isAgg0
  z0 := Tryz.sizeOf0
  v0 := Tryz.zeroValue0
  t2 := Tryz.underlying2
  a2 := Tryz.isAgg2
  z2 := Tryz.sizeOf2
  v2 := Tryz.zeroValue2
  t3 := Tryz.underlying3
  a3 := Tryz.isAgg3
  z3 := Tryz.sizeOf3
  v3 := Tryz.zeroValue3
  t4 := Tryz.underlying4
  a4 := Tryz.isAgg4
  z4 := Tryz.sizeOf4
  v4 := Tryz.zeroValue4
  t5 := Tryz.underlying5
  a5 := Tryz.isAgg5
  z5 := Tryz.sizeOf5
  v5 := Tryz.zeroValue5
  t9 := Tryz.underlying9
  a9 := Tryz.isAgg9
  z9 := Tryz.sizeOf9
  v9 := Tryz.zeroValue9
  t20 := Tryz.underlying20
  a20 := Tryz.isAgg20
  z20 := Tryz.sizeOf20
  v20 := Tryz.zeroValue20
  t21 := Tryz.underlying21
  a21 := Tryz.isAgg21
  z21 := Tryz.sizeOf21
  v21 := Tryz.zeroValue21
  t37 := Tryz.underlying67
  a37 := Tryz.isAgg67
  z37 := Tryz.sizeOf67
  v37 := Tryz.zeroValue67
  t46 := Tryz.underlying103
  a46 := Tryz.isAgg103
  z46 := Tryz.sizeOf103
  v46 := Tryz.zeroValue103
  t51 := Tryz.underlying130
  a51 := Tryz.isAgg130
  z51 := Tryz.sizeOf130
  v51 := Tryz.zeroValue130
  t53 := Tryz.underlying114
  a53 := Tryz.isAgg114
  z53 := Tryz.sizeOf114
  v53 := Tryz.zeroValue114
  t75 := Tryz.underlying100
  a75 := Tryz.isAgg100
  z75 := Tryz.sizeOf100
  v75 := Tryz.zeroValue100
  t76 := Tryz.underlying101
  a76 := Tryz.isAgg101
  z76 := Tryz.sizeOf101
  v76 := Tryz.zeroValue101
  t85 := Tryz.underlying147
  a85 := Tryz.isAgg147
  z85 := Tryz.sizeOf147
  v85 := Tryz.zeroValue147
  t127 := Tryz.underlying135
  a127 := Tryz.isAgg135
  z127 := Tryz.sizeOf135
  v127 := Tryz.zeroValue135
  t143 := Tryz.underlying171
  a143 := Tryz.isAgg171
  z143 := Tryz.sizeOf171
  v143 := Tryz.zeroValue171
  t145 := Tryz.underlying173
  a145 := Tryz.isAgg173
  z145 := Tryz.sizeOf173
  v145 := Tryz.zeroValue173
  t167 := Tryz.underlying146
  a167 := Tryz.isAgg146
  z167 := Tryz.sizeOf146
  v167 := Tryz.zeroValue146
  t168 := Tryz.underlying149
  a168 := Tryz.isAgg149
  z168 := Tryz.sizeOf149
  v168 := Tryz.zeroValue149
  t171 := Tryz.underlying113
  a171 := Tryz.isAgg113
  z171 := Tryz.sizeOf113
  v171 := Tryz.zeroValue113
  t173 := Tryz.underlying117
  a173 := Tryz.isAgg117
  z173 := Tryz.sizeOf117
  v173 := Tryz.zeroValue117
  t175 := Tryz.underlying157
  a175 := Tryz.isAgg157
  z175 := Tryz.sizeOf157
  v175 := Tryz.zeroValue157
  t210 := Tryz.underlying161
  a210 := Tryz.isAgg161
  z210 := Tryz.sizeOf161
  v210 := Tryz.zeroValue161
  t212 := Tryz.underlying137
  a212 := Tryz.isAgg137
  z212 := Tryz.sizeOf137
  v212 := Tryz.zeroValue137
  t213 := Tryz.underlying138
  a213 := Tryz.isAgg138
  z213 := Tryz.sizeOf138
  t232 := Tryz.underlying163
  a232 := Tryz.isAgg163
  z232 := Tryz.sizeOf163
  v232 := Tryz.zeroValue163
  t233 := Tryz.underlying164
  a233 := Tryz.isAgg164
  z233 := Tryz.sizeOf164
  v233 := Tryz.zeroValue164
  g15 := by kernel_rfl
  g16 := by kernel_rfl
  g17 := by kernel_rfl
  g18 := by kernel_rfl
  g19 := by kernel_rfl }
open Go.RowKit in
theorem Tryz.strconv_Atoi (s : ByteArray) (n : Int) (hl : s.size ≤ 18) (h : Lib.atoi s.data.toList = some n) (w : World) :
    Calls Tryz.prog 86 #[.string s] w fun e w' => e = .returned (.tuple #[.int .i64 n, .nilIface]) ∧ ∃ t, w' = Lib.bytesWorld w 5 t := Any.strconv_Atoi Tryz.lays172 s n hl h w
def Tryz.lays219_ren : Go.Shelf.Ren := ⟨fun | 219 => 84 | 217 => 100 | 225 => 101 | 224 => 102 | 267 => 103 | 266 => 126 | 314 => 127 | n => n, fun | 9 => 9 | 3 => 3 | 4 => 4 | 5 => 5 | 46 => 103 | 146 => 131 | 51 => 130 | n => n, fun | 1 => 2 | n => n⟩
theorem Tryz.lays219 : Go.Proofs.Lays.n219 Tryz.prog Tryz.lays219_ren := {
  mixed := by kernel_rfl
  f217 := Tryz.func100.trans (congrArg some (by kernel_rfl))
  f219 := Tryz.func84.trans (congrArg some (by kernel_rfl))
  f224 := Tryz.func102.trans (congrArg some (by kernel_rfl))
  f225 := Tryz.func101.trans (congrArg some (by kernel_rfl))
  f266 := Tryz.func126.trans (congrArg some (by kernel_rfl))
  f267 := Tryz.func103.trans (congrArg some (by kernel_rfl))
  f314 := Tryz.func127.trans (congrArg some (by kernel_rfl))
  t3 := Tryz.underlying3
  a3 := Tryz.isAgg3
  z3 := Tryz.sizeOf3
  v3 := Tryz.zeroValue3
  t4 := Tryz.underlying4
  a4 := Tryz.isAgg4
  z4 := Tryz.sizeOf4
  v4 := Tryz.zeroValue4
  t5 := Tryz.underlying5
  a5 := Tryz.isAgg5
  z5 := Tryz.sizeOf5
  v5 := Tryz.zeroValue5
  t9 := Tryz.underlying9
  a9 := Tryz.isAgg9
  z9 := Tryz.sizeOf9
  v9 := Tryz.zeroValue9
  t46 := Tryz.underlying103
  a46 := Tryz.isAgg103
  z46 := Tryz.sizeOf103
  v46 := Tryz.zeroValue103
  t51 := Tryz.underlying130
  a51 := Tryz.isAgg130
  z51 := Tryz.sizeOf130
  v51 := Tryz.zeroValue130
  t146 := Tryz.underlying131
  a146 := Tryz.isAgg131
  z146 := Tryz.sizeOf131
  v146 := Tryz.zeroValue131
  g1 := by kernel_rfl }
open Go.RowKit Go.Lib in
theorem Tryz.stringslite_Index (s sub : ByteArray) (m : Int) (w : World) (hs : s.size < 4294967281) (hm : w.cell? ⟨2, 0, none⟩ = some (.int .i64 m)) :
    Calls Tryz.prog 84 #[.string s, .string sub] w fun e w' => e = .returned (.int .i64 (Lib.index s.data.toList sub.data.toList)) ∧ w' = w := Any.stringslite_Index Tryz.lays219 s sub m w hs hm
def Tryz.lays105_ren : Go.Shelf.Ren := ⟨fun | 105 => 79 | 212 => 88 | 99 => 89 | 165 => 90 | 166 => 91 | 170 => 92 | 169 => 93 | 263 => 113 | 264 => 114 | 206 => 115 | 240 => 116 | 241 => 117 | 276 => 136 | 277 => 137 | n => n, fun | 9 => 9 | 3 => 3 | 4 => 4 | 20 => 20 | 0 => 0 | 46 => 103 | 109 => 104 | 5 => 5 | 72 => 109 | 76 => 101 | 51 => 130 | 146 => 131 | 53 => 114 | 148 => 133 | 70 => 107 | 37 => 67 | 75 => 100 | 127 => 135 | 164 => 152 | 80 => 112 | n => n, fun | n => n⟩
theorem Tryz.lays105 : Go.Proofs.Lays.n105 Tryz.prog Tryz.lays105_ren := {
  mixed := by kernel_rfl
  f99 := Tryz.func89.trans (congrArg some (by kernel_rfl))
  f105 := Tryz.func79.trans (congrArg some (by kernel_rfl))
  f165 := Tryz.func90.trans (congrArg some (by kernel_rfl))
  f166 := Tryz.func91.trans (congrArg some (by kernel_rfl))
  f169 := Tryz.func93.trans (congrArg some (by kernel_rfl))
  f170 := Tryz.func92.trans (congrArg some (by kernel_rfl))
  f206 := Tryz.func115.trans (congrArg some (by kernel_rfl))
  f212 := Tryz.func88.trans (congrArg some (by kernel_rfl))
  f240 := Tryz.func116.trans (congrArg some (by kernel_rfl))
  f241 := Tryz.func117.trans (congrArg some (by kernel_rfl))
  f263 := Tryz.func113.trans (congrArg some (by kernel_rfl))
  f264 := Tryz.func114.trans (congrArg some (by kernel_rfl))
  f276 := Tryz.func136.trans (congrArg some (by kernel_rfl))
  f277 := Tryz.func137.trans (congrArg some (by kernel_rfl))
  t0 := Tryz.underlying0
  a0 := Tryz.isAgg0
  z0 := Tryz.sizeOf0
  v0 := Tryz.zeroValue0
  t3 := Tryz.underlying3
  a3 := Tryz.isAgg3
  z3 := Tryz.sizeOf3
  v3 := Tryz.zeroValue3
  t4 := Tryz.underlying4
  a4 := Tryz.isAgg4
  z4 := Tryz.sizeOf4
  v4 := Tryz.zeroValue4
  t5 := Tryz.underlying5
  a5 := Tryz.isAgg5
  z5 := Tryz.sizeOf5
  v5 := Tryz.zeroValue5
  t9 := Tryz.underlying9
  a9 := Tryz.isAgg9
  z9 := Tryz.sizeOf9
  v9 := Tryz.zeroValue9
  t20 := Tryz.underlying20
  a20 := Tryz.isAgg20
  z20 := Tryz.sizeOf20
  v20 := Tryz.zeroValue20
  t37 := Tryz.underlying67
  a37 := Tryz.isAgg67
  z37 := Tryz.sizeOf67
  v37 := Tryz.zeroValue67
  t46 := Tryz.underlying103
  a46 := Tryz.isAgg103
  z46 := Tryz.sizeOf103
  v46 := Tryz.zeroValue103
  t51 := Tryz.underlying130
  a51 := Tryz.isAgg130
  z51 := Tryz.sizeOf130
  v51 := Tryz.zeroValue130
  t53 := Tryz.underlying114
  a53 := Tryz.isAgg114
  z53 := Tryz.sizeOf114
  v53 := Tryz.zeroValue114
  t70 := Tryz.underlying107
  a70 := Tryz.isAgg107
  z70 := Tryz.sizeOf107
  v70 := Tryz.zeroValue107
  t72 := Tryz.underlying109
  a72 := Tryz.isAgg109
  z72 := Tryz.sizeOf109
  v72 := Tryz.zeroValue109
  t75 := Tryz.underlying100
  a75 := Tryz.isAgg100
  z75 := Tryz.sizeOf100
  v75 := Tryz.zeroValue100
  t76 := Tryz.underlying101
  a76 := Tryz.isAgg101
  z76 := Tryz.sizeOf101
  v76 := Tryz.zeroValue101
  t109 := Tryz.underlying104
  a109 := Tryz.isAgg104
  z109 := Tryz.sizeOf104
  v109 := Tryz.zeroValue104
  t127 := Tryz.underlying135
  a127 := Tryz.isAgg135
  z127 := Tryz.sizeOf135
  v127 := Tryz.zeroValue135
  t146 := Tryz.underlying131
  a146 := Tryz.isAgg131
  z146 := Tryz.sizeOf131
  v146 := Tryz.zeroValue131
  t148 := Tryz.underlying133
  a148 := Tryz.isAgg133
  z148 := Tryz.sizeOf133
  v148 := Tryz.zeroValue133
  t164 := Tryz.underlying152
  a164 := Tryz.isAgg152
  z164 := Tryz.sizeOf152
  v164 := Tryz.zeroValue152 }
theorem Tryz.Builder_Extra_105 : Builder.Extra Tryz.prog Tryz.lays105_ren := {
  sizeBuilder := by kernel_rfl
  liesBuilder := by kernel_rfl
  t5 := Tryz.underlying5
  a5 := Tryz.isAgg5
  z5 := Tryz.sizeOf5
  v5 := Tryz.zeroValue5
  infoByte := by kernel_rfl
  cellsByte := by kernel_rfl
  sizeByte := by kernel_rfl
  neB5 := by decide }
open Go.RowKit Go.Lib in
theorem Tryz.strings_Repeat (s : ByteArray) (c : Nat) (w : World) (hc : c ≤ 9223372036854775807) (hlen : s.size * c ≤ 140737488355328) :
    Calls Tryz.prog 79 #[.string s, .int .i64 c] w fun e w' => e = .returned (.string ⟨(Lib.repeatL s.data.toList c).toArray⟩) ∧ Below w.heap.size w w' := Any.strings_Repeat Tryz.lays105 Tryz.Builder_Extra_105 s c w hc hlen
end Go.Proofs


namespace T06
open Go Go.Proofs Go.RowKit
set_option maxHeartbeats 4000000
set_option maxRecDepth 1000000
variable {P : Program} in
theorem next_map (w : World) (ty : TypeId) (bm since c0 : Nat) (seen : Array Nat) (es : Array MapEntry) (clock : Nat) (hb : w.heap[bm]? = some (.map es clock)) (hold : ∀ x ∈ es.toList, x.born < since) (hsc : since ≤ c0) :
    ((leftOf es seen).size = 0 ∧ (Instr.next (.pointer (some ⟨w.heap.size, 0, none⟩)) false ty).run P (w.alloc (.mapIter (some bm) since seen c0)) = .ok (.tuple #[.bool false]) (w.alloc (.mapIter (some bm) since seen c0))) ∨
    ∃ e ∈ (leftOf es seen).toList, ∃ w1 : World, (w1.Alike w ∧ w1.tape = w.tape) ∧ (Instr.next (.pointer (some ⟨w.heap.size, 0, none⟩)) false ty).run P (w.alloc (.mapIter (some bm) since seen c0)) = .ok (.tuple #[.bool true, e.key, e.val]) (w1.alloc (.mapIter (some bm) since (seen.push e.born) clock)) := by
  have hlt : bm < w.heap.size := by
    rcases Nat.lt_or_ge bm w.heap.size with h | h
    · exact h
    · simp [Array.getElem?_eq_none h] at hb
  have hb' : (w.alloc (.mapIter (some bm) since seen c0)).heap[bm]? = some (.map es clock) := by rw [heap_alloc_old w _ hlt, hb]
  simp only [Instr.next, getObj, Sem.run_bind, Sem.run, heap_alloc_new, hb', Result.andThen, next_test_false seen es since c0 hold hsc, Bool.false_eq_true, if_false]
  unfold leftOf
  have hmem : ∀ x ∈ (Array.filter (fun e => !seen.contains e.born) es).toList, x.born < since := fun x hx => hold x (by simp at hx ⊢; exact hx.1)
  generalize Array.filter (fun e => !seen.contains e.born) es = L at hmem ⊢
  have e1 : L.filter (fun x => decide (x.born < since)) = L := Array.filter_eq_self.2 (fun x hx => by simpa using hmem x (by simpa using hx))
  have e2 : L.filter (fun x => decide (x.born ≥ since)) = #[] := by
    rw [Array.filter_eq_empty_iff]
    intro x hx
    have := hmem x (by simpa using hx)
    simp
    omega
  simp only [e1, e2, Array.append_empty]
  by_cases h0 : L.size = 0
  · left
    have : L = #[] := Array.eq_empty_of_size_eq_zero h0
    subst this
    refine ⟨rfl, ?_⟩
    simp [choose, Sem.run, Question.forced]
  · right
    have hne : L.isEmpty = false := by simp [Array.isEmpty, h0]
    simp only [hne, Bool.false_eq_true, if_false, Array.empty_append, Array.size_map]
    -- what the tape says, whichever it is, is a place in L; the world: w, or w with one draw more
    have hch : ∃ (j : Nat) (w1 : World), j < L.size ∧ (w1.Alike w ∧ w1.tape = w.tape) ∧ (choose (Question.mapNext L.size)).run P (w.alloc (.mapIter (some bm) since seen c0)) = .ok j (w1.alloc (.mapIter (some bm) since seen c0)) := by
      by_cases hf : L.size ≤ 1
      · exact ⟨0, w, by omega, ⟨⟨rfl, rfl, rfl⟩, rfl⟩, by simp [choose, Sem.run, Question.forced, hf]⟩
      · exact ⟨_, w.drew, Nat.mod_lt _ (by omega), ⟨⟨rfl, rfl, rfl⟩, rfl⟩, by
          simp only [choose, Sem.run, Question.forced, decide_eq_true_eq, hf, if_false, Question.cut]
          rfl⟩
    obtain ⟨j, w1, hj, hal, hrun⟩ := hch
    refine ⟨L[j], by simp, w1, hal, ?_⟩
    have hsz : w1.heap.size = w.heap.size := by rw [hal.1.1]
    have hp : ∀ (h : Array Obj) (x y : Obj), (h.push x).setIfInBounds h.size y = h.push y := by
      intro h x y
      apply Array.toList_inj.1
      simp
    have hset : ∀ (a : Option Nat) (b : Nat) (c : Array Nat) (d : Nat) (o' : Obj), (setObj w.heap.size o').run P (w1.alloc (.mapIter a b c d)) = .ok () (w1.alloc o') := fun a b c d o' => by
      simp only [setObj, Sem.run]
      rw [← hsz, heap_alloc_new]
      show Result.ok () ({ w1.alloc (.mapIter a b c d) with heap := (w1.heap.push (.mapIter a b c d)).setIfInBounds w1.heap.size o' } : World) = _
      rw [hp]
      rfl
    simp only [hrun, Array.getElem?_map, Array.getElem?_eq_getElem hj, Option.map_some, Sem.run_bind, hset, Result.andThen]
    rfl
theorem trim_calls (s cs : ByteArray) (w : World) (hs : s.size ≤ 9223372036854775807) (hcs : cs.size < 4294967281) (ha : ∀ (j : Nat) b, cs.data.toList[j]? = some b → b.toNat < 128) :
    Calls Tryz.prog 85 #[.string s, .string cs] w fun e w' => e = .returned (.string ⟨(Lib.trimS s.data.toList cs.data.toList).toArray⟩) ∧ Below w.heap.size w w' :=
  Any.strings_Trim_laid Tryz.lays160 (by kernel_rfl) s cs w hs hcs ha
theorem atoi_calls (s : ByteArray) (n : Int) (w : World) (hs : s.size ≤ 18) (h : Lib.atoi s.data.toList = some n) :
    Calls Tryz.prog 86 #[.string s] w fun e w' => e = .returned (.tuple #[.int .i64 n, .nilIface]) ∧ Below w.heap.size w w' :=
  (Tryz.strconv_Atoi s n hs h w).mono fun e w' ⟨he, t, ht⟩ => ⟨he, by rw [ht]; exact Go.Joins.below_bytesWorld _ w 5 t (Nat.le_refl _)⟩
def digL : List UInt8 := [48, 49, 50, 51, 52, 53, 54, 55, 56, 57]
def restR (b : List UInt8) (size hi : Int) : Option (Int × Int) :=
  if (b.length : Int) ≠ size ∨ Lib.trimS b digL ≠ [] then some (0, 2)
  else (Lib.atoi b).map fun n => if n = 0 ∨ n > hi then (0, 6) else (n, 0)
def isKey (x : MapEntry) (s : ByteArray) (n : Int) : Prop := x.key = .int .i64 n ∧ x.val = .string s
theorem below_it {w w1 : World} (h : w1.Alike w ∧ w1.tape = w.tape) (o : Obj) : Below w.heap.size w (w1.alloc o) := by
  refine ⟨h.1.2.1, h.2, h.1.2.2, ?_, fun k hk => ?_⟩
  · show w.heap.size ≤ (w1.heap.push o).size
    rw [h.1.1]; simp
  · show (w1.heap.push o)[k]? = _
    rw [h.1.1, Array.getElem?_push_lt hk, Array.getElem?_eq_getElem hk]
theorem same_bytes {v s : ByteArray} (h : v.toList = s.toList) : v = s := by
  have e : ∀ x : ByteArray, x = ⟨x.data.toList.toArray⟩ := fun x => rfl
  rw [e v, e s] at h ⊢
  rw [ByteArray.toList_mk, ByteArray.toList_mk] at h
  rw [h]
theorem read_walk (bm : Nat) (es : Array MapEntry) (clock : Nat) (s : ByteArray) (size hi : Int) (w : World) (hb : w.heap[bm]? = some (.map es clock)) (hst : (∀ x ∈ es.toList, x.born < clock) ∧ (es.toList.map (·.born)).Nodup)
    (hv : ∀ x ∈ es.toList, ∃ k v, x.key = .int .i64 k ∧ x.val = .string v) (hs : s.size ≤ 9223372036854775807) (h0 : size ≤ 18) (a b : Int) (hrest : (∀ x ∈ es.toList, x.val ≠ .string s) → restR s.data.toList size hi = some (a, b)) :
    Calls Tryz.prog 73 #[.string s, .int .i64 size, .int .i64 hi, .map (some bm)] w fun e w' => Below w.heap.size w w' ∧
      ((∃ x ∈ es.toList, ∃ n, isKey x s n ∧ e = .returned (.tuple #[.int .i64 n, .int .i64 0])) ∨ ((∀ x ∈ es.toList, x.val ≠ .string s) ∧ e = .returned (.tuple #[.int .i64 a, .int .i64 b]))) := by
  have hrg := run_range_map (P := Tryz.prog) w 63 3 9 bm es clock Tryz.underlying63 hb
  have mixed : Tryz.prog.follows .mixedOrders = true := by kernel_rfl
  go_enter Tryz.func73, Tryz.ntmps73
  go_wp2
  go_loopw [] (fun w' => ∃ (w1 : World) (seen : Array Nat), (w1.Alike w ∧ w1.tape = w.tape) ∧ w' = w1.alloc (.mapIter (some bm) clock seen clock) ∧ ∀ x ∈ es.toList, seen.contains x.born = true → ¬ x.val = .string s) (fun w' => (leftOf es (w'.iterSeen w.heap.size)).size)
  case atStart => exact ⟨w, #[], ⟨⟨rfl, rfl, rfl⟩, rfl⟩, rfl, fun x _ h => by simp at h⟩
  case round =>
    obtain ⟨w1, seen, hal, rfl, hno⟩ := hrel
    have hsz : w1.heap.size = w.heap.size := by rw [hal.1.1]
    have hb1 : w1.heap[bm]? = some (.map es clock) := by rw [hal.1.1]; exact hb
    have law := next_map (P := Tryz.prog) w1 0 bm clock clock seen es clock hb1 hst.1 (Nat.le_refl _)
    rw [hsz] at law
    rcases law with ⟨h0', hrun⟩ | ⟨e, he, w2, hal2, hrun⟩
    · have hnx : ∀ ty, (Instr.next (.pointer (some ⟨w.heap.size, 0, none⟩)) false ty).run Tryz.prog (w1.alloc (.mapIter (some bm) clock seen clock)) = _ := fun _ => hrun
      have hall : ∀ x ∈ es.toList, x.val ≠ .string s := fun x hx => hno x hx (all_seen es seen h0' x hx)
      have hr := hrest hall
      have hbel := below_it hal (.mapIter (some bm) clock seen clock)
      have hsl : s.data.toList.length = s.size := by exact (Array.length_toList (xs := s.data))
      unfold restR at hr
      rw [hsl] at hr
      by_cases hlen : (s.size : Int) = size
      · subst hlen
        have hsz9 : ((⟨#[48, 49, 50, 51, 52, 53, 54, 55, 56, 57]⟩ : ByteArray)).data.toList = digL := rfl
        by_cases htr : Lib.trimS s.data.toList digL = []
        · rw [if_neg (by simp [htr])] at hr
          simp only [Option.map_eq_some_iff] at hr
          obtain ⟨n, hn, hr⟩ := hr
          go_wp2_with (first
            | (go_at_call 85; refine (trim_calls s ⟨#[48, 49, 50, 51, 52, 53, 54, 55, 56, 57]⟩ _ (by omega) (by decide) (ascii_of_all (by decide))).mono ?_; rintro e5 w5 ⟨rfl, hb5⟩; rw [hsz9, htr])
            | (go_at_call 86; refine (atoi_calls s n _ (by omega) hn).mono ?_; rintro e6 w6 ⟨rfl, hb6⟩))
          · rename_i heq
            rw [if_pos (.inl (by simpa using heq))] at hr; cases hr
            go_ret2
            exact ⟨hbel.trans ((hb5.trans (hb6.mono hb5.size)).mono hbel.size), .inr ⟨hall, rfl⟩⟩
          · rename_i h1 h2
            rw [if_pos (by simpa using h2)] at hr; cases hr
            go_ret2
            exact ⟨hbel.trans ((hb5.trans (hb6.mono hb5.size)).mono hbel.size), .inr ⟨hall, rfl⟩⟩
          · rename_i h1 h2
            rw [if_neg (by have h3 := h2.1; have h4 := h2.2; simp at h3; omega)] at hr; cases hr
            go_ret2
            exact ⟨hbel.trans ((hb5.trans (hb6.mono hb5.size)).mono hbel.size), .inr ⟨hall, rfl⟩⟩
        · rw [if_pos (.inr htr)] at hr
          cases hr
          have hq9 : (Lib.trimS s.data.toList digL).isEmpty = false := by simpa using htr
          go_wp2_with (go_at_call 85; refine (trim_calls s ⟨#[48, 49, 50, 51, 52, 53, 54, 55, 56, 57]⟩ _ (by omega) (by decide) (ascii_of_all (by decide))).mono ?_; rintro e5 w5 ⟨rfl, hb5⟩; rw [hsz9])
          · go_ret2
            exact ⟨hbel.trans (hb5.mono hbel.size), .inr ⟨hall, rfl⟩⟩
          all_goals (rename_i h8; rw [hq9] at h8; simp at h8)
      · have hq : (((s.size : Int) != size) = true) := by simpa using hlen
        rw [if_pos (.inl hlen)] at hr
        cases hr
        go_wp2
        all_goals (go_ret2; exact ⟨hbel, .inr ⟨hall, rfl⟩⟩)
    · obtain ⟨k, v, hkey, hval⟩ := hv e (mem_left he).1
      rw [hkey, hval] at hrun
      have hnx : ∀ ty, (Instr.next (.pointer (some ⟨w.heap.size, 0, none⟩)) false ty).run Tryz.prog (w1.alloc (.mapIter (some bm) clock seen clock)) = _ := fun _ => hrun
      have hsz2 : w2.heap.size = w.heap.size := by rw [hal2.1.1, hal.1.1]
      have hb2 : w2.heap[bm]? = some (.map es clock) := by rw [hal2.1.1]; exact hb1
      have hen := run_entry_map (P := Tryz.prog) w2 bm clock seen es clock e hb2 (mem_left he).1 hst.2
      rw [hsz2, hkey, hval] at hen
      have hal3 : w2.Alike w ∧ w2.tape = w.tape := ⟨⟨hal2.1.1.trans hal.1.1, hal2.1.2.1.trans hal.1.2.1, hal2.1.2.2.trans hal.1.2.2⟩, hal2.2.trans hal.2⟩
      go_wp2
      · rename_i heq
        go_ret2
        exact ⟨below_it hal3 _, .inl ⟨e, (mem_left he).1, k, ⟨hkey, by rw [hval]; exact congrArg Value.string (same_bytes (by simpa using heq))⟩, rfl⟩⟩
      · rename_i hne
        go_roundw
        case rel =>
          refine ⟨w2, seen.push e.born, hal3, rfl, fun x hx hc => ?_⟩
          rw [contains_push] at hc
          rcases Bool.or_eq_true _ _ ▸ hc with h1 | h1
          · exact hno x hx h1
          · have : x = e := born_inj hst.2 hx (mem_left he).1 (beq_iff_eq.1 h1)
            subst this
            rw [hval]
            intro h9
            cases h9; simp at hne
        case measure =>
          rw [← hsz2, World.iterSeen_alloc, hsz2, ← hsz, World.iterSeen_alloc]
          exact left_shrinks es seen e he
open Fw
def wordKeys (b : List UInt8) : List (AV × AV) → Option (List Int)
  | [] => some []
  | (.int .i64 k, .str v) :: es => (wordKeys b es).map fun l => if v = b then k :: l else l
  | _ => none
def readO (b : List UInt8) (size hi : Int) (es : List (AV × AV)) : Option (Int × Int) :=
  match wordKeys b es with
  | some [] => restR b size hi
  | some [k] => some (k, 0)
  | _ => none
def xRead (args : List AV) (s : St) : Option (AV × St) :=
  match args with
  | [.str b, .int .i64 size, .int .i64 hi, .map id] => match s.get id with
    | some (.map es) => if b.length ≤ 9223372036854775807 ∧ size ≤ 18 then (readO b size hi es).map fun p => (.tuple [.int .i64 p.1, .int .i64 p.2], s) else none
    | _ => none
  | _ => none
theorem wordKeys_R {σ : Gh} {b : List UInt8} : ∀ {es : List (AV × AV)} {l : List Int}, wordKeys b es = some l → ∀ (ms : List MapEntry), Rs σ (es.map (·.1)) (ms.map (·.key)) → Rs σ (es.map (·.2)) (ms.map (·.val)) →
    (∀ x ∈ ms, ∃ k v, x.key = .int .i64 k ∧ x.val = .string v) ∧ (∀ x ∈ ms, x.val = .string ⟨b.toArray⟩ → ∃ k ∈ l, x.key = .int .i64 k) ∧ (∀ k ∈ l, ∃ x ∈ ms, x.val = .string ⟨b.toArray⟩ ∧ x.key = .int .i64 k)
  | [], l, h, ms, h1, h2 => by
    simp only [wordKeys, Option.some.injEq] at h; subst h
    simp only [List.map_nil, Rs] at h1
    have : ms = [] := by simpa using h1
    subst this
    exact ⟨by simp, by simp, by simp⟩
  | (k, v) :: es, l, h, ms, h1, h2 => by
    cases ms with
    | nil => simp only [List.map_cons, List.map_nil, Rs] at h1; obtain ⟨_, _, h, _⟩ := h1; cases h
    | cons m ms =>
      simp only [List.map_cons, Rs, List.cons.injEq] at h1 h2
      obtain ⟨_, _, ⟨rfl, rfl⟩, hk, h3⟩ := h1
      obtain ⟨_, _, ⟨rfl, rfl⟩, hv, h4⟩ := h2
      have hh : ∃ kk vv, k = .int .i64 kk ∧ v = .str vv ∧ (wordKeys b es).map (fun l => if vv = b then kk :: l else l) = some l := by
        unfold wordKeys at h
        split at h
        · rename_i e; cases e
        · rename_i e; cases e; exact ⟨_, _, rfl, rfl, h⟩
        · cases h
      obtain ⟨kk, vv, rfl, rfl, h⟩ := hh
      obtain ⟨l', h5, h6⟩ := Option.map_eq_some_iff.1 h
      obtain ⟨a1, a2, a3⟩ := wordKeys_R h5 ms h3 h4
      simp only [R] at hk hv
      have hinj : (m.val = .string ⟨b.toArray⟩) ↔ vv = b := by
        rw [hv]
        constructor
        · intro e
          have e2 := congrArg (fun x => match x with | Value.string y => y.data.toList | _ => []) e
          simpa using e2
        · rintro rfl; rfl
      refine ⟨fun x hx => ?_, fun x hx hxv => ?_, fun k hk' => ?_⟩
      · rcases List.mem_cons.1 hx with rfl | hx
        · exact ⟨kk, _, hk, hv⟩
        · exact a1 x hx
      · rcases List.mem_cons.1 hx with rfl | hx
        · rw [if_pos (hinj.1 hxv)] at h6; subst h6
          exact ⟨kk, by simp, hk⟩
        · obtain ⟨q, hq, hq2⟩ := a2 x hx hxv
          refine ⟨q, ?_, hq2⟩
          rw [← h6]; split
          · exact List.mem_cons_of_mem _ hq
          · exact hq
      · rw [← h6] at hk'
        split at hk'
        · rename_i hvb
          rcases List.mem_cons.1 hk' with rfl | hk'
          · exact ⟨m, by simp, hinj.2 hvb, hk⟩
          · obtain ⟨x, hx, hx2⟩ := a3 k hk'; exact ⟨x, by simp [hx], hx2⟩
        · obtain ⟨x, hx, hx2⟩ := a3 k hk'; exact ⟨x, by simp [hx], hx2⟩
theorem xRead_ok {gl : Nat → Option (List AV)} : ExtOkG Tryz.prog gl 73 xRead := by
  refine ExtOkG.below Tryz.func73 (by intro h; exact absurd h (by decide)) (by kernel_rfl) fun args s v s' he => ?_
  unfold xRead at he
  split at he
  · rename_i b size hi id
    split at he
    · rename_i es hg
      split at he
      · rename_i hq
        simp only [Option.map_eq_some_iff] at he
        obtain ⟨p, hp, he⟩ := he
        cases he
        refine ⟨rfl, rfl, fun X _ σ w vs hI hR => ?_⟩
        simp only [Rs, R] at hR
        obtain ⟨_, _, rfl, rfl, _, _, rfl, rfl, _, _, rfl, rfl, _, _, rfl, rfl, rfl⟩ := hR
        obtain ⟨_, ⟨⟨ms, ck, h1, h2, h3, h4⟩, _⟩, _⟩ := hI.obj id _ hg
        have hsz : (⟨b.toArray⟩ : ByteArray).data.toList = b := by simp
        cases hw : wordKeys b es with
        | none => unfold readO at hp; rw [hw] at hp; cases hp
        | some l =>
          obtain ⟨a1, a2, a3⟩ := wordKeys_R hw ms.toList h2 h3
          unfold readO at hp
          rw [hw] at hp
          obtain ⟨pa, pb⟩ := p
          match l, hp with
          | [], hp =>
            refine (read_walk (σ.φ id) ms ck ⟨b.toArray⟩ size hi w h1 h4 a1 (by simpa [ByteArray.size] using hq.1) hq.2 pa pb (fun _ => by rw [hsz]; exact hp)).mono ?_
            rintro e w' ⟨hb, ⟨x, hx, n, ⟨hk, hv⟩, _⟩ | ⟨_, rfl⟩⟩
            · obtain ⟨k, hkl, _⟩ := a2 x hx hv; cases hkl
            · exact ⟨_, rfl, hb, by simp [R, Rs]⟩
          | [k], hp =>
            obtain ⟨x0, hx0, hv0, hk0⟩ := a3 k (by simp)
            simp only [Option.some.injEq, Prod.mk.injEq] at hp
            obtain ⟨rfl, rfl⟩ := hp
            refine (read_walk (σ.φ id) ms ck ⟨b.toArray⟩ size hi w h1 h4 a1 (by simpa [ByteArray.size] using hq.1) hq.2 0 0 (fun hn => absurd hv0 (hn x0 hx0))).mono ?_
            rintro e w' ⟨hb, ⟨x, hx, n, ⟨hk, hv⟩, rfl⟩ | ⟨hn, _⟩⟩
            · obtain ⟨k', hkl, hk'⟩ := a2 x hx hv
              simp only [List.mem_singleton] at hkl
              subst hkl
              rw [hk] at hk'; cases hk'
              exact ⟨_, rfl, hb, by simp [R, Rs]⟩
            · exact absurd hv0 (hn x0 hx0)
          | _ :: _ :: _, hp => cases hp
      · cases he
    · cases he
  · cases he
end T06


namespace T06
open Go Fw Go.Proofs Go.RowKit
set_option maxRecDepth 100000
attribute [go_sem] Int.toNat_natCast Int.cast_ofNat_Int Int.natCast_one
def pows : List Int := [1, 10, 100, 1000, 10000, 100000, 1000000, 10000000, 100000000, 1000000000, 10000000000, 100000000000, 1000000000000, 10000000000000, 100000000000000, 1000000000000000, 10000000000000000, 100000000000000000, 1000000000000000000, 10000000000000000000]
def lengths : List Int := [0, 31, 28, 31, 30, 31, 30, 31, 31, 30, 31, 30, 31]
def words : List (List UInt8) := [[], [109, 111, 110], [116, 117, 101], [119, 101, 100], [116, 104, 117], [102, 114, 105], [115, 97, 116], [115, 117, 110]]
class Mm where
  m : Int
def exts : Nat → Option (List AV → St → Option (AV × St))
  | 125 => some xCount
  | 126 => some xIndexByte
  | 84 => some xIndex
  | 79 => some xRepeat
  | 85 => some xTrim
  | 86 => some xAtoi
  | 73 => some xRead
  | _ => none
def gls (m : Int) : Nat → Option (List AV)
  | 0 => some (words.map AV.str)
  | 1 => some (lengths.map (AV.int .i64))
  | 2 => some [.int .i64 m]
  | 3 => some (pows.map (AV.int .u64))
  | _ => none
def modes : Nat → Fw.Mode
  | 71 => .frz 1
  | _ => .plain
def cx [i : Mm] : Cx := { fns := fun i => (tbl[i]?).join, gl := gls i.m, ext := exts, mode := modes }
theorem mixed : Tryz.prog.follows .mixedOrders = true := by kernel_rfl
theorem hext [i : Mm] (f : Nat) (g : List AV → St → Option (AV × St)) (h : cx.ext f = some g) : ExtOkG Tryz.prog cx.gl f g := by
  change exts f = some g at h
  unfold exts at h
  split at h <;> cases h
  · exact ExtOkG.of (xCount_ok Tryz.func125 (by kernel_rfl) (by kernel_rfl) (by kernel_rfl) (by kernel_rfl))
  · exact ExtOkG.of (xIndexByte_ok Tryz.func126 (by kernel_rfl) (by kernel_rfl) (by kernel_rfl) (by kernel_rfl))
  · exact xIndex_ok (n := 2) (m := i.m) Tryz.func84 (by intro h; exact absurd h (by decide)) (by kernel_rfl) rfl fun s sub m w h1 h2 => Tryz.stringslite_Index s sub m w h1 h2
  · exact xRepeat_ok Tryz.func79 (by intro h; exact absurd h (by decide)) (by kernel_rfl) fun s c w h1 h2 => Tryz.strings_Repeat s c w h1 h2
  · exact xTrim_ok Tryz.func85 (by intro h; exact absurd h (by decide)) (by kernel_rfl) trim_calls
  · exact xAtoi_ok Tryz.func86 (by intro h; exact absurd h (by decide)) (by kernel_rfl) atoi_calls
  · exact xRead_ok
theorem glok [i : Mm] : cx.GlOk := by
  intro g cs h
  change gls i.m g = some cs at h
  unfold gls at h
  split at h <;> cases h <;> rfl
theorem cxp [Mm] (X : Bs) (hX : X.gl = cx.gl) : CxP Tryz.prog X cx := cxp_ofG tbl_shut tbl_ok rfl hext glok mixed X hX
end T06


namespace T06
open Go Fw Go.Proofs
set_option maxRecDepth 100000
theorem drop_at {a : List UInt8} {i : Nat} (h : i < a.length) : a.drop i = a.getD i 0 :: a.drop (i + 1) := by
  rw [List.drop_eq_getElem_cons h]; simp [List.getD, h]
theorem wrap_one {i : Nat} (h : i < 9223372036854775807) : IntKind.i64.wrap ((i : Int) + 1) = ((i + 1 : Nat) : Int) := by rw [wrap_i64 (by omega) (by omega)]; rfl
theorem byte_eq {c : UInt8} {n : UInt8} (h : (c.toNat : Int) = (n.toNat : Int)) : c = n := UInt8.toNat.inj (by omega)
end T06


namespace T06
variable [Mm]
open Go Fw Go.Proofs
set_option maxRecDepth 100000
theorem findByte_spec (c : UInt8) : ∀ (l : List UInt8) (i : Nat), findByte c l i = -1 ∨ ∃ j : Nat, findByte c l i = (j : Int) ∧ i ≤ j ∧ j < i + l.length
  | [], i => .inl rfl
  | b :: l, i => by
    simp only [findByte]
    by_cases h : b = c
    · rw [if_pos h]; exact .inr ⟨i, rfl, Nat.le_refl _, by simp⟩
    · rw [if_neg h]
      rcases findByte_spec c l (i + 1) with h1 | ⟨j, h1, h2, h3⟩
      · exact .inl h1
      · exact .inr ⟨j, h1, by omega, by simp at h3 ⊢; omega⟩
theorem u8_back (c : UInt8) : ((c.toNat : Int).toNat).toUInt8 = c := by simp
theorem c84 (a b : List UInt8) (ha : a.length < 4294967281) (s : St) (K : AV → St → Prop) : CallW cx 84 [.str a, .str b] s K = K (.int .i64 (Lib.index a b)) s :=
  CallW.eq (CallW.ext (g := xIndex) rfl (by simp only [xIndex, ha, if_true, oget_some, and_self])) K
theorem find_shift (c : UInt8) : ∀ (l : List UInt8) (i : Nat), findByte c l (i + 1) = (if (findByte c l i == -1) = true then -1 else findByte c l i + 1)
  | [], i => rfl
  | b :: l, i => by
    have ih := find_shift c l (i + 1)
    by_cases h : b = c
    · have e1 : findByte c (b :: l) (i + 1) = ((i + 1 : Nat) : Int) := by simp [findByte, h]
      have e2 : findByte c (b :: l) i = (i : Int) := by simp [findByte, h]
      have : ((i : Int) == -1) = false := by simp
      simp only [e1, e2, this, Bool.false_eq_true, if_false]; omega
    · have e1 : findByte c (b :: l) (i + 1) = findByte c l (i + 1 + 1) := by simp [findByte, h]
      have e2 : findByte c (b :: l) i = findByte c l (i + 1) := by simp [findByte, h]
      simp only [e1, e2]; exact ih
theorem index_find (c : UInt8) : ∀ (l : List UInt8), Lib.index l [c] = findByte c l 0
  | [] => rfl
  | b :: l => by
    have ih := index_find c l
    have fs := find_shift c l 0
    by_cases h : b = c
    · subst h; simp [Lib.index, findByte]
    · have : List.isPrefixOf [c] (b :: l) = false := by simp [List.isPrefixOf]; exact fun e => h e.symm
      have e2 : findByte c (b :: l) 0 = findByte c l (0 + 1) := by simp [findByte, h]
      rw [e2, fs]
      simp only [Lib.index, this, Bool.false_eq_true, if_false, ih]
theorem c72 (a : List UInt8) (c : UInt8) (ha : a.length < 4294967281) (s : St) (K : AV → St → Prop) : CallW cx 72 [.str a, .str [c]] s K = K (.int .i64 (findByte c a 0)) s := by
  refine CallW.eq (CallW.fn' (fn := ir72) rfl rfl (by kernel_rfl) ir72.eq_1 ?_) K
  have k := fun st K => c84 a [c] ha st K
  rw [index_find] at k
  simp +contextual -implicitDefEqProofs (maxSteps := 4000000) only [go_sem, ↓reduceIte, Nat.reduceEqDiff, Nat.reduceAdd, Int.reduceLE, Int.reduceLT, Int.reduceEq, Int.reduceToNat, Nat.reduceMod, Nat.reduceDiv, UInt8.reduceToNat, Nat.reduceLT, k]
theorem six_any (a b : List UInt8) (ha : a.length < 4294967281) (s : St) (K : AV → St → Prop) : CallW cx 72 [.str a, .str b] s K = K (.int .i64 (Lib.index a b)) s := by
  refine CallW.eq (CallW.fn' (fn := ir72) rfl rfl (by kernel_rfl) ir72.eq_1 ?_) K
  have k := fun st K => c84 a b ha st K
  simp +contextual -implicitDefEqProofs (maxSteps := 4000000) only [go_sem, ↓reduceIte, Nat.reduceEqDiff, Nat.reduceAdd, Int.reduceLE, Int.reduceLT, Int.reduceEq, Int.reduceToNat, Nat.reduceMod, Nat.reduceDiv, UInt8.reduceToNat, Nat.reduceLT, k]
def cutS (b a : List UInt8) : List UInt8 × List UInt8 × Bool := match Lib.index a b with
  | .ofNat j => (a.take j, a.drop (j + b.length), true)
  | .negSucc _ => (a, [], false)
theorem c81 (a b : List UInt8) (ha : a.length < 4294967281) (hb : b.length ≤ 100) (s : St) (K : AV → St → Prop) : CallW cx 81 [.str a, .str b] s K = K (.tuple [.str (cutS b a).1, .str (cutS b a).2.1, .bool (cutS b a).2.2]) s := by
  refine CallW.eq (CallW.fn' (fn := ir81) rfl rfl (by kernel_rfl) ir81.eq_1 ?_) K
  have k := fun st K => c84 a b ha st K
  rcases Lib.index_spec a b with ⟨h, _⟩ | ⟨j, h, hj, _⟩
  · rw [h] at k
    simp +contextual -implicitDefEqProofs (maxSteps := 4000000) only [go_sem, ↓reduceIte, Nat.reduceEqDiff, Nat.reduceAdd, Int.reduceLE, Int.reduceLT, Int.reduceEq, Int.reduceToNat, Nat.reduceMod, Nat.reduceDiv, UInt8.reduceToNat, Nat.reduceLT, k]
    unfold cutS; rw [h]; rfl
  · rw [h] at k
    have hroom := Lib.index_room a b (by omega)
    have hx : decide (0 ≤ (j : Int)) = true := by simp
    have hw : IntKind.i64.wrap ((j : Int) + (b.length : Int)) = ((j + b.length : Nat) : Int) := by rw [wrap_i64 (by omega) (by omega)]; omega
    have e : cutS b a = (a.take j, a.drop (j + b.length), true) := by unfold cutS; rw [h]
    simp +contextual -implicitDefEqProofs (maxSteps := 4000000) only [go_sem, ↓reduceIte, Nat.reduceEqDiff, Nat.reduceAdd, Int.reduceLE, Int.reduceLT, Int.reduceEq, Int.reduceToNat, Nat.reduceMod, Nat.reduceDiv, UInt8.reduceToNat, Nat.reduceLT, k, hx, hw, e]
    omega
theorem c69 (a b : List UInt8) (ha : a.length < 4294967281) (hb : b.length ≤ 100) (s : St) (K : AV → St → Prop) : CallW cx 69 [.str a, .str b] s K = K (.tuple [.str (cutS b a).1, .str (cutS b a).2.1, .bool (cutS b a).2.2]) s := by
  refine CallW.eq (CallW.fn' (fn := ir69) rfl rfl (by kernel_rfl) ir69.eq_1 ?_) K
  have k := fun st K => c81 a b ha hb st K
  simp +contextual -implicitDefEqProofs (maxSteps := 4000000) only [go_sem, ↓reduceIte, Nat.reduceEqDiff, Nat.reduceAdd, Int.reduceLE, Int.reduceLT, Int.reduceEq, Int.reduceToNat, Nat.reduceMod, Nat.reduceDiv, UInt8.reduceToNat, Nat.reduceLT, k, List.getElem?_cons_zero, List.getElem?_cons_succ]
end T06


namespace T06
variable [Mm]
open Go Fw Go.Proofs
set_option maxRecDepth 100000
set_option maxHeartbeats 4000000
theorem c125 (a : List UInt8) (c : UInt8) (s : St) (K : AV → St → Prop) : CallW cx 125 [.str a, .int .u8 c.toNat] s K = K (.int .i64 ((a.count c : Nat) : Int)) s :=
  CallW.eq (CallW.ext (g := xCount) rfl (by simp only [xCount, oget_some, u8_back, and_self])) K
theorem c99 (a : List UInt8) (c : UInt8) (s : St) (K : AV → St → Prop) : CallW cx 99 [.str a, .str [c]] s K = K (.int .i64 ((a.count c : Nat) : Int)) s := by
  refine CallW.eq (CallW.fn' (fn := ir99) rfl rfl (by kernel_rfl) ir99.eq_1 ?_) K
  simp +contextual -implicitDefEqProofs (maxSteps := 4000000) only [go_sem, ↓reduceIte, Nat.reduceEqDiff, Nat.reduceAdd, Int.reduceLE, Int.reduceLT, Int.reduceEq, Int.reduceToNat, Nat.reduceMod, Nat.reduceDiv, UInt8.reduceToNat, Nat.reduceLT, c125]
def splitB (c : UInt8) : List UInt8 → List (List UInt8)
  | [] => [[]]
  | b :: l => if b = c then [] :: splitB c l else match splitB c l with
    | x :: xs => (b :: x) :: xs
    | [] => [[b]]
theorem splitB_ne (c : UInt8) : ∀ l, splitB c l ≠ []
  | [] => by simp [splitB]
  | b :: l => by
    simp only [splitB]
    split
    · simp
    · split <;> simp
theorem splitB_len (c : UInt8) : ∀ l, (splitB c l).length = l.count c + 1
  | [] => rfl
  | b :: l => by
    have ih := splitB_len c l
    simp only [splitB, List.count_cons]
    by_cases h : b = c
    · rw [if_pos h]; simp [h, ih]
    · rw [if_neg h]
      cases hs : splitB c l with
      | nil => exact absurd hs (splitB_ne c l)
      | cons x xs => rw [hs] at ih; simp [h] at ih ⊢; omega
theorem find_sh (c : UInt8) : ∀ (l : List UInt8) (i k : Nat), (findByte c l i = -1 ∧ findByte c l k = -1) ∨ ∃ j : Nat, findByte c l i = ((i + j : Nat) : Int) ∧ findByte c l k = ((k + j : Nat) : Int) ∧ j < l.length
  | [], i, k => .inl ⟨rfl, rfl⟩
  | b :: l, i, k => by
    simp only [findByte]
    by_cases h : b = c
    · rw [if_pos h, if_pos h]; exact .inr ⟨0, rfl, rfl, by simp⟩
    · rw [if_neg h, if_neg h]
      rcases find_sh c l (i + 1) (k + 1) with h1 | ⟨j, h1, h2, h3⟩
      · exact .inl h1
      · exact .inr ⟨j + 1, by rw [h1]; congr 1; omega, by rw [h2]; congr 1; omega, by simp; omega⟩
theorem split_none (c : UInt8) : ∀ l : List UInt8, findByte c l 0 = -1 → splitB c l = [l] ∧ l.count c = 0
  | [], _ => ⟨rfl, rfl⟩
  | b :: l, h => by
    simp only [findByte] at h
    by_cases hb : b = c
    · rw [if_pos hb] at h; omega
    · rw [if_neg hb] at h
      have h2 : findByte c l 0 = -1 := by
        rcases find_sh c l 0 (0 + 1) with h1 | ⟨j, h1, h2, _⟩
        · exact h1.1
        · omega
      obtain ⟨h3, h4⟩ := split_none c l h2
      refine ⟨?_, ?_⟩
      · simp only [splitB, h3, if_neg hb]
      · rw [List.count_cons, h4]; simp [hb]
theorem split_some (c : UInt8) : ∀ (l : List UInt8) (j : Nat), findByte c l 0 = (j : Int) → splitB c l = l.take j :: splitB c (l.drop (j + 1)) ∧ l.count c = (l.drop (j + 1)).count c + 1 ∧ j < l.length
  | [], j, h => by simp only [findByte] at h; omega
  | b :: l, j, h => by
    simp only [findByte] at h
    by_cases hb : b = c
    · rw [if_pos hb] at h
      have : j = 0 := by omega
      subst this
      simp [splitB, hb]
    · rw [if_neg hb] at h
      rcases find_sh c l 0 (0 + 1) with h1 | ⟨k, h1, h2, hk⟩
      · omega
      · have : j = k + 1 := by omega
        subst this
        obtain ⟨h3, h4, h5⟩ := split_some c l k (by rw [h1, Nat.zero_add])
        refine ⟨?_, ?_, ?_⟩
        · simp only [splitB, h3, if_neg hb, List.take_succ_cons, List.drop_succ_cons]
        · rw [List.count_cons, h4, List.drop_succ_cons]; simp [hb]
        · simp only [List.length_cons]; omega
def encS (l : List (List UInt8)) : List AV := l.map AV.str
theorem encS_length (l : List (List UInt8)) : (encS l).length = l.length := by simp [encS]
theorem patch_next (ds : List (List UInt8)) (k : Nat) (v : List UInt8) : patch (encS ds ++ List.replicate (k + 1) (.str [])) ds.length [.str v] = some (encS (ds ++ [v]) ++ List.replicate k (.str [])) := by
  unfold patch
  rw [if_pos (by simp [encS]), List.take_left' (encS_length ds), List.replicate_succ]
  have : (encS ds ++ AV.str [] :: List.replicate k (.str [])).drop (ds.length + [AV.str v].length) = List.replicate k (.str []) := by
    rw [← List.drop_drop, List.drop_left' (encS_length ds)]; rfl
  rw [this]
  simp [encS]
theorem flat_one (n : Nat) (v : AV) : (List.replicate n [v]).flatten = List.replicate n v := by
  induction n with
  | zero => rfl
  | succ n ih => rw [List.replicate_succ, List.flatten_cons, ih]; rfl
theorem l83 (c : UInt8) (N : Nat) (h : List (Nat × AObj)) (tot : Nat) (htot : tot ≤ 1000000) (Q : Sig → FE → St → Prop) : ∀ (k : Nat) (a : List UInt8) (ds : List (List UInt8)) (e : FE), a.count c = k → ds.length + k = tot → a.length ≤ 1000000 →
    e 0 = .str a → e 1 = .str [c] → e 2 = .int .i64 0 → e 3 = .int .i64 (tot : Int) → e 9 = .mslice N 0 (tot + 1) (some (tot + 1)) → e 10 = .int .i64 (ds.length : Int) →
    (∀ e' (i : List (List UInt8)) (z : List UInt8), ds ++ splitB c a = i ++ [z] → i.length = tot → e' 0 = .str z → e' 9 = .mslice N 0 (tot + 1) (some (tot + 1)) → e' 10 = .int .i64 (tot : Int) → Q (.exit 0) e' { heap := (N, .cells none (encS i ++ List.replicate 1 (.str []))) :: h, next := N + 1, low := N }) →
    WLoop cx ir83L0 e { heap := (N, .cells none (encS ds ++ List.replicate (k + 1) (.str []))) :: h, next := N + 1, low := N } Q
  | 0, a, ds, e, hk, hds, hl, h0, h1, h2, h3, h9, h10, hQ => by
    refine WLoop.rnd (c := _) ir83L0.eq_1 ?_
    have hd : decide ((ds.length : Int) < (tot : Int)) = false := decide_eq_false (by omega)
    have hno : findByte c a 0 = -1 := by
      rcases findByte_spec c a 0 with h1 | ⟨j, h1, _, _⟩
      · exact h1
      · have := (split_some c a j h1).2.1; omega
    rw [(split_none c a hno).1] at hQ
    simp +contextual -implicitDefEqProofs (maxSteps := 4000000) only [go_sem, ↓reduceIte, Nat.reduceEqDiff, Nat.reduceAdd, Int.reduceLE, Int.reduceLT, Int.reduceEq, Int.reduceToNat, Nat.reduceMod, Nat.reduceDiv, UInt8.reduceToNat, Nat.reduceLT, h3, h10, hd]
    exact hQ _ ds a rfl (by omega) h0 h9 (h10.trans (by congr 2))
  | k + 1, a, ds, e, hk, hds, hl, h0, h1, h2, h3, h9, h10, hQ => by
    refine WLoop.rnd (c := _) ir83L0.eq_1 ?_
    have hd : decide ((ds.length : Int) < (tot : Int)) = true := decide_eq_true (by omega)
    obtain ⟨j, hj⟩ : ∃ j : Nat, findByte c a 0 = (j : Int) := by
      rcases findByte_spec c a 0 with h1 | ⟨j, h1, _, _⟩
      · have := (split_none c a h1).2; omega
      · exact ⟨j, h1⟩
    obtain ⟨g1, g2, g3⟩ := split_some c a j hj
    have d2 : decide ((j : Int) < 0) = false := decide_eq_false (by omega)
    have w1 : IntKind.i64.wrap ((j : Int) + 0) = (j : Int) := by rw [Int.add_zero, wrap_i64 (by omega) (by omega)]
    have w2 := wrap_one (i := j) (by omega)
    have w3 := wrap_one (i := ds.length) (by omega)
    have b1 : (0 : Int) ≤ (j : Int) ∧ (j : Int) ≤ (a.length : Int) := by omega
    have b2 : (0 : Int) ≤ ((j + 1 : Nat) : Int) ∧ ((j + 1 : Nat) : Int) ≤ (a.length : Int) := by omega
    have b3 : (0 : Int) ≤ (ds.length : Int) ∧ (ds.length : Int) < ((tot + 1 : Nat) : Int) := by omega
    have hmin : min N N = N := Nat.min_self N
    have k6 := fun st K => c72 a c (by omega) st K
    rw [g1] at hQ
    simp +contextual -implicitDefEqProofs (maxSteps := 4000000) only [go_sem, ↓reduceIte, Nat.reduceEqDiff, Nat.reduceAdd, Int.reduceLE, Int.reduceLT, Int.reduceEq, Int.reduceToNat, Nat.reduceMod, Nat.reduceDiv, UInt8.reduceToNat, Nat.reduceLT, h0, h1, h2, h3, h9, h10, hd, k6, hj, d2, w1, w2, w3, b1, b2, b3, Nat_mul_one, patch_next, hmin]
    have ih := l83 c N h tot htot Q k (a.drop (j + 1)) (ds ++ [a.take j])
    rw [List.length_append, List.length_cons, List.length_nil] at ih
    refine ih _ (by omega) (by omega) (by rw [List.length_drop]; omega) rfl h1 h2 h3 h9 rfl ?_
    intro e' i z hi hil
    exact hQ e' i z (by rw [← hi]; simp) hil
theorem c83 (a : List UInt8) (c : UInt8) (ha : a.length ≤ 900000) (s : St) (K : AV → St → Prop) : CallW cx 83 [.str a, .str [c], .int .i64 0, .int .i64 (-1)] s K =
    K (.mslice s.next 0 (a.count c + 1) (some (a.count c + 1))) { heap := (s.next, .cells none (encS (splitB c a))) :: s.heap, next := s.next + 1, low := min s.low s.next } := by
  refine CallW.eq (CallW.fn' (fn := ir83) rfl rfl (by kernel_rfl) ir83.eq_1 ?_) K
  have hcl : a.count c ≤ a.length := List.count_le_length
  have d1 : decide ([c] = []) = false := by simp
  have w1 := wrap_one (i := a.count c) (by omega)
  have w2 := wrap_one (i := a.length) (by omega)
  have m1 : min ((a.count c + 1 : Nat) : Int) ((a.length + 1 : Nat) : Int) = ((a.count c + 1 : Nat) : Int) := by omega
  have w3 : IntKind.i64.wrap (((a.count c + 1 : Nat) : Int) - 1) = (a.count c : Int) := by rw [wrap_i64 (by omega) (by omega)]; omega
  have mk : ∀ st : St, mkslA st 16 [.str []] (.int .i64 ((a.count c + 1 : Nat) : Int)) (.int .i64 ((a.count c + 1 : Nat) : Int)) = some (.mslice st.next 0 (a.count c + 1) (some (a.count c + 1)), { heap := (st.next, .cells none (List.replicate (a.count c + 1) (.str []))) :: st.heap, next := st.next + 1, low := st.low }) := by
    intro st
    unfold mkslA
    simp only
    rw [if_pos ⟨by omega, Int.le_refl _, by rw [Int.toNat_natCast]; exact Nat.le_trans (show (a.count c + 1) * 16 ≤ 20000000 by omega) (by decide)⟩, Int.toNat_natCast, flat_one]
    rfl
  simp +contextual -implicitDefEqProofs (maxSteps := 4000000) only [go_sem, ↓reduceIte, Nat.reduceEqDiff, Nat.reduceAdd, Int.reduceLE, Int.reduceLT, Int.reduceEq, Int.reduceToNat, Nat.reduceMod, Nat.reduceDiv, UInt8.reduceToNat, Nat.reduceLT, d1, c99, w1, w2, w3, m1, mk]
  refine l83 c s.next s.heap (a.count c) (by omega) _ (a.count c) a [] _ rfl (by simp) (by omega) rfl rfl rfl rfl rfl rfl ?_
  intro e' i z hi hil h0 h9 h10
  rw [List.nil_append] at hi
  have b1 : (0 : Int) ≤ (a.count c : Int) ∧ (a.count c : Int) < ((a.count c + 1 : Nat) : Int) := by omega
  have hp : patch (encS i ++ List.replicate 1 (.str [])) (a.count c) [.str z] = some (encS (splitB c a)) := by
    rw [← hil, patch_next i 0 z, hi]; simp
  have sl : sliceA 1 (.mslice s.next 0 (a.count c + 1) (some (a.count c + 1))) none (some (.int .i64 ((a.count c + 1 : Nat) : Int))) none = some (.mslice s.next 0 (a.count c + 1) (some (a.count c + 1))) := by
    simp only [sliceA, bounds]
    rw [if_pos ⟨by omega, by omega⟩]
    simp
  have hlv : ∀ (s' : St) (K : AV → St → Prop), LeaveW s s' (.mslice s.next 0 (a.count c + 1) (some (a.count c + 1))) K = K (.mslice s.next 0 (a.count c + 1) (some (a.count c + 1))) { heap := s'.heap, next := s'.next, low := min s.low s'.low } := fun s' K => LeaveW_new rfl (by simp [AV.al, below]) K
  simp +contextual -implicitDefEqProofs (maxSteps := 4000000) only [go_sem, ↓reduceIte, Nat.reduceEqDiff, Nat.reduceAdd, Int.reduceLE, Int.reduceLT, Int.reduceEq, Int.reduceToNat, Nat.reduceMod, Nat.reduceDiv, UInt8.reduceToNat, Nat.reduceLT, h0, h9, h10, b1, Nat_mul_one, hp, w1, sl, hlv]
theorem encS_al (l : List (List UInt8)) : alAll (fun _ => false) (encS l) = true := (alAll_iff _).2 fun a ha => by
  obtain ⟨x, _, rfl⟩ := List.mem_map.1 ha; rfl
theorem c71 (a : List UInt8) (c : UInt8) (ha : a.length ≤ 900000) (s : St) (K : AV → St → Prop) : CallW cx 71 [.str a, .str [c]] s K = K (.slice (encS (splitB c a)) (splitB c a).length .no) s := by
  refine CallW.eq (CallW.frz (fn := ir71) rfl rfl rfl (by kernel_rfl) ?_) K
  rw [ir71.eq_1]
  have k := fun st K => c83 a c ha st K
  have hs : sub (encS (splitB c a)) 0 ((a.count c + 1) * 1) = some (encS (splitB c a)) := by
    have hl := splitB_len c a
    unfold sub
    rw [if_pos (by rw [encS_length, hl]; omega), List.drop_zero, List.take_of_length_le (by rw [encS_length, hl]; omega)]
  have hlv : ∀ st : St, s.next ≤ st.low → st.get s.next = some (.cells none (encS (splitB c a))) → leaveF 1 s st (.mslice s.next 0 (a.count c + 1) (some (a.count c + 1))) = some (.slice (encS (splitB c a)) (splitB c a).length .no, s) := by
    intro st hlow hg
    unfold leaveF
    simp only [AV.frzD, Nat.le_refl, if_true, hg, hs, encS_al, splitB_len]
    rw [if_pos ⟨hlow, by simp [AV.al, Own.al, alAll_false (encS_al _)]⟩]
  simp +contextual -implicitDefEqProofs (maxSteps := 4000000) only [go_sem, ↓reduceIte, Nat.reduceEqDiff, Nat.reduceAdd, Int.reduceLE, Int.reduceLT, Int.reduceEq, Int.reduceToNat, Nat.reduceMod, Nat.reduceDiv, UInt8.reduceToNat, Nat.reduceLT, k]
  rw [hlv _ (by simp) (by simp [St.get, Fw.look])]
  exact ⟨rfl, rfl⟩
end T06


namespace T06
variable [Mm]
open Go Fw Go.Proofs
set_option maxRecDepth 100000
theorem wrap_u64 (n : Int) : IntKind.u64.wrap n = n % 18446744073709551616 := rfl
theorem wrapN (n : Nat) : IntKind.u64.wrap (n : Int) = ((n % 18446744073709551616 : Nat) : Int) := by rw [wrap_u64]; omega
theorem wrap_u8 (n : Int) : IntKind.u8.wrap n = n % 256 := rfl
theorem shr_c (x : Nat) (c : Nat) (hc : c ≤ 64) : evBin .shr (.int .u64 (x : Int)) (.int .u64 (c : Int)) = some (.int .u64 ((x / 2 ^ c : Nat) : Int)) := by
  rw [bin_shr, if_neg (by omega)]
  congr 2
  have h : min (c : Int).toNat IntKind.u64.bits = c := by rw [Int.toNat_natCast]; exact Nat.min_eq_left hc
  rw [h, Int.fdiv_eq_ediv_of_nonneg _ (Int.pow_nonneg (by decide))]
  norm_cast
theorem shr_32 (x : Nat) : evBin .shr (.int .u64 (x : Int)) (.int .u64 32) = some (.int .u64 ((x / 4294967296 : Nat) : Int)) := shr_c x 32 (by decide)
theorem shr_16 (x : Nat) : evBin .shr (.int .u64 (x : Int)) (.int .u64 16) = some (.int .u64 ((x / 65536 : Nat) : Int)) := shr_c x 16 (by decide)
theorem shr_8 (x : Nat) : evBin .shr (.int .u64 (x : Int)) (.int .u64 8) = some (.int .u64 ((x / 256 : Nat) : Int)) := shr_c x 8 (by decide)
def lenU (x : Nat) : Nat := if x = 0 then 0 else x.log2 + 1
theorem lenU_lt (x : Nat) : x < 2 ^ lenU x := by
  unfold lenU; split
  · subst x; decide
  · rename_i h; exact (Nat.log2_lt h).1 (Nat.lt_succ_self _)
theorem lenU_le (x : Nat) (h : 0 < x) : 2 ^ (lenU x - 1) ≤ x := by
  unfold lenU; rw [if_neg (by omega)]; exact (Nat.le_log2 (by omega)).1 (Nat.le_refl _)
def len8 : List UInt8 := [0, 1, 2, 2, 3, 3, 3, 3, 4, 4, 4, 4, 4, 4, 4, 4, 5, 5, 5, 5, 5, 5, 5, 5, 5, 5, 5, 5, 5, 5, 5, 5, 6, 6, 6, 6, 6, 6, 6, 6, 6, 6, 6, 6, 6, 6, 6, 6, 6, 6, 6, 6, 6, 6, 6, 6, 6, 6, 6, 6, 6, 6, 6, 6, 7, 7, 7, 7, 7, 7, 7, 7, 7, 7, 7, 7, 7, 7, 7, 7, 7, 7, 7, 7, 7, 7, 7, 7, 7, 7, 7, 7, 7, 7, 7, 7, 7, 7, 7, 7, 7, 7, 7, 7, 7, 7, 7, 7, 7, 7, 7, 7, 7, 7, 7, 7, 7, 7, 7, 7, 7, 7, 7, 7, 7, 7, 7, 7, 8, 8, 8, 8, 8, 8, 8, 8, 8, 8, 8, 8, 8, 8, 8, 8, 8, 8, 8, 8, 8, 8, 8, 8, 8, 8, 8, 8, 8, 8, 8, 8, 8, 8, 8, 8, 8, 8, 8, 8, 8, 8, 8, 8, 8, 8, 8, 8, 8, 8, 8, 8, 8, 8, 8, 8, 8, 8, 8, 8, 8, 8, 8, 8, 8, 8, 8, 8, 8, 8, 8, 8, 8, 8, 8, 8, 8, 8, 8, 8, 8, 8, 8, 8, 8, 8, 8, 8, 8, 8, 8, 8, 8, 8, 8, 8, 8, 8, 8, 8, 8, 8, 8, 8, 8, 8, 8, 8, 8, 8, 8, 8, 8, 8, 8, 8, 8, 8, 8, 8, 8, 8, 8, 8, 8, 8, 8, 8]
theorem len8_get : ∀ x : Fin 256, (len8.getD x.val 0).toNat = lenU x.val := by decide +kernel
theorem lenU_div (x k : Nat) (h : 2 ^ k ≤ x) : lenU x = lenU (x / 2 ^ k) + k := by
  have h1 : 0 < x := Nat.lt_of_lt_of_le (Nat.two_pow_pos k) h
  have h2 : 0 < x / 2 ^ k := Nat.div_pos h (Nat.two_pow_pos k)
  unfold lenU
  rw [if_neg (by omega), if_neg (by omega)]
  have a1 : 2 ^ (x / 2 ^ k).log2 ≤ x / 2 ^ k := (Nat.le_log2 (by omega)).1 (Nat.le_refl _)
  have a2 : x / 2 ^ k < 2 ^ ((x / 2 ^ k).log2 + 1) := (Nat.log2_lt (by omega)).1 (Nat.lt_succ_self _)
  generalize (x / 2 ^ k).log2 = m at *
  rw [Nat.le_div_iff_mul_le (Nat.two_pow_pos k), ← Nat.pow_add] at a1
  rw [Nat.div_lt_iff_lt_mul (Nat.two_pow_pos k), ← Nat.pow_add] at a2
  have b1 := (Nat.le_log2 (show x ≠ 0 by omega)).2 a1
  have b2 := (Nat.log2_lt (show x ≠ 0 by omega)).2 a2
  omega
theorem len_256 : ∀ x : Fin 256, lenU x.val ≤ 8 := by decide +kernel
theorem fin64 (c : Int) (z : Nat) (hc : 0 ≤ c) (hc2 : c ≤ 64) (hz : z < 256) : IntKind.i64.wrap (c + IntKind.i64.wrap (lenU z : Int)) = c + lenU z := by
  have := len_256 ⟨z, hz⟩
  simp only at this
  rw [wrap_i64 (x := (lenU z : Int)) (by omega) (by omega), wrap_i64 (by omega) (by omega)]
theorem wrap8 (z : Nat) (h : z < 256) : IntKind.u8.wrap (z : Int) = (z : Int) := by rw [wrap_u8]; omega
theorem c119 (x : Nat) (hx : x < 18446744073709551616) (s : St) (K : AV → St → Prop) : CallW cx 119 [.int .u64 (x : Int)] s K = K (.int .i64 (lenU x : Int)) s := by
  refine CallW.eq (CallW.fn' (fn := ir119) rfl rfl (by kernel_rfl) ir119.eq_1 ?_) K
  have hg : ∀ y : Nat, y < 256 → ((len8.getD y 0).toNat : Int) = (lenU y : Int) := fun y hy => by rw [len8_get ⟨y, hy⟩]
  simp only [len8] at hg
  by_cases h1 : 4294967296 ≤ x
  · have d1 : decide ((4294967296 : Int) ≤ (x : Int)) = true := by simp; omega
    have e1 := lenU_div x 32 (by omega)
    simp only [Nat.reducePow] at e1
    generalize hy : x / 4294967296 = y at *
    by_cases h16ya : 65536 ≤ y
    · have d16 : decide ((65536 : Int) ≤ (y : Int)) = true := by simp; omega
      have e16 := lenU_div y 16 (by omega)
      simp only [Nat.reducePow] at e16
      generalize h16y : y / 65536 = ya at *
      by_cases h8yab : 256 ≤ ya
      · have d8 : decide ((256 : Int) ≤ (ya : Int)) = true := by simp; omega
        have e8 := lenU_div ya 8 (by omega)
        simp only [Nat.reducePow] at e8
        generalize h8y : ya / 256 = yab at *
        simp +contextual -implicitDefEqProofs (maxSteps := 4000000) only [go_sem, ↓reduceIte, Nat.reduceEqDiff, Nat.reduceAdd, Int.reduceLE, Int.reduceLT, Int.reduceEq, Int.reduceToNat, Nat.reduceMod, Nat.reduceDiv, UInt8.reduceToNat, Nat.reduceLT, shr_32, shr_16, shr_8, wrap8 yab (by omega), d1, hy, d16, h16y, d8, h8y]
        refine ⟨by omega, by omega, ?_⟩
        rw [hg yab (by omega)]
        exact congrArg (AV.int .i64) ((fin64 56 yab (by omega) (by omega) (by omega)).trans (by omega))
      · have d8 : decide ((256 : Int) ≤ (ya : Int)) = false := by simp; omega
        simp +contextual -implicitDefEqProofs (maxSteps := 4000000) only [go_sem, ↓reduceIte, Nat.reduceEqDiff, Nat.reduceAdd, Int.reduceLE, Int.reduceLT, Int.reduceEq, Int.reduceToNat, Nat.reduceMod, Nat.reduceDiv, UInt8.reduceToNat, Nat.reduceLT, shr_32, shr_16, shr_8, wrap8 ya (by omega), d1, hy, d16, h16y, d8]
        refine ⟨by omega, by omega, ?_⟩
        rw [hg ya (by omega)]
        exact congrArg (AV.int .i64) ((fin64 48 ya (by omega) (by omega) (by omega)).trans (by omega))
    · have d16 : decide ((65536 : Int) ≤ (y : Int)) = false := by simp; omega
      by_cases h8yc : 256 ≤ y
      · have d8 : decide ((256 : Int) ≤ (y : Int)) = true := by simp; omega
        have e8 := lenU_div y 8 (by omega)
        simp only [Nat.reducePow] at e8
        generalize h8y : y / 256 = yc at *
        simp +contextual -implicitDefEqProofs (maxSteps := 4000000) only [go_sem, ↓reduceIte, Nat.reduceEqDiff, Nat.reduceAdd, Int.reduceLE, Int.reduceLT, Int.reduceEq, Int.reduceToNat, Nat.reduceMod, Nat.reduceDiv, UInt8.reduceToNat, Nat.reduceLT, shr_32, shr_16, shr_8, wrap8 yc (by omega), d1, hy, d16, d8, h8y]
        refine ⟨by omega, by omega, ?_⟩
        rw [hg yc (by omega)]
        exact congrArg (AV.int .i64) ((fin64 40 yc (by omega) (by omega) (by omega)).trans (by omega))
      · have d8 : decide ((256 : Int) ≤ (y : Int)) = false := by simp; omega
        simp +contextual -implicitDefEqProofs (maxSteps := 4000000) only [go_sem, ↓reduceIte, Nat.reduceEqDiff, Nat.reduceAdd, Int.reduceLE, Int.reduceLT, Int.reduceEq, Int.reduceToNat, Nat.reduceMod, Nat.reduceDiv, UInt8.reduceToNat, Nat.reduceLT, shr_32, shr_16, shr_8, wrap8 y (by omega), d1, hy, d16, d8]
        refine ⟨by omega, by omega, ?_⟩
        rw [hg y (by omega)]
        exact congrArg (AV.int .i64) ((fin64 32 y (by omega) (by omega) (by omega)).trans (by omega))
  · have d1 : decide ((4294967296 : Int) ≤ (x : Int)) = false := by simp; omega
    by_cases h16xa : 65536 ≤ x
    · have d16 : decide ((65536 : Int) ≤ (x : Int)) = true := by simp; omega
      have e16 := lenU_div x 16 (by omega)
      simp only [Nat.reducePow] at e16
      generalize h16y : x / 65536 = xa at *
      by_cases h8xab : 256 ≤ xa
      · have d8 : decide ((256 : Int) ≤ (xa : Int)) = true := by simp; omega
        have e8 := lenU_div xa 8 (by omega)
        simp only [Nat.reducePow] at e8
        generalize h8y : xa / 256 = xab at *
        simp +contextual -implicitDefEqProofs (maxSteps := 4000000) only [go_sem, ↓reduceIte, Nat.reduceEqDiff, Nat.reduceAdd, Int.reduceLE, Int.reduceLT, Int.reduceEq, Int.reduceToNat, Nat.reduceMod, Nat.reduceDiv, UInt8.reduceToNat, Nat.reduceLT, shr_32, shr_16, shr_8, wrap8 xab (by omega), d1, d16, h16y, d8, h8y]
        refine ⟨by omega, by omega, ?_⟩
        rw [hg xab (by omega)]
        exact congrArg (AV.int .i64) ((fin64 24 xab (by omega) (by omega) (by omega)).trans (by omega))
      · have d8 : decide ((256 : Int) ≤ (xa : Int)) = false := by simp; omega
        simp +contextual -implicitDefEqProofs (maxSteps := 4000000) only [go_sem, ↓reduceIte, Nat.reduceEqDiff, Nat.reduceAdd, Int.reduceLE, Int.reduceLT, Int.reduceEq, Int.reduceToNat, Nat.reduceMod, Nat.reduceDiv, UInt8.reduceToNat, Nat.reduceLT, shr_32, shr_16, shr_8, wrap8 xa (by omega), d1, d16, h16y, d8]
        refine ⟨by omega, by omega, ?_⟩
        rw [hg xa (by omega)]
        exact congrArg (AV.int .i64) ((fin64 16 xa (by omega) (by omega) (by omega)).trans (by omega))
    · have d16 : decide ((65536 : Int) ≤ (x : Int)) = false := by simp; omega
      by_cases h8xc : 256 ≤ x
      · have d8 : decide ((256 : Int) ≤ (x : Int)) = true := by simp; omega
        have e8 := lenU_div x 8 (by omega)
        simp only [Nat.reducePow] at e8
        generalize h8y : x / 256 = xc at *
        simp +contextual -implicitDefEqProofs (maxSteps := 4000000) only [go_sem, ↓reduceIte, Nat.reduceEqDiff, Nat.reduceAdd, Int.reduceLE, Int.reduceLT, Int.reduceEq, Int.reduceToNat, Nat.reduceMod, Nat.reduceDiv, UInt8.reduceToNat, Nat.reduceLT, shr_32, shr_16, shr_8, wrap8 xc (by omega), d1, d16, d8, h8y]
        refine ⟨by omega, by omega, ?_⟩
        rw [hg xc (by omega)]
        exact congrArg (AV.int .i64) ((fin64 8 xc (by omega) (by omega) (by omega)).trans (by omega))
      · have d8 : decide ((256 : Int) ≤ (x : Int)) = false := by simp; omega
        simp +contextual -implicitDefEqProofs (maxSteps := 4000000) only [go_sem, ↓reduceIte, Nat.reduceEqDiff, Nat.reduceAdd, Int.reduceLE, Int.reduceLT, Int.reduceEq, Int.reduceToNat, Nat.reduceMod, Nat.reduceDiv, UInt8.reduceToNat, Nat.reduceLT, shr_32, shr_16, shr_8, wrap8 x (by omega), d1, d16, d8]
        refine ⟨by omega, by omega, ?_⟩
        rw [hg x (by omega)]
        exact congrArg (AV.int .i64) ((fin64 0 x (by omega) (by omega) (by omega)).trans (by omega))
end T06


namespace T06
variable [Mm]
open Go Fw Go.Proofs
set_option maxRecDepth 100000
theorem c118 (n : Nat) (h : n ≤ 64) (s : St) (K : AV → St → Prop) : CallW cx 118 [.int .i64 (n : Int)] s K = K (.int .i64 ((n * 78913 / 262144 : Nat) : Int)) s := by
  refine CallW.eq (CallW.fn' (fn := ir118) rfl rfl (by kernel_rfl) ir118.eq_1 ?_) K
  have e1 : IntKind.i64.wrap ((n : Int) * 78913) = ((n * 78913 : Nat) : Int) := by rw [wrap_i64 (by omega) (by omega)]; omega
  have e2 : evBin .shr (.int .i64 ((n * 78913 : Nat) : Int)) (.int .u64 18) = some (.int .i64 ((n * 78913 / 262144 : Nat) : Int)) := by
    rw [bin_shr, if_neg (by omega)]
    congr 2
    have h : min (18 : Int).toNat IntKind.i64.bits = 18 := rfl
    rw [h, Int.fdiv_eq_ediv_of_nonneg _ (Int.pow_nonneg (by decide))]
    norm_cast
  simp +contextual -implicitDefEqProofs (maxSteps := 4000000) only [go_sem, ↓reduceIte, Nat.reduceEqDiff, Nat.reduceAdd, Int.reduceLE, Int.reduceLT, Int.reduceEq, Int.reduceToNat, Nat.reduceMod, Nat.reduceDiv, UInt8.reduceToNat, Nat.reduceLT, e1, e2]
theorem c120 (b : Bool) (s : St) (K : AV → St → Prop) : CallW cx 120 [.bool b] s K = K (.int .i64 (if b then 1 else 0)) s := by
  refine CallW.eq (CallW.fn' (fn := ir120) rfl rfl (by kernel_rfl) ir120.eq_1 ?_) K
  cases b
  · simp +contextual -implicitDefEqProofs (maxSteps := 4000000) only [go_sem, ↓reduceIte, Nat.reduceEqDiff, Nat.reduceAdd, Int.reduceLE, Int.reduceLT, Int.reduceEq, Int.reduceToNat, Nat.reduceMod, Nat.reduceDiv, UInt8.reduceToNat, Nat.reduceLT]
  · simp +contextual -implicitDefEqProofs (maxSteps := 4000000) only [go_sem, ↓reduceIte, Nat.reduceEqDiff, Nat.reduceAdd, Int.reduceLE, Int.reduceLT, Int.reduceEq, Int.reduceToNat, Nat.reduceMod, Nat.reduceDiv, UInt8.reduceToNat, Nat.reduceLT]
theorem leNN (a b : Nat) : ((a : Int) ≤ (b : Int)) = (a ≤ b) := by apply propext; omega
def pow10s : List Nat := [1, 10, 100, 1000, 10000, 100000, 1000000, 10000000, 100000000, 1000000000, 10000000000, 100000000000, 1000000000000, 10000000000000, 100000000000000, 1000000000000000, 10000000000000000, 100000000000000000, 1000000000000000000, 10000000000000000000]
theorem pow10s_get : ∀ i : Fin 20, pow10s.getD i.val 0 = 10 ^ i.val := by decide +kernel
theorem log_facts : ∀ l : Fin 65, l.val * 78913 / 262144 ≤ 19 ∧ (1 ≤ l.val → 10 ^ (l.val * 78913 / 262144) ≤ 10 * 2 ^ (l.val - 1)) ∧ 2 ^ l.val ≤ 10 ^ (l.val * 78913 / 262144 + 1) := by decide +kernel
def nd (x : Nat) : Nat := lenU x * 78913 / 262144 + (if 10 ^ (lenU x * 78913 / 262144) ≤ x then 1 else 0)
theorem lenU_64 {x : Nat} (hx : x < 18446744073709551616) : lenU x ≤ 64 := by
  by_cases h : 0 < x
  · have h1 := lenU_le x h
    have h2 : lenU x - 1 < 64 := (Nat.pow_lt_pow_iff_right (by decide : 1 < 2)).1 (Nat.lt_of_le_of_lt h1 (by simpa using hx))
    omega
  · have : x = 0 := by omega
    subst this; decide
theorem nd_facts {x : Nat} (hx : x < 18446744073709551616) (h0 : 0 < x) : 1 ≤ nd x ∧ nd x ≤ 20 ∧ x < 10 ^ nd x ∧ 10 ^ (nd x - 1) ≤ x := by
  have h1 := lenU_le x h0
  have h2 := lenU_lt x
  have h3 := lenU_64 hx
  have h4 : 1 ≤ lenU x := by unfold lenU; split <;> omega
  obtain ⟨f1, f2, f3⟩ := log_facts ⟨lenU x, by omega⟩
  simp only at f1 f2 f3
  have f2 := f2 h4
  unfold nd
  generalize lenU x * 78913 / 262144 = t at *
  generalize lenU x = l at *
  by_cases h : 10 ^ t ≤ x
  · rw [if_pos h]
    exact ⟨by omega, by omega, by omega, by simpa using h⟩
  · rw [if_neg h]
    have ht : t ≠ 0 := by intro e; subst e; simp at h; omega
    obtain ⟨u, rfl⟩ : ∃ u, t = u + 1 := ⟨t - 1, by omega⟩
    rw [Nat.pow_succ] at f2
    exact ⟨by omega, by omega, by simpa using h, by simp only [Nat.add_sub_cancel, Nat.add_zero]; omega⟩
theorem c95 (x : Nat) (hx : x < 18446744073709551616) (s : St) (K : AV → St → Prop) : CallW cx 95 [.int .u64 (x : Int)] s K = K (.int .i64 (nd x : Int)) s := by
  refine CallW.eq (CallW.fn' (fn := ir95) rfl rfl (by kernel_rfl) ir95.eq_1 ?_) K
  have h3 := lenU_64 hx
  have k1 := fun st K => c119 x hx st K
  have k2 := fun st K => c118 (lenU x) h3 st K
  obtain ⟨f1, f2, f3⟩ := log_facts ⟨lenU x, by omega⟩
  simp only at f1
  unfold nd
  generalize lenU x * 78913 / 262144 = t at *
  have hgl : cx.gl 3 = some (pows.map (AV.int .u64)) := rfl
  have hsub : sub (pows.map (AV.int .u64)) t 1 = some [.int .u64 ((10 ^ t : Nat) : Int)] := by
    have : ∀ i : Fin 20, sub (pows.map (AV.int .u64)) i.val 1 = some [.int .u64 ((pow10s.getD i.val 0 : Nat) : Int)] := by
      intro i
      have hl : ∀ i : Fin 20, (pows.map (AV.int .u64)).getD i.val AV.undef = .int .u64 ((pow10s.getD i.val 0 : Nat) : Int) := by
        intro i; match i with
        | ⟨0, _⟩ => rfl | ⟨1, _⟩ => rfl | ⟨2, _⟩ => rfl | ⟨3, _⟩ => rfl | ⟨4, _⟩ => rfl | ⟨5, _⟩ => rfl | ⟨6, _⟩ => rfl | ⟨7, _⟩ => rfl | ⟨8, _⟩ => rfl | ⟨9, _⟩ => rfl
        | ⟨10, _⟩ => rfl | ⟨11, _⟩ => rfl | ⟨12, _⟩ => rfl | ⟨13, _⟩ => rfl | ⟨14, _⟩ => rfl | ⟨15, _⟩ => rfl | ⟨16, _⟩ => rfl | ⟨17, _⟩ => rfl | ⟨18, _⟩ => rfl | ⟨19, _⟩ => rfl
        | ⟨n + 20, h⟩ => exact absurd h (by omega)
      rw [sub_one (show i.val < (pows.map (AV.int .u64)).length from i.isLt), hl]
    have := this ⟨t, by omega⟩
    rw [this, pow10s_get ⟨t, by omega⟩]
  have b1 : (0 : Int) ≤ (t : Int) := by omega
  have b2 : (t : Int) < 20 := by omega
  by_cases h : 10 ^ t ≤ x
  · have d1 : decide (10 ^ t ≤ x) = true := by simpa using h
    have w1 : IntKind.i64.wrap ((t : Int) + 1) = ((t + 1 : Nat) : Int) := by rw [wrap_i64 (by omega) (by omega)]; rfl
    rw [if_pos h]
    simp +contextual -implicitDefEqProofs (maxSteps := 4000000) only [go_sem, ↓reduceIte, Nat.reduceEqDiff, Nat.reduceAdd, Int.reduceLE, Int.reduceLT, Int.reduceEq, Int.reduceToNat, Nat.reduceMod, Nat.reduceDiv, UInt8.reduceToNat, Nat.reduceLT, k1, k2, hgl, iaddrA, b1, b2, Nat_mul_one, hsub, c120, leNN, d1, w1]
  · have d1 : decide (10 ^ t ≤ x) = false := by simpa using h
    have w1 : IntKind.i64.wrap ((t : Int) + 0) = ((t : Nat) : Int) := by rw [wrap_i64 (by omega) (by omega)]; omega
    rw [if_neg h]
    simp +contextual -implicitDefEqProofs (maxSteps := 4000000) only [go_sem, ↓reduceIte, Nat.reduceEqDiff, Nat.reduceAdd, Int.reduceLE, Int.reduceLT, Int.reduceEq, Int.reduceToNat, Nat.reduceMod, Nat.reduceDiv, UInt8.reduceToNat, Nat.reduceLT, k1, k2, hgl, iaddrA, b1, b2, Nat_mul_one, hsub, c120, leNN, d1, w1]
end T06


namespace T06
variable [Mm]
open Go Fw Go.Proofs
set_option maxRecDepth 100000
set_option maxHeartbeats 4000000
def digC (x k : Nat) : AV := .int .u8 ((48 + x / 10 ^ k % 10 : Nat) : Int)
structure NB (x n : Nat) (cs0 : List AV) (i u : Nat) (cs : List AV) : Prop where
  len : cs.length = cs0.length
  low : ∀ j, i ≤ j → j < n → cs[j]? = some (digC x (n - 1 - j))
  high : ∀ j, n ≤ j → cs[j]? = cs0[j]?
  val : u = x / 10 ^ (n - i)
theorem NB.start {x n : Nat} {cs0 : List AV} : NB x n cs0 n x cs0 := ⟨rfl, fun j h1 h2 => absurd h1 (by omega), fun _ _ => rfl, by simp⟩
theorem NB.one {x n i u : Nat} {cs0 cs : List AV} (h : NB x n cs0 (i + 1) u cs) (hn : i + 1 ≤ n) (hl : n ≤ cs0.length) {v : AV} (hv : v = .int .u8 ((48 + u % 10 : Nat) : Int)) : NB x n cs0 i (u / 10) (cs.set i v) := by
  refine ⟨by rw [List.length_set]; exact h.len, fun j h1 h2 => ?_, fun j h1 => ?_, ?_⟩
  · by_cases hj : j = i
    · subst hj
      rw [List.getElem?_set_self (by rw [h.len]; omega), hv, h.val]
      unfold digC
      rw [show n - (j + 1) = n - 1 - j by omega]
    · rw [List.getElem?_set_ne (by omega)]
      exact h.low j (by omega) h2
  · rw [List.getElem?_set_ne (by omega)]; exact h.high j h1
  · rw [h.val, Nat.div_div_eq_div_mul, show n - i = (n - (i + 1)) + 1 by omega, Nat.pow_succ]
theorem NB.two {x n i u : Nat} {cs0 cs : List AV} (h : NB x n cs0 (i + 2) u cs) (hn : i + 2 ≤ n) (hl : n ≤ cs0.length) {v w : AV} (hv : v = .int .u8 ((48 + u % 10 : Nat) : Int)) (hw : w = .int .u8 ((48 + u / 10 % 10 : Nat) : Int)) : NB x n cs0 i (u / 100) ((cs.set (i + 1) v).set i w) := by
  have h1 := (NB.one (i := i + 1) h (by omega) hl hv).one (by omega) hl hw
  rw [Nat.div_div_eq_div_mul] at h1; exact h1
theorem NB.done {x n u : Nat} {cs0 cs : List AV} (h : NB x n cs0 0 u cs) (hl : n ≤ cs0.length) : cs = (List.range n).map (fun j => digC x (n - 1 - j)) ++ cs0.drop n := by
  apply List.ext_getElem?
  intro j
  by_cases hj : j < n
  · rw [h.low j (by omega) hj, List.getElem?_append_left (by simpa using hj), List.getElem?_map, List.getElem?_range hj]; rfl
  · rw [h.high j (by omega), List.getElem?_append_right (by simp; omega), List.getElem?_drop]
    congr 1; simp; omega
theorem patch_set {cs : List AV} {off : Nat} {v : AV} (h : off < cs.length) : patch cs off [v] = some (cs.set off v) := by
  unfold patch
  rw [if_pos (by simp; omega), List.set_eq_take_append_cons_drop, if_pos h]; simp
theorem patch_app {pre ds : List AV} {o j : Nat} {v : AV} (ho : pre.length = o) (h : j < ds.length) : patch (pre ++ ds) (o + j) [v] = some (pre ++ ds.set j v) := by
  rw [patch_set (by rw [List.length_append]; omega), List.set_append_right _ _ (by omega)]
  congr 3; omega
theorem put_put (i : Nat) (a b : AObj) : ∀ h : List (Nat × AObj), put i a (put i b h) = put i a h
  | [] => rfl
  | (j, p) :: h => by
    simp only [put]
    by_cases hj : j = i
    · simp only [hj, if_true, put]
    · simp only [hj, if_false, put, put_put i a b h]
theorem look_put {i : Nat} {a b : AObj} : ∀ {h : List (Nat × AObj)}, Fw.look i h = some a → Fw.look i (put i b h) = some b
  | [], h => by simp [Fw.look] at h
  | (j, p) :: h, hh => by
    simp only [Fw.look, put] at hh ⊢
    by_cases hj : j = i
    · simp only [hj, if_true, Fw.look]
    · simp only [hj, if_false, Fw.look] at hh ⊢; exact look_put hh
theorem put_same {i : Nat} {a : AObj} : ∀ {h : List (Nat × AObj)}, Fw.look i h = some a → put i a h = h
  | [], _ => rfl
  | (j, p) :: h, hh => by
    simp only [Fw.look, put] at hh ⊢
    by_cases hj : j = i
    · rw [if_pos hj, Option.some.injEq] at hh
      rw [if_pos hj, hh]
    · rw [if_neg hj] at hh
      rw [if_neg hj, put_same hh]
def smalls : List UInt8 := [48, 48, 48, 49, 48, 50, 48, 51, 48, 52, 48, 53, 48, 54, 48, 55, 48, 56, 48, 57, 49, 48, 49, 49, 49, 50, 49, 51, 49, 52, 49, 53, 49, 54, 49, 55, 49, 56, 49, 57, 50, 48, 50, 49, 50, 50, 50, 51, 50, 52, 50, 53, 50, 54, 50, 55, 50, 56, 50, 57, 51, 48, 51, 49, 51, 50, 51, 51, 51, 52, 51, 53, 51, 54, 51, 55, 51, 56, 51, 57, 52, 48, 52, 49, 52, 50, 52, 51, 52, 52, 52, 53, 52, 54, 52, 55, 52, 56, 52, 57, 53, 48, 53, 49, 53, 50, 53, 51, 53, 52, 53, 53, 53, 54, 53, 55, 53, 56, 53, 57, 54, 48, 54, 49, 54, 50, 54, 51, 54, 52, 54, 53, 54, 54, 54, 55, 54, 56, 54, 57, 55, 48, 55, 49, 55, 50, 55, 51, 55, 52, 55, 53, 55, 54, 55, 55, 55, 56, 55, 57, 56, 48, 56, 49, 56, 50, 56, 51, 56, 52, 56, 53, 56, 54, 56, 55, 56, 56, 56, 57, 57, 48, 57, 49, 57, 50, 57, 51, 57, 52, 57, 53, 57, 54, 57, 55, 57, 56, 57, 57]
def smallsT : List UInt8 := [48, 48, 49, 48, 50, 48, 51, 48, 52, 48, 53, 48, 54, 48, 55, 48, 56, 48, 57, 49, 48, 49, 49, 49, 50, 49, 51, 49, 52, 49, 53, 49, 54, 49, 55, 49, 56, 49, 57, 50, 48, 50, 49, 50, 50, 50, 51, 50, 52, 50, 53, 50, 54, 50, 55, 50, 56, 50, 57, 51, 48, 51, 49, 51, 50, 51, 51, 51, 52, 51, 53, 51, 54, 51, 55, 51, 56, 51, 57, 52, 48, 52, 49, 52, 50, 52, 51, 52, 52, 52, 53, 52, 54, 52, 55, 52, 56, 52, 57, 53, 48, 53, 49, 53, 50, 53, 51, 53, 52, 53, 53, 53, 54, 53, 55, 53, 56, 53, 57, 54, 48, 54, 49, 54, 50, 54, 51, 54, 52, 54, 53, 54, 54, 54, 55, 54, 56, 54, 57, 55, 48, 55, 49, 55, 50, 55, 51, 55, 52, 55, 53, 55, 54, 55, 55, 55, 56, 55, 57, 56, 48, 56, 49, 56, 50, 56, 51, 56, 52, 56, 53, 56, 54, 56, 55, 56, 56, 56, 57, 57, 48, 57, 49, 57, 50, 57, 51, 57, 52, 57, 53, 57, 54, 57, 55, 57, 56, 57, 57]
theorem smalls_hi : ∀ p : Fin 100, (smallsT.getD (2 * p.val) 0).toNat = 48 + p.val % 10 := by decide +kernel
theorem smalls_lo : ∀ p : Fin 100, (smalls.getD (2 * p.val) 0).toNat = 48 + p.val / 10 := by decide +kernel
theorem wrap_u32 (n : Int) : IntKind.u32.wrap n = n % 4294967296 := rfl
theorem wrap32 {n : Nat} (h : n < 4294967296) : IntKind.u32.wrap (n : Int) = (n : Int) := by rw [wrap_u32]; omega
theorem quo32 (a b : Nat) (ha : a < 4294967296) (hb : 0 < b) : evBin .quo (.int .u32 (a : Int)) (.int .u32 (b : Int)) = some (.int .u32 ((a / b : Nat) : Int)) := by
  rw [bin_quo, if_neg (by omega)]
  have : ((a : Int).tdiv (b : Int)) = ((a / b : Nat) : Int) := rfl
  rw [this, wrap32 (Nat.lt_of_le_of_lt (Nat.div_le_self _ _) ha)]
theorem rem32 (a b : Nat) (hb : 0 < b) : evBin .rem (.int .u32 (a : Int)) (.int .u32 (b : Int)) = some (.int .u32 ((a % b : Nat) : Int)) := by
  rw [bin_rem, if_neg (by omega)]; rfl
theorem dbl32 (p : Nat) (h : p < 100) : evBin .mul (.int .u32 (p : Int)) (.int .u32 2) = some (.int .u32 ((2 * p : Nat) : Int)) := by
  rw [bin_mul, wrap_u32]; congr 2; omega
theorem inc32 (p : Nat) (h : p < 100) : evBin .add (.int .u32 ((2 * p : Nat) : Int)) (.int .u32 1) = some (.int .u32 ((2 * p + 1 : Nat) : Int)) := by
  rw [bin_add, wrap_u32]; congr 2; omega
theorem quo64' (a b : Nat) (ha : a < 18446744073709551616) (hb : 0 < b) : evBin .quo (.int .u64 (a : Int)) (.int .u64 (b : Int)) = some (.int .u64 ((a / b : Nat) : Int)) := by
  rw [bin_quo, if_neg (by omega)]
  have : ((a : Int).tdiv (b : Int)) = ((a / b : Nat) : Int) := rfl
  rw [this, wrapN, Nat.mod_eq_of_lt (Nat.lt_of_le_of_lt (Nat.div_le_self _ _) ha)]
theorem rem64' (a b : Nat) (hb : 0 < b) : evBin .rem (.int .u64 (a : Int)) (.int .u64 (b : Int)) = some (.int .u64 ((a % b : Nat) : Int)) := by
  rw [bin_rem, if_neg (by omega)]; rfl
theorem small_rules (p : Nat) (h : p < 100) : (((smallsT.getD (2 * p) 0).toNat : Nat) : Int) = ((48 + p % 10 : Nat) : Int) ∧ (((smalls.getD (2 * p) 0).toNat : Nat) : Int) = ((48 + p / 10 : Nat) : Int) ∧
    ((0 : Int) ≤ ((2 * p + 1 : Nat) : Int)) ∧ (((2 * p + 1 : Nat) : Int) < 200) ∧ ((0 : Int) ≤ ((2 * p : Nat) : Int)) ∧ (((2 * p : Nat) : Int) < 200) := by
  rw [smalls_hi ⟨p, h⟩, smalls_lo ⟨p, h⟩]
  exact ⟨rfl, rfl, by omega, by omega, by omega, by omega⟩
theorem l96 (x n : Nat) (hx : x < 18446744073709551616) (C : Nat) (ty : Option TypeId) (h0 : List (Nat × AObj)) (n0 : Nat) (pre cs0 : List AV) (o : Nat) (ho : pre.length = o) (cp : Option Nat) (hn : n ≤ cs0.length) (hn2 : n ≤ 1000) (hlk : Fw.look C h0 = some (.cells ty (pre ++ cs0))) (Q : Sig → FE → St → Prop) : ∀ (r i u L : Nat) (cs : List AV) (e : FE), C ≤ L → (L = C ∨ i = n) → i ≤ r → i ≤ n → NB x n cs0 i u cs →
    e 0 = .mslice C o n cp → e 1 = .int .u64 (u : Int) → e 4 = .int .i64 (i : Int) →
    (∀ i u L cs e', C ≤ L → (L = C ∨ i = n) → i < 8 → i ≤ n → NB x n cs0 i u cs → e' 1 = .int .u64 (u : Int) → e' 4 = .int .i64 (i : Int) → Q (.exit 0) e' { heap := put C (.cells ty (pre ++ cs)) h0, next := n0, low := L }) → WLoop cx ir96L0 e { heap := put C (.cells ty (pre ++ cs)) h0, next := n0, low := L } Q
  | r, i, u, L, cs, e, hCL, hLi, hr, hin, hN, e0, e1, e4, hQ => by
    refine WLoop.rnd (c := _) ir96L0.eq_1 ?_
    by_cases hi : i < 8
    · have d1 : decide ((8 : Int) ≤ (i : Int)) = false := by simp; omega
      simp +contextual -implicitDefEqProofs (maxSteps := 4000000) only [go_sem, ↓reduceIte, Nat.reduceEqDiff, Nat.reduceAdd, Int.reduceLE, Int.reduceLT, Int.reduceEq, Int.reduceToNat, Nat.reduceMod, Nat.reduceDiv, UInt8.reduceToNat, Nat.reduceLT, e4, d1]
      exact hQ i u L cs _ hCL hLi hi hin hN e1 e4
    have d1 : decide ((8 : Int) ≤ (i : Int)) = true := by simp; omega
    obtain ⟨m, rfl⟩ : ∃ m, i = m + 8 := ⟨i - 8, by omega⟩
    match r, hr with
    | 0, hr => omega
    | r + 1, hr =>
    have hu : u < 18446744073709551616 := by rw [hN.val]; exact Nat.lt_of_le_of_lt (Nat.div_le_self _ _) hx
    have g1 : evBin .rem (.int .u64 (u : Int)) (.int .u64 100000000) = some (.int .u64 ((u % 100000000 : Nat) : Int)) := rem64' u 100000000 (by decide)
    have g2 : evBin .quo (.int .u64 (u : Int)) (.int .u64 100000000) = some (.int .u64 ((u / 100000000 : Nat) : Int)) := quo64' u 100000000 hu (by decide)
    obtain ⟨a, ha⟩ : ∃ a, u % 100000000 = a := ⟨_, rfl⟩
    have ha2 : a < 100000000 := by omega
    rw [ha] at g1
    have g3 := wrap32 (n := a) (by omega)
    have g4 : evBin .quo (.int .u32 (a : Int)) (.int .u32 10000) = some (.int .u32 ((a / 10000 : Nat) : Int)) := quo32 a 10000 (by omega) (by decide)
    have g5 : evBin .rem (.int .u32 (a : Int)) (.int .u32 10000) = some (.int .u32 ((a % 10000 : Nat) : Int)) := rem32 a 10000 (by decide)
    obtain ⟨hi', hhi⟩ : ∃ b, a / 10000 = b := ⟨_, rfl⟩
    obtain ⟨lo, hlo⟩ : ∃ b, a % 10000 = b := ⟨_, rfl⟩
    rw [hhi] at g4
    rw [hlo] at g5
    have g6 : evBin .quo (.int .u32 (lo : Int)) (.int .u32 100) = some (.int .u32 ((lo / 100 : Nat) : Int)) := quo32 lo 100 (by omega) (by decide)
    have g7 : evBin .rem (.int .u32 (lo : Int)) (.int .u32 100) = some (.int .u32 ((lo % 100 : Nat) : Int)) := rem32 lo 100 (by decide)
    have g8 : evBin .quo (.int .u32 (hi' : Int)) (.int .u32 100) = some (.int .u32 ((hi' / 100 : Nat) : Int)) := quo32 hi' 100 (by omega) (by decide)
    have g9 : evBin .rem (.int .u32 (hi' : Int)) (.int .u32 100) = some (.int .u32 ((hi' % 100 : Nat) : Int)) := rem32 hi' 100 (by decide)
    obtain ⟨p1, hp1⟩ : ∃ b, lo / 100 = b := ⟨_, rfl⟩
    obtain ⟨p0, hp0⟩ : ∃ b, lo % 100 = b := ⟨_, rfl⟩
    obtain ⟨p3, hp3⟩ : ∃ b, hi' / 100 = b := ⟨_, rfl⟩
    obtain ⟨p2, hp2⟩ : ∃ b, hi' % 100 = b := ⟨_, rfl⟩
    rw [hp1] at g6
    rw [hp0] at g7
    rw [hp3] at g8
    rw [hp2] at g9
    obtain ⟨sp0a, sp0b, sp0c, sp0d, sp0e, sp0f⟩ := small_rules p0 (by omega)
    have mp0 := dbl32 p0 (by omega)
    have ip0 := inc32 p0 (by omega)
    simp only [smalls, smallsT] at sp0a sp0b
    obtain ⟨sp1a, sp1b, sp1c, sp1d, sp1e, sp1f⟩ := small_rules p1 (by omega)
    have mp1 := dbl32 p1 (by omega)
    have ip1 := inc32 p1 (by omega)
    simp only [smalls, smallsT] at sp1a sp1b
    obtain ⟨sp2a, sp2b, sp2c, sp2d, sp2e, sp2f⟩ := small_rules p2 (by omega)
    have mp2 := dbl32 p2 (by omega)
    have ip2 := inc32 p2 (by omega)
    simp only [smalls, smallsT] at sp2a sp2b
    obtain ⟨sp3a, sp3b, sp3c, sp3d, sp3e, sp3f⟩ := small_rules p3 (by omega)
    have mp3 := dbl32 p3 (by omega)
    have ip3 := inc32 p3 (by omega)
    simp only [smalls, smallsT] at sp3a sp3b
    have wk : ∀ k : Nat, k ≤ 8 → IntKind.i64.wrap (((m + 8 : Nat) : Int) - (k : Int)) = ((m + (8 - k) : Nat) : Int) := by
      intro k hk; rw [wrap_i64 (by omega) (by omega)]; omega
    have w1 := wk 1 (by decide); have w2 := wk 2 (by decide); have w3 := wk 3 (by decide); have w4 := wk 4 (by decide)
    have w5 := wk 5 (by decide); have w6 := wk 6 (by decide); have w7 := wk 7 (by decide); have w8 := wk 8 (by decide)
    simp only [Nat.reduceSub, Int.cast_ofNat_Int, Nat.add_zero] at w1 w2 w3 w4 w5 w6 w7 w8
    have hcl : cs.length = cs0.length := hN.len
    have bk : ∀ k : Nat, k ≤ 7 → ((0 : Int) ≤ ((m + k : Nat) : Int) ∧ ((m + k : Nat) : Int) < (n : Int)) := fun k hk => ⟨by omega, by omega⟩
    have b0 := bk 0 (by decide); have b1 := bk 1 (by decide); have b2 := bk 2 (by decide); have b3 := bk 3 (by decide)
    have b4 := bk 4 (by decide); have b5 := bk 5 (by decide); have b6 := bk 6 (by decide); have b7 := bk 7 (by decide)
    rw [Nat.add_zero] at b0
    have pk : ∀ (k : Nat) (ds : List AV) (v : AV), k ≤ 7 → ds.length = cs0.length → patch (pre ++ ds) (o + (m + k)) [v] = some (pre ++ ds.set (m + k) v) := fun k ds v hk hd => patch_app ho (by omega)
    have q0 : ∀ (ds : List AV) (v : AV), ds.length = cs0.length → patch (pre ++ ds) (o + m) [v] = some (pre ++ ds.set m v) := fun ds v => pk 0 ds v (by decide)
    have q1 := fun ds v => pk 1 ds v (by decide)
    have q2 := fun ds v => pk 2 ds v (by decide)
    have q3 := fun ds v => pk 3 ds v (by decide)
    have q4 := fun ds v => pk 4 ds v (by decide)
    have q5 := fun ds v => pk 5 ds v (by decide)
    have q6 := fun ds v => pk 6 ds v (by decide)
    have q7 := fun ds v => pk 7 ds v (by decide)
    have lk : ∀ ds, Fw.look C (put C (.cells ty ds) h0) = some (.cells ty ds) := fun ds => look_put hlk
    have hmin : min L C = C := by omega
    have hmin2 : min C C = C := by omega
    have N1 := NB.two (i := m + 6) hN (by omega) hn (v := .int .u8 ((48 + p0 % 10 : Nat) : Int)) (w := .int .u8 ((48 + p0 / 10 : Nat) : Int)) (by congr 3; omega) (by congr 3; omega)
    have N2 := NB.two (i := m + 4) N1 (by omega) hn (v := .int .u8 ((48 + p1 % 10 : Nat) : Int)) (w := .int .u8 ((48 + p1 / 10 : Nat) : Int)) (by congr 3; omega) (by congr 3; omega)
    have N3 := NB.two (i := m + 2) N2 (by omega) hn (v := .int .u8 ((48 + p2 % 10 : Nat) : Int)) (w := .int .u8 ((48 + p2 / 10 : Nat) : Int)) (by congr 3; omega) (by congr 3; omega)
    have N4 := NB.two (i := m) N3 (by omega) hn (v := .int .u8 ((48 + p3 % 10 : Nat) : Int)) (w := .int .u8 ((48 + p3 / 10 : Nat) : Int)) (by congr 3; omega) (by congr 3; omega)
    rw [show u / 100 / 100 / 100 / 100 = u / 100000000 by omega] at N4
    have ih := fun cs' e' hN' => l96 x n hx C ty h0 n0 pre cs0 o ho cp hn hn2 hlk Q r m (u / 100000000) C cs' e' (Nat.le_refl _) (.inl rfl) (by omega) (by omega) hN'
    clear N1 N2 N3 hN wk bk pk ha hhi hlo hp0 hp1 hp2 hp3 hu
    simp +contextual -implicitDefEqProofs (maxSteps := 4000000) only [go_sem, ↓reduceIte, Nat.reduceEqDiff, Nat.reduceAdd, Int.reduceLE, Int.reduceLT, Int.reduceEq, Int.reduceToNat, Nat.reduceMod, Nat.reduceDiv, UInt8.reduceToNat, Nat.reduceLT, e0, e1, e4, d1, g1, g2, g3, g4, g5, g6, g7, g8, g9, mp0, ip0, sp0a, sp0b, sp0c, sp0d, sp0e, sp0f, mp1, ip1, sp1a, sp1b, sp1c, sp1d, sp1e, sp1f, mp2, ip2, sp2a, sp2b, sp2c, sp2d, sp2e, sp2f, mp3, ip3, sp3a, sp3b, sp3c, sp3d, sp3e, sp3f, w1, w2, w3, w4, w5, w6, w7, w8, oget_iaddr_mslice, b0, b1, b2, b3, b4, b5, b6, b7, Nat_mul_one, q0, q1, q2, q3, q4, q5, q6, q7, List.length_set, hcl, lk, put_put, hmin, hmin2]
    refine ih _ _ ?_ ?_ ?_ ?_ hQ
    · exact N4
    · exact e0
    · rfl
    · rfl
theorem LeaveW_low {s s' : St} (h : s'.low < s.next) (K : AV → St → Prop) : LeaveW s s' (.tuple []) K = K (.tuple []) { heap := s'.heap, next := s'.next, low := min s.low s'.low } := by
  have h1 : ¬ s.next ≤ s'.low := by omega
  simp only [LeaveW, leave, AV.drop2, List.map_nil, h1, false_and, if_false]
def digs (x n : Nat) : List AV := (List.range n).map fun j => digC x (n - 1 - j)
theorem c96 (x n : Nat) (hx : x < 18446744073709551616) (hxn : x < 10 ^ n) (h1 : 1 ≤ n) (hn2 : n ≤ 1000) (C : Nat) (ty : Option TypeId) (pre cs0 : List AV) (o : Nat) (ho : pre.length = o) (cp : Option Nat) (hn : n ≤ cs0.length) (s : St) (hlk : Fw.look C s.heap = some (.cells ty (pre ++ cs0))) (hC : C < s.next) (K : AV → St → Prop) :
    CallW cx 96 [.mslice C o n cp, .int .u64 (x : Int)] s K = K (.tuple []) { heap := put C (.cells ty (pre ++ (digs x n ++ cs0.drop n))) s.heap, next := s.next, low := min s.low C } := by
  refine CallW.eq (CallW.fn' (fn := ir96) rfl rfl (by kernel_rfl) ir96.eq_1 ?_) K
  unfold digs
  have key := fun Q e => l96 x n hx C ty s.heap s.next pre cs0 o ho cp hn hn2 hlk Q n n x s.next cs0 e (Nat.le_of_lt hC) (.inr rfl) (Nat.le_refl _) (Nat.le_refl _) NB.start
  rw [put_same hlk] at key
  simp +contextual -implicitDefEqProofs (maxSteps := 4000000) only [go_sem, ↓reduceIte, Nat.reduceEqDiff, Nat.reduceAdd, Int.reduceLE, Int.reduceLT, Int.reduceEq, Int.reduceToNat, Nat.reduceMod, Nat.reduceDiv, UInt8.reduceToNat, Nat.reduceLT]
  refine WLoop.keep (key _ _ rfl rfl rfl ?_)
  intro i u L cs e' hCL hLi hi hin hN e1 e4 hk
  have e0 := hk 0 (by decide +kernel)
  simp only [upd, argsE, ↓reduceIte, Nat.reduceEqDiff, List.getD_cons_zero] at e0
  clear hk key
  have lk : ∀ ds, Fw.look C (put C (.cells ty ds) s.heap) = some (.cells ty ds) := fun ds => look_put hlk
  have hcl : cs.length = cs0.length := hN.len
  have ws0 : IntKind.i64.wrap 0 = 0 := rfl
  have ws1 : IntKind.i64.wrap 1 = 1 := rfl
  have ws2 : IntKind.i64.wrap 2 = 2 := rfl
  have ws3 : IntKind.i64.wrap 3 = 3 := rfl
  have ws4 : IntKind.i64.wrap 4 = 4 := rfl
  have ws5 : IntKind.i64.wrap 5 = 5 := rfl
  have ws6 : IntKind.i64.wrap 6 = 6 := rfl
  rcases (by omega : i = 0 ∨ i = 1 ∨ i = 2 ∨ i = 3 ∨ i = 4 ∨ i = 5 ∨ i = 6 ∨ i = 7) with hi0 | hi1 | hi2 | hi3 | hi4 | hi5 | hi6 | hi7
  · subst hi0
    have hu8 : u < 10 ^ 0 := by
      rw [hN.val, Nat.div_lt_iff_lt_mul (Nat.pow_pos (by decide)), ← Nat.pow_add, show 0 + (n - 0) = n by omega]; exact hxn
    simp only [Nat.reducePow] at hu8
    have g0 := wrap32 (n := u) (by omega)
    have hLC : L = C := by omega
    subst hLC
    rw [NB.done hN hn] at *
    clear hN
    simp +contextual -implicitDefEqProofs (maxSteps := 4000000) only [go_sem, ↓reduceIte, Nat.reduceEqDiff, Nat.reduceAdd, Int.reduceLE, Int.reduceLT, Int.reduceEq, Int.reduceToNat, Nat.reduceMod, Nat.reduceDiv, UInt8.reduceToNat, Nat.reduceLT, e0, e1, e4, g0]
    rw [LeaveW_low hC]
    exact ⟨rfl, rfl⟩
  · subst hi1
    have hu8 : u < 10 ^ 1 := by
      rw [hN.val, Nat.div_lt_iff_lt_mul (Nat.pow_pos (by decide)), ← Nat.pow_add, show 1 + (n - 1) = n by omega]; exact hxn
    simp only [Nat.reducePow] at hu8
    have g0 := wrap32 (n := u) (by omega)
    have y1 : IntKind.u32.wrap (48 + (u : Int)) = ((48 + u : Nat) : Int) := wrap32 (n := 48 + u) (by omega)
    have y2 : IntKind.u8.wrap ((48 + u : Nat) : Int) = ((48 + u : Nat) : Int) := by rw [wrap_u8]; omega
    have N4 := NB.one (i := 0) hN (by omega) hn (v := .int .u8 ((48 + u : Nat) : Int)) (by congr 3; omega)
    have D := NB.done N4 hn
    clear N4 hN
    have hmin : min L C = C := by omega
    have hmin2 : min C C = C := by omega
    have b0 : (0 : Int) < (n : Int) := by omega
    have q0 : ∀ (ds : List AV) (v : AV), ds.length = cs0.length → patch (pre ++ ds) o [v] = some (pre ++ ds.set 0 v) := fun ds v hd => patch_app (j := 0) ho (by omega)
    simp +contextual -implicitDefEqProofs (maxSteps := 4000000) only [go_sem, ↓reduceIte, Nat.reduceEqDiff, Nat.reduceAdd, Int.reduceLE, Int.reduceLT, Int.reduceEq, Int.reduceToNat, Nat.reduceMod, Nat.reduceDiv, UInt8.reduceToNat, Nat.reduceLT, e0, e1, e4, g0, y1, y2, b0, q0, Int.reduceSub, ws0, ws1, ws2, ws3, ws4, ws5, ws6, Nat_mul_one, List.length_set, hcl, lk, put_put, hmin, hmin2]
    rw [LeaveW_low hC]
    rw [← D]
    exact ⟨rfl, rfl⟩
  · subst hi2
    have hu8 : u < 10 ^ 2 := by
      rw [hN.val, Nat.div_lt_iff_lt_mul (Nat.pow_pos (by decide)), ← Nat.pow_add, show 2 + (n - 2) = n by omega]; exact hxn
    simp only [Nat.reducePow] at hu8
    have g0 := wrap32 (n := u) (by omega)
    have f1 : evBin .quo (.int .u32 (u : Int)) (.int .u32 100) = some (.int .u32 ((u / 100 : Nat) : Int)) := quo32 u 100 (by omega) (by decide)
    have f2 : evBin .rem (.int .u32 (u : Int)) (.int .u32 100) = some (.int .u32 ((u % 100 : Nat) : Int)) := rem32 u 100 (by decide)
    obtain ⟨p2, hp2⟩ : ∃ b, u % 100 = b := ⟨_, rfl⟩
    rw [hp2] at f2
    obtain ⟨sp2a, sp2b, sp2c, sp2d, sp2e, sp2f⟩ := small_rules p2 (by omega)
    have mp2 := dbl32 p2 (by omega)
    have ip2 := inc32 p2 (by omega)
    simp only [smalls, smallsT] at sp2a sp2b
    have N3 := NB.two (i := 0) hN (by omega) hn (v := .int .u8 ((48 + p2 % 10 : Nat) : Int)) (w := .int .u8 ((48 + p2 / 10 : Nat) : Int)) (by congr 3; omega) (by congr 3; omega)
    obtain ⟨v2, hv2⟩ : ∃ b, u / 100 = b := ⟨_, rfl⟩
    rw [hv2] at f1 N3
    have D := NB.done N3 hn
    clear N3 hN
    have hmin : min L C = C := by omega
    have hmin2 : min C C = C := by omega
    have b0 : (0 : Int) < (n : Int) := by omega
    have q0 : ∀ (ds : List AV) (v : AV), ds.length = cs0.length → patch (pre ++ ds) o [v] = some (pre ++ ds.set 0 v) := fun ds v hd => patch_app (j := 0) ho (by omega)
    have b1 : (1 : Int) < (n : Int) := by omega
    have q1 : ∀ (ds : List AV) (v : AV), ds.length = cs0.length → patch (pre ++ ds) (o + 1) [v] = some (pre ++ ds.set 1 v) := fun ds v hd => patch_app ho (by omega)
    simp +contextual -implicitDefEqProofs (maxSteps := 4000000) only [go_sem, ↓reduceIte, Nat.reduceEqDiff, Nat.reduceAdd, Int.reduceLE, Int.reduceLT, Int.reduceEq, Int.reduceToNat, Nat.reduceMod, Nat.reduceDiv, UInt8.reduceToNat, Nat.reduceLT, e0, e1, e4, g0, f1, f2, mp2, ip2, sp2a, sp2b, sp2c, sp2d, sp2e, sp2f, b0, q0, b1, q1, Int.reduceSub, ws0, ws1, ws2, ws3, ws4, ws5, ws6, Nat_mul_one, List.length_set, hcl, lk, put_put, hmin, hmin2]
    rw [LeaveW_low hC]
    rw [← D]
    exact ⟨rfl, rfl⟩
  · subst hi3
    have hu8 : u < 10 ^ 3 := by
      rw [hN.val, Nat.div_lt_iff_lt_mul (Nat.pow_pos (by decide)), ← Nat.pow_add, show 3 + (n - 3) = n by omega]; exact hxn
    simp only [Nat.reducePow] at hu8
    have g0 := wrap32 (n := u) (by omega)
    have f1 : evBin .quo (.int .u32 (u : Int)) (.int .u32 100) = some (.int .u32 ((u / 100 : Nat) : Int)) := quo32 u 100 (by omega) (by decide)
    have f2 : evBin .rem (.int .u32 (u : Int)) (.int .u32 100) = some (.int .u32 ((u % 100 : Nat) : Int)) := rem32 u 100 (by decide)
    obtain ⟨p2, hp2⟩ : ∃ b, u % 100 = b := ⟨_, rfl⟩
    rw [hp2] at f2
    obtain ⟨sp2a, sp2b, sp2c, sp2d, sp2e, sp2f⟩ := small_rules p2 (by omega)
    have mp2 := dbl32 p2 (by omega)
    have ip2 := inc32 p2 (by omega)
    simp only [smalls, smallsT] at sp2a sp2b
    have N3 := NB.two (i := 1) hN (by omega) hn (v := .int .u8 ((48 + p2 % 10 : Nat) : Int)) (w := .int .u8 ((48 + p2 / 10 : Nat) : Int)) (by congr 3; omega) (by congr 3; omega)
    obtain ⟨v2, hv2⟩ : ∃ b, u / 100 = b := ⟨_, rfl⟩
    rw [hv2] at f1 N3
    have y1 : IntKind.u32.wrap (48 + (v2 : Int)) = ((48 + v2 : Nat) : Int) := wrap32 (n := 48 + v2) (by omega)
    have y2 : IntKind.u8.wrap ((48 + v2 : Nat) : Int) = ((48 + v2 : Nat) : Int) := by rw [wrap_u8]; omega
    have N4 := NB.one (i := 0) N3 (by omega) hn (v := .int .u8 ((48 + v2 : Nat) : Int)) (by congr 3; omega)
    have D := NB.done N4 hn
    clear N4 hN
    have hmin : min L C = C := by omega
    have hmin2 : min C C = C := by omega
    have b0 : (0 : Int) < (n : Int) := by omega
    have q0 : ∀ (ds : List AV) (v : AV), ds.length = cs0.length → patch (pre ++ ds) o [v] = some (pre ++ ds.set 0 v) := fun ds v hd => patch_app (j := 0) ho (by omega)
    have b1 : (1 : Int) < (n : Int) := by omega
    have q1 : ∀ (ds : List AV) (v : AV), ds.length = cs0.length → patch (pre ++ ds) (o + 1) [v] = some (pre ++ ds.set 1 v) := fun ds v hd => patch_app ho (by omega)
    have b2 : (2 : Int) < (n : Int) := by omega
    have q2 : ∀ (ds : List AV) (v : AV), ds.length = cs0.length → patch (pre ++ ds) (o + 2) [v] = some (pre ++ ds.set 2 v) := fun ds v hd => patch_app ho (by omega)
    simp +contextual -implicitDefEqProofs (maxSteps := 4000000) only [go_sem, ↓reduceIte, Nat.reduceEqDiff, Nat.reduceAdd, Int.reduceLE, Int.reduceLT, Int.reduceEq, Int.reduceToNat, Nat.reduceMod, Nat.reduceDiv, UInt8.reduceToNat, Nat.reduceLT, e0, e1, e4, g0, f1, f2, mp2, ip2, sp2a, sp2b, sp2c, sp2d, sp2e, sp2f, y1, y2, b0, q0, b1, q1, b2, q2, Int.reduceSub, ws0, ws1, ws2, ws3, ws4, ws5, ws6, Nat_mul_one, List.length_set, hcl, lk, put_put, hmin, hmin2]
    rw [LeaveW_low hC]
    rw [← D]
    exact ⟨rfl, rfl⟩
  · subst hi4
    have hu8 : u < 10 ^ 4 := by
      rw [hN.val, Nat.div_lt_iff_lt_mul (Nat.pow_pos (by decide)), ← Nat.pow_add, show 4 + (n - 4) = n by omega]; exact hxn
    simp only [Nat.reducePow] at hu8
    have g0 := wrap32 (n := u) (by omega)
    have g1 : evBin .quo (.int .u32 (u : Int)) (.int .u32 10000) = some (.int .u32 ((u / 10000 : Nat) : Int)) := quo32 u 10000 (by omega) (by decide)
    have g2 : evBin .rem (.int .u32 (u : Int)) (.int .u32 10000) = some (.int .u32 ((u % 10000 : Nat) : Int)) := rem32 u 10000 (by decide)
    obtain ⟨a, ha⟩ : ∃ a, u % 10000 = a := ⟨_, rfl⟩
    rw [ha] at g2
    have g3 : evBin .quo (.int .u32 (a : Int)) (.int .u32 100) = some (.int .u32 ((a / 100 : Nat) : Int)) := quo32 a 100 (by omega) (by decide)
    have g4 : evBin .rem (.int .u32 (a : Int)) (.int .u32 100) = some (.int .u32 ((a % 100 : Nat) : Int)) := rem32 a 100 (by decide)
    obtain ⟨p1, hp1⟩ : ∃ b, a / 100 = b := ⟨_, rfl⟩
    obtain ⟨p0, hp0⟩ : ∃ b, a % 100 = b := ⟨_, rfl⟩
    rw [hp1] at g3
    rw [hp0] at g4
    obtain ⟨sp0a, sp0b, sp0c, sp0d, sp0e, sp0f⟩ := small_rules p0 (by omega)
    have mp0 := dbl32 p0 (by omega)
    have ip0 := inc32 p0 (by omega)
    simp only [smalls, smallsT] at sp0a sp0b
    obtain ⟨sp1a, sp1b, sp1c, sp1d, sp1e, sp1f⟩ := small_rules p1 (by omega)
    have mp1 := dbl32 p1 (by omega)
    have ip1 := inc32 p1 (by omega)
    simp only [smalls, smallsT] at sp1a sp1b
    have N1 := NB.two (i := 2) hN (by omega) hn (v := .int .u8 ((48 + p0 % 10 : Nat) : Int)) (w := .int .u8 ((48 + p0 / 10 : Nat) : Int)) (by congr 3; omega) (by congr 3; omega)
    have N2 := NB.two (i := 0) N1 (by omega) hn (v := .int .u8 ((48 + p1 % 10 : Nat) : Int)) (w := .int .u8 ((48 + p1 / 10 : Nat) : Int)) (by congr 3; omega) (by congr 3; omega)
    rw [show u / 100 / 100 = u / 10000 by omega] at N2
    obtain ⟨v1, hv1⟩ : ∃ b, u / 10000 = b := ⟨_, rfl⟩
    rw [hv1] at g1 N2
    have D := NB.done N2 hn
    clear N2 hN
    have hmin : min L C = C := by omega
    have hmin2 : min C C = C := by omega
    have b0 : (0 : Int) < (n : Int) := by omega
    have q0 : ∀ (ds : List AV) (v : AV), ds.length = cs0.length → patch (pre ++ ds) o [v] = some (pre ++ ds.set 0 v) := fun ds v hd => patch_app (j := 0) ho (by omega)
    have b1 : (1 : Int) < (n : Int) := by omega
    have q1 : ∀ (ds : List AV) (v : AV), ds.length = cs0.length → patch (pre ++ ds) (o + 1) [v] = some (pre ++ ds.set 1 v) := fun ds v hd => patch_app ho (by omega)
    have b2 : (2 : Int) < (n : Int) := by omega
    have q2 : ∀ (ds : List AV) (v : AV), ds.length = cs0.length → patch (pre ++ ds) (o + 2) [v] = some (pre ++ ds.set 2 v) := fun ds v hd => patch_app ho (by omega)
    have b3 : (3 : Int) < (n : Int) := by omega
    have q3 : ∀ (ds : List AV) (v : AV), ds.length = cs0.length → patch (pre ++ ds) (o + 3) [v] = some (pre ++ ds.set 3 v) := fun ds v hd => patch_app ho (by omega)
    simp +contextual -implicitDefEqProofs (maxSteps := 4000000) only [go_sem, ↓reduceIte, Nat.reduceEqDiff, Nat.reduceAdd, Int.reduceLE, Int.reduceLT, Int.reduceEq, Int.reduceToNat, Nat.reduceMod, Nat.reduceDiv, UInt8.reduceToNat, Nat.reduceLT, e0, e1, e4, g0, g1, g2, g3, g4, mp0, ip0, sp0a, sp0b, sp0c, sp0d, sp0e, sp0f, mp1, ip1, sp1a, sp1b, sp1c, sp1d, sp1e, sp1f, b0, q0, b1, q1, b2, q2, b3, q3, Int.reduceSub, ws0, ws1, ws2, ws3, ws4, ws5, ws6, Nat_mul_one, List.length_set, hcl, lk, put_put, hmin, hmin2]
    rw [LeaveW_low hC]
    rw [← D]
    exact ⟨rfl, rfl⟩
  · subst hi5
    have hu8 : u < 10 ^ 5 := by
      rw [hN.val, Nat.div_lt_iff_lt_mul (Nat.pow_pos (by decide)), ← Nat.pow_add, show 5 + (n - 5) = n by omega]; exact hxn
    simp only [Nat.reducePow] at hu8
    have g0 := wrap32 (n := u) (by omega)
    have g1 : evBin .quo (.int .u32 (u : Int)) (.int .u32 10000) = some (.int .u32 ((u / 10000 : Nat) : Int)) := quo32 u 10000 (by omega) (by decide)
    have g2 : evBin .rem (.int .u32 (u : Int)) (.int .u32 10000) = some (.int .u32 ((u % 10000 : Nat) : Int)) := rem32 u 10000 (by decide)
    obtain ⟨a, ha⟩ : ∃ a, u % 10000 = a := ⟨_, rfl⟩
    rw [ha] at g2
    have g3 : evBin .quo (.int .u32 (a : Int)) (.int .u32 100) = some (.int .u32 ((a / 100 : Nat) : Int)) := quo32 a 100 (by omega) (by decide)
    have g4 : evBin .rem (.int .u32 (a : Int)) (.int .u32 100) = some (.int .u32 ((a % 100 : Nat) : Int)) := rem32 a 100 (by decide)
    obtain ⟨p1, hp1⟩ : ∃ b, a / 100 = b := ⟨_, rfl⟩
    obtain ⟨p0, hp0⟩ : ∃ b, a % 100 = b := ⟨_, rfl⟩
    rw [hp1] at g3
    rw [hp0] at g4
    obtain ⟨sp0a, sp0b, sp0c, sp0d, sp0e, sp0f⟩ := small_rules p0 (by omega)
    have mp0 := dbl32 p0 (by omega)
    have ip0 := inc32 p0 (by omega)
    simp only [smalls, smallsT] at sp0a sp0b
    obtain ⟨sp1a, sp1b, sp1c, sp1d, sp1e, sp1f⟩ := small_rules p1 (by omega)
    have mp1 := dbl32 p1 (by omega)
    have ip1 := inc32 p1 (by omega)
    simp only [smalls, smallsT] at sp1a sp1b
    have N1 := NB.two (i := 3) hN (by omega) hn (v := .int .u8 ((48 + p0 % 10 : Nat) : Int)) (w := .int .u8 ((48 + p0 / 10 : Nat) : Int)) (by congr 3; omega) (by congr 3; omega)
    have N2 := NB.two (i := 1) N1 (by omega) hn (v := .int .u8 ((48 + p1 % 10 : Nat) : Int)) (w := .int .u8 ((48 + p1 / 10 : Nat) : Int)) (by congr 3; omega) (by congr 3; omega)
    rw [show u / 100 / 100 = u / 10000 by omega] at N2
    obtain ⟨v1, hv1⟩ : ∃ b, u / 10000 = b := ⟨_, rfl⟩
    rw [hv1] at g1 N2
    have y1 : IntKind.u32.wrap (48 + (v1 : Int)) = ((48 + v1 : Nat) : Int) := wrap32 (n := 48 + v1) (by omega)
    have y2 : IntKind.u8.wrap ((48 + v1 : Nat) : Int) = ((48 + v1 : Nat) : Int) := by rw [wrap_u8]; omega
    have N4 := NB.one (i := 0) N2 (by omega) hn (v := .int .u8 ((48 + v1 : Nat) : Int)) (by congr 3; omega)
    have D := NB.done N4 hn
    clear N4 hN
    have hmin : min L C = C := by omega
    have hmin2 : min C C = C := by omega
    have b0 : (0 : Int) < (n : Int) := by omega
    have q0 : ∀ (ds : List AV) (v : AV), ds.length = cs0.length → patch (pre ++ ds) o [v] = some (pre ++ ds.set 0 v) := fun ds v hd => patch_app (j := 0) ho (by omega)
    have b1 : (1 : Int) < (n : Int) := by omega
    have q1 : ∀ (ds : List AV) (v : AV), ds.length = cs0.length → patch (pre ++ ds) (o + 1) [v] = some (pre ++ ds.set 1 v) := fun ds v hd => patch_app ho (by omega)
    have b2 : (2 : Int) < (n : Int) := by omega
    have q2 : ∀ (ds : List AV) (v : AV), ds.length = cs0.length → patch (pre ++ ds) (o + 2) [v] = some (pre ++ ds.set 2 v) := fun ds v hd => patch_app ho (by omega)
    have b3 : (3 : Int) < (n : Int) := by omega
    have q3 : ∀ (ds : List AV) (v : AV), ds.length = cs0.length → patch (pre ++ ds) (o + 3) [v] = some (pre ++ ds.set 3 v) := fun ds v hd => patch_app ho (by omega)
    have b4 : (4 : Int) < (n : Int) := by omega
    have q4 : ∀ (ds : List AV) (v : AV), ds.length = cs0.length → patch (pre ++ ds) (o + 4) [v] = some (pre ++ ds.set 4 v) := fun ds v hd => patch_app ho (by omega)
    simp +contextual -implicitDefEqProofs (maxSteps := 4000000) only [go_sem, ↓reduceIte, Nat.reduceEqDiff, Nat.reduceAdd, Int.reduceLE, Int.reduceLT, Int.reduceEq, Int.reduceToNat, Nat.reduceMod, Nat.reduceDiv, UInt8.reduceToNat, Nat.reduceLT, e0, e1, e4, g0, g1, g2, g3, g4, mp0, ip0, sp0a, sp0b, sp0c, sp0d, sp0e, sp0f, mp1, ip1, sp1a, sp1b, sp1c, sp1d, sp1e, sp1f, y1, y2, b0, q0, b1, q1, b2, q2, b3, q3, b4, q4, Int.reduceSub, ws0, ws1, ws2, ws3, ws4, ws5, ws6, Nat_mul_one, List.length_set, hcl, lk, put_put, hmin, hmin2]
    rw [LeaveW_low hC]
    rw [← D]
    exact ⟨rfl, rfl⟩
  · subst hi6
    have hu8 : u < 10 ^ 6 := by
      rw [hN.val, Nat.div_lt_iff_lt_mul (Nat.pow_pos (by decide)), ← Nat.pow_add, show 6 + (n - 6) = n by omega]; exact hxn
    simp only [Nat.reducePow] at hu8
    have g0 := wrap32 (n := u) (by omega)
    have g1 : evBin .quo (.int .u32 (u : Int)) (.int .u32 10000) = some (.int .u32 ((u / 10000 : Nat) : Int)) := quo32 u 10000 (by omega) (by decide)
    have g2 : evBin .rem (.int .u32 (u : Int)) (.int .u32 10000) = some (.int .u32 ((u % 10000 : Nat) : Int)) := rem32 u 10000 (by decide)
    obtain ⟨a, ha⟩ : ∃ a, u % 10000 = a := ⟨_, rfl⟩
    rw [ha] at g2
    have g3 : evBin .quo (.int .u32 (a : Int)) (.int .u32 100) = some (.int .u32 ((a / 100 : Nat) : Int)) := quo32 a 100 (by omega) (by decide)
    have g4 : evBin .rem (.int .u32 (a : Int)) (.int .u32 100) = some (.int .u32 ((a % 100 : Nat) : Int)) := rem32 a 100 (by decide)
    obtain ⟨p1, hp1⟩ : ∃ b, a / 100 = b := ⟨_, rfl⟩
    obtain ⟨p0, hp0⟩ : ∃ b, a % 100 = b := ⟨_, rfl⟩
    rw [hp1] at g3
    rw [hp0] at g4
    obtain ⟨sp0a, sp0b, sp0c, sp0d, sp0e, sp0f⟩ := small_rules p0 (by omega)
    have mp0 := dbl32 p0 (by omega)
    have ip0 := inc32 p0 (by omega)
    simp only [smalls, smallsT] at sp0a sp0b
    obtain ⟨sp1a, sp1b, sp1c, sp1d, sp1e, sp1f⟩ := small_rules p1 (by omega)
    have mp1 := dbl32 p1 (by omega)
    have ip1 := inc32 p1 (by omega)
    simp only [smalls, smallsT] at sp1a sp1b
    have N1 := NB.two (i := 4) hN (by omega) hn (v := .int .u8 ((48 + p0 % 10 : Nat) : Int)) (w := .int .u8 ((48 + p0 / 10 : Nat) : Int)) (by congr 3; omega) (by congr 3; omega)
    have N2 := NB.two (i := 2) N1 (by omega) hn (v := .int .u8 ((48 + p1 % 10 : Nat) : Int)) (w := .int .u8 ((48 + p1 / 10 : Nat) : Int)) (by congr 3; omega) (by congr 3; omega)
    rw [show u / 100 / 100 = u / 10000 by omega] at N2
    obtain ⟨v1, hv1⟩ : ∃ b, u / 10000 = b := ⟨_, rfl⟩
    rw [hv1] at g1 N2
    have f1 : evBin .quo (.int .u32 (v1 : Int)) (.int .u32 100) = some (.int .u32 ((v1 / 100 : Nat) : Int)) := quo32 v1 100 (by omega) (by decide)
    have f2 : evBin .rem (.int .u32 (v1 : Int)) (.int .u32 100) = some (.int .u32 ((v1 % 100 : Nat) : Int)) := rem32 v1 100 (by decide)
    obtain ⟨p2, hp2⟩ : ∃ b, v1 % 100 = b := ⟨_, rfl⟩
    rw [hp2] at f2
    obtain ⟨sp2a, sp2b, sp2c, sp2d, sp2e, sp2f⟩ := small_rules p2 (by omega)
    have mp2 := dbl32 p2 (by omega)
    have ip2 := inc32 p2 (by omega)
    simp only [smalls, smallsT] at sp2a sp2b
    have N3 := NB.two (i := 0) N2 (by omega) hn (v := .int .u8 ((48 + p2 % 10 : Nat) : Int)) (w := .int .u8 ((48 + p2 / 10 : Nat) : Int)) (by congr 3; omega) (by congr 3; omega)
    obtain ⟨v2, hv2⟩ : ∃ b, v1 / 100 = b := ⟨_, rfl⟩
    rw [hv2] at f1 N3
    have D := NB.done N3 hn
    clear N3 hN
    have hmin : min L C = C := by omega
    have hmin2 : min C C = C := by omega
    have b0 : (0 : Int) < (n : Int) := by omega
    have q0 : ∀ (ds : List AV) (v : AV), ds.length = cs0.length → patch (pre ++ ds) o [v] = some (pre ++ ds.set 0 v) := fun ds v hd => patch_app (j := 0) ho (by omega)
    have b1 : (1 : Int) < (n : Int) := by omega
    have q1 : ∀ (ds : List AV) (v : AV), ds.length = cs0.length → patch (pre ++ ds) (o + 1) [v] = some (pre ++ ds.set 1 v) := fun ds v hd => patch_app ho (by omega)
    have b2 : (2 : Int) < (n : Int) := by omega
    have q2 : ∀ (ds : List AV) (v : AV), ds.length = cs0.length → patch (pre ++ ds) (o + 2) [v] = some (pre ++ ds.set 2 v) := fun ds v hd => patch_app ho (by omega)
    have b3 : (3 : Int) < (n : Int) := by omega
    have q3 : ∀ (ds : List AV) (v : AV), ds.length = cs0.length → patch (pre ++ ds) (o + 3) [v] = some (pre ++ ds.set 3 v) := fun ds v hd => patch_app ho (by omega)
    have b4 : (4 : Int) < (n : Int) := by omega
    have q4 : ∀ (ds : List AV) (v : AV), ds.length = cs0.length → patch (pre ++ ds) (o + 4) [v] = some (pre ++ ds.set 4 v) := fun ds v hd => patch_app ho (by omega)
    have b5 : (5 : Int) < (n : Int) := by omega
    have q5 : ∀ (ds : List AV) (v : AV), ds.length = cs0.length → patch (pre ++ ds) (o + 5) [v] = some (pre ++ ds.set 5 v) := fun ds v hd => patch_app ho (by omega)
    simp +contextual -implicitDefEqProofs (maxSteps := 4000000) only [go_sem, ↓reduceIte, Nat.reduceEqDiff, Nat.reduceAdd, Int.reduceLE, Int.reduceLT, Int.reduceEq, Int.reduceToNat, Nat.reduceMod, Nat.reduceDiv, UInt8.reduceToNat, Nat.reduceLT, e0, e1, e4, g0, g1, g2, g3, g4, mp0, ip0, sp0a, sp0b, sp0c, sp0d, sp0e, sp0f, mp1, ip1, sp1a, sp1b, sp1c, sp1d, sp1e, sp1f, f1, f2, mp2, ip2, sp2a, sp2b, sp2c, sp2d, sp2e, sp2f, b0, q0, b1, q1, b2, q2, b3, q3, b4, q4, b5, q5, Int.reduceSub, ws0, ws1, ws2, ws3, ws4, ws5, ws6, Nat_mul_one, List.length_set, hcl, lk, put_put, hmin, hmin2]
    rw [LeaveW_low hC]
    rw [← D]
    exact ⟨rfl, rfl⟩
  · subst hi7
    have hu8 : u < 10 ^ 7 := by
      rw [hN.val, Nat.div_lt_iff_lt_mul (Nat.pow_pos (by decide)), ← Nat.pow_add, show 7 + (n - 7) = n by omega]; exact hxn
    simp only [Nat.reducePow] at hu8
    have g0 := wrap32 (n := u) (by omega)
    have g1 : evBin .quo (.int .u32 (u : Int)) (.int .u32 10000) = some (.int .u32 ((u / 10000 : Nat) : Int)) := quo32 u 10000 (by omega) (by decide)
    have g2 : evBin .rem (.int .u32 (u : Int)) (.int .u32 10000) = some (.int .u32 ((u % 10000 : Nat) : Int)) := rem32 u 10000 (by decide)
    obtain ⟨a, ha⟩ : ∃ a, u % 10000 = a := ⟨_, rfl⟩
    rw [ha] at g2
    have g3 : evBin .quo (.int .u32 (a : Int)) (.int .u32 100) = some (.int .u32 ((a / 100 : Nat) : Int)) := quo32 a 100 (by omega) (by decide)
    have g4 : evBin .rem (.int .u32 (a : Int)) (.int .u32 100) = some (.int .u32 ((a % 100 : Nat) : Int)) := rem32 a 100 (by decide)
    obtain ⟨p1, hp1⟩ : ∃ b, a / 100 = b := ⟨_, rfl⟩
    obtain ⟨p0, hp0⟩ : ∃ b, a % 100 = b := ⟨_, rfl⟩
    rw [hp1] at g3
    rw [hp0] at g4
    obtain ⟨sp0a, sp0b, sp0c, sp0d, sp0e, sp0f⟩ := small_rules p0 (by omega)
    have mp0 := dbl32 p0 (by omega)
    have ip0 := inc32 p0 (by omega)
    simp only [smalls, smallsT] at sp0a sp0b
    obtain ⟨sp1a, sp1b, sp1c, sp1d, sp1e, sp1f⟩ := small_rules p1 (by omega)
    have mp1 := dbl32 p1 (by omega)
    have ip1 := inc32 p1 (by omega)
    simp only [smalls, smallsT] at sp1a sp1b
    have N1 := NB.two (i := 5) hN (by omega) hn (v := .int .u8 ((48 + p0 % 10 : Nat) : Int)) (w := .int .u8 ((48 + p0 / 10 : Nat) : Int)) (by congr 3; omega) (by congr 3; omega)
    have N2 := NB.two (i := 3) N1 (by omega) hn (v := .int .u8 ((48 + p1 % 10 : Nat) : Int)) (w := .int .u8 ((48 + p1 / 10 : Nat) : Int)) (by congr 3; omega) (by congr 3; omega)
    rw [show u / 100 / 100 = u / 10000 by omega] at N2
    obtain ⟨v1, hv1⟩ : ∃ b, u / 10000 = b := ⟨_, rfl⟩
    rw [hv1] at g1 N2
    have f1 : evBin .quo (.int .u32 (v1 : Int)) (.int .u32 100) = some (.int .u32 ((v1 / 100 : Nat) : Int)) := quo32 v1 100 (by omega) (by decide)
    have f2 : evBin .rem (.int .u32 (v1 : Int)) (.int .u32 100) = some (.int .u32 ((v1 % 100 : Nat) : Int)) := rem32 v1 100 (by decide)
    obtain ⟨p2, hp2⟩ : ∃ b, v1 % 100 = b := ⟨_, rfl⟩
    rw [hp2] at f2
    obtain ⟨sp2a, sp2b, sp2c, sp2d, sp2e, sp2f⟩ := small_rules p2 (by omega)
    have mp2 := dbl32 p2 (by omega)
    have ip2 := inc32 p2 (by omega)
    simp only [smalls, smallsT] at sp2a sp2b
    have N3 := NB.two (i := 1) N2 (by omega) hn (v := .int .u8 ((48 + p2 % 10 : Nat) : Int)) (w := .int .u8 ((48 + p2 / 10 : Nat) : Int)) (by congr 3; omega) (by congr 3; omega)
    obtain ⟨v2, hv2⟩ : ∃ b, v1 / 100 = b := ⟨_, rfl⟩
    rw [hv2] at f1 N3
    have y1 : IntKind.u32.wrap (48 + (v2 : Int)) = ((48 + v2 : Nat) : Int) := wrap32 (n := 48 + v2) (by omega)
    have y2 : IntKind.u8.wrap ((48 + v2 : Nat) : Int) = ((48 + v2 : Nat) : Int) := by rw [wrap_u8]; omega
    have N4 := NB.one (i := 0) N3 (by omega) hn (v := .int .u8 ((48 + v2 : Nat) : Int)) (by congr 3; omega)
    have D := NB.done N4 hn
    clear N4 hN
    have hmin : min L C = C := by omega
    have hmin2 : min C C = C := by omega
    have b0 : (0 : Int) < (n : Int) := by omega
    have q0 : ∀ (ds : List AV) (v : AV), ds.length = cs0.length → patch (pre ++ ds) o [v] = some (pre ++ ds.set 0 v) := fun ds v hd => patch_app (j := 0) ho (by omega)
    have b1 : (1 : Int) < (n : Int) := by omega
    have q1 : ∀ (ds : List AV) (v : AV), ds.length = cs0.length → patch (pre ++ ds) (o + 1) [v] = some (pre ++ ds.set 1 v) := fun ds v hd => patch_app ho (by omega)
    have b2 : (2 : Int) < (n : Int) := by omega
    have q2 : ∀ (ds : List AV) (v : AV), ds.length = cs0.length → patch (pre ++ ds) (o + 2) [v] = some (pre ++ ds.set 2 v) := fun ds v hd => patch_app ho (by omega)
    have b3 : (3 : Int) < (n : Int) := by omega
    have q3 : ∀ (ds : List AV) (v : AV), ds.length = cs0.length → patch (pre ++ ds) (o + 3) [v] = some (pre ++ ds.set 3 v) := fun ds v hd => patch_app ho (by omega)
    have b4 : (4 : Int) < (n : Int) := by omega
    have q4 : ∀ (ds : List AV) (v : AV), ds.length = cs0.length → patch (pre ++ ds) (o + 4) [v] = some (pre ++ ds.set 4 v) := fun ds v hd => patch_app ho (by omega)
    have b5 : (5 : Int) < (n : Int) := by omega
    have q5 : ∀ (ds : List AV) (v : AV), ds.length = cs0.length → patch (pre ++ ds) (o + 5) [v] = some (pre ++ ds.set 5 v) := fun ds v hd => patch_app ho (by omega)
    have b6 : (6 : Int) < (n : Int) := by omega
    have q6 : ∀ (ds : List AV) (v : AV), ds.length = cs0.length → patch (pre ++ ds) (o + 6) [v] = some (pre ++ ds.set 6 v) := fun ds v hd => patch_app ho (by omega)
    simp +contextual -implicitDefEqProofs (maxSteps := 4000000) only [go_sem, ↓reduceIte, Nat.reduceEqDiff, Nat.reduceAdd, Int.reduceLE, Int.reduceLT, Int.reduceEq, Int.reduceToNat, Nat.reduceMod, Nat.reduceDiv, UInt8.reduceToNat, Nat.reduceLT, e0, e1, e4, g0, g1, g2, g3, g4, mp0, ip0, sp0a, sp0b, sp0c, sp0d, sp0e, sp0f, mp1, ip1, sp1a, sp1b, sp1c, sp1d, sp1e, sp1f, f1, f2, mp2, ip2, sp2a, sp2b, sp2c, sp2d, sp2e, sp2f, y1, y2, b0, q0, b1, q1, b2, q2, b3, q3, b4, q4, b5, q5, b6, q6, Int.reduceSub, ws0, ws1, ws2, ws3, ws4, ws5, ws6, Nat_mul_one, List.length_set, hcl, lk, put_put, hmin, hmin2]
    rw [LeaveW_low hC]
    rw [← D]
    exact ⟨rfl, rfl⟩
end T06


namespace T06
variable [Mm]
open Go Fw Go.Proofs
set_option maxRecDepth 100000
set_option maxHeartbeats 4000000
def decB (x n : Nat) : List UInt8 := (List.range n).map fun j => UInt8.ofNat (48 + x / 10 ^ (n - 1 - j) % 10)
def dec (x : Nat) : List UInt8 := if x = 0 then [48] else decB x (nd x)
def smallsA : List UInt8 := [48, 49, 50, 51, 52, 53, 54, 55, 56, 57, 97, 98, 99, 100, 101, 102, 103, 104, 105, 106, 107, 108, 109, 110, 111, 112, 113, 114, 115, 116, 117, 118, 119, 120, 121, 122]
theorem small_1 : ∀ x : Fin 10, cut smallsA (x.val : Int) ((x.val + 1 : Nat) : Int) = dec x.val := by decide +kernel
theorem small_2 : ∀ x : Fin 100, 10 ≤ x.val → cut smalls ((x.val * 2 : Nat) : Int) ((x.val * 2 + 2 : Nat) : Int) = dec x.val := by decide +kernel
theorem c94 (x : Nat) (hx : x < 100) (s : St) (K : AV → St → Prop) : CallW cx 94 [.int .i64 (x : Int)] s K = K (.str (dec x)) s := by
  refine CallW.eq (CallW.fn' (fn := ir94) rfl rfl (by kernel_rfl) ir94.eq_1 ?_) K
  by_cases h : x < 10
  · have d1 : decide ((x : Int) < 10) = true := by simp; omega
    have w1 : IntKind.i64.wrap ((x : Int) + 1) = ((x + 1 : Nat) : Int) := by rw [wrap_i64 (by omega) (by omega)]; rfl
    have e := small_1 ⟨x, h⟩
    simp only [smallsA] at e
    simp +contextual -implicitDefEqProofs (maxSteps := 4000000) only [go_sem, ↓reduceIte, Nat.reduceEqDiff, Nat.reduceAdd, Int.reduceLE, Int.reduceLT, Int.reduceEq, Int.reduceToNat, Nat.reduceMod, Nat.reduceDiv, UInt8.reduceToNat, Nat.reduceLT, d1, w1, e, slOk]
    omega
  · have d1 : decide ((x : Int) < 10) = false := by simp; omega
    have w1 : IntKind.i64.wrap ((x : Int) * 2) = ((x * 2 : Nat) : Int) := by rw [wrap_i64 (by omega) (by omega)]; rfl
    have w2 : IntKind.i64.wrap (((x * 2 : Nat) : Int) + 2) = ((x * 2 + 2 : Nat) : Int) := by rw [wrap_i64 (by omega) (by omega)]; rfl
    have e := small_2 ⟨x, hx⟩ (by show 10 ≤ x; omega)
    simp only [smalls] at e
    simp +contextual -implicitDefEqProofs (maxSteps := 4000000) only [go_sem, ↓reduceIte, Nat.reduceEqDiff, Nat.reduceAdd, Int.reduceLE, Int.reduceLT, Int.reduceEq, Int.reduceToNat, Nat.reduceMod, Nat.reduceDiv, UInt8.reduceToNat, Nat.reduceLT, d1, w1, w2, e, slOk]
    omega
theorem digs_length (x n : Nat) : (digs x n).length = n := by simp [digs]
theorem bytesOf_map (f : Nat → Nat) : ∀ l : List Nat, bytesOf (l.map fun j => AV.int .u8 ((f j : Nat) : Int)) = some (l.map fun j => UInt8.ofNat (f j))
  | [] => rfl
  | j :: l => by simp only [List.map_cons, bytesOf, bytesOf_map f l, Option.map_some, Int.toNat_natCast]
theorem bytes_digs (x n : Nat) : bytesOf (digs x n) = some (decB x n) := bytesOf_map (fun j => 48 + x / 10 ^ (n - 1 - j) % 10) (List.range n)
theorem sub_digs1 (x n : Nat) (p : AV) (r : List AV) : sub (p :: (digs x n ++ r)) 1 n = some (digs x n) := by
  unfold sub
  rw [if_pos (by simp [digs_length]; omega), List.drop_succ_cons, List.drop_zero, List.take_left' (digs_length x n)]
def zeros (n : Nat) : List AV := List.replicate n (.int .u8 0)
-- IF fu
theorem c80 (x : Nat) (hx : x < 9223372036854775808) (s : St) (K : AV → St → Prop) : CallW cx 80 [.int .i64 (x : Int), .int .i64 10] s K = K (.str (dec x)) s := by
  refine CallW.eq (CallW.fn' (fn := ir80) rfl rfl (by kernel_rfl) ir80.eq_1 ?_) K
  have d0 : decide ((0 : Int) ≤ (x : Int)) = true := decide_eq_true (by omega)
  by_cases h : x < 100
  · have d1 : decide ((x : Int) < 100) = true := decide_eq_true (by omega)
    have k := fun st K => c94 x h st K
    simp +contextual -implicitDefEqProofs (maxSteps := 4000000) only [go_sem, ↓reduceIte, Nat.reduceEqDiff, Nat.reduceAdd, Int.reduceLE, Int.reduceLT, Int.reduceEq, Int.reduceToNat, Nat.reduceMod, Nat.reduceDiv, UInt8.reduceToNat, Nat.reduceLT, d0, d1, k]
  · have d1 : decide ((x : Int) < 100) = false := decide_eq_false (by omega)
    have d2 : decide ((x : Int) < 0) = false := decide_eq_false (by omega)
    have w1 : IntKind.u64.wrap (x : Int) = (x : Int) := by rw [wrap_u64]; omega
    obtain ⟨n1, n2, n3, n4⟩ := nd_facts (x := x) (by omega) (by omega)
    have k1 := fun st K => c95 x (by omega) st K
    have hd : dec x = decB x (nd x) := by unfold dec; rw [if_neg (by omega)]
    rw [hd]
    generalize nd x = n at *
    have w2 : IntKind.i64.wrap (1 + (n : Int)) = ((1 + n : Nat) : Int) := by rw [wrap_i64 (by omega) (by omega)]; rfl
    have k2 := fun (st : St) (hlk : Fw.look s.next st.heap = some (.cells (some 113) ([.int .u8 0] ++ zeros 23))) (hC : s.next < st.next) K => c96 x n (by omega) n3 n1 (by omega) s.next (some 113) [.int .u8 0] (zeros 23) 1 rfl (some 23) (by simp [zeros]; omega) st hlk hC K
    simp only [zeros, List.replicate, List.nil_append, List.cons_append] at k2
    have b1 : (0 : Int) ≤ ((1 + n : Nat) : Int) ∧ ((1 + n : Nat) : Int) ≤ ((24 : Nat) : Int) := by omega
    have b2 : (0 : Int) ≤ 1 ∧ (1 : Int) ≤ ((1 + n : Nat) : Int) := by omega
    have bd : bounds 24 (some (.int .i64 1)) (some (.int .i64 ((1 + n : Nat) : Int))) = some (1, 1 + n) := by simp only [bounds]; rw [if_pos b1, if_pos b2, Int.toNat_natCast]; rfl
    have e1 : 1 + n - 1 = n := by omega
    simp +contextual -implicitDefEqProofs (maxSteps := 4000000) only [go_sem, ↓reduceIte, Nat.reduceEqDiff, Nat.reduceAdd, Int.reduceLE, Int.reduceLT, Int.reduceEq, Int.reduceToNat, Nat.reduceMod, Nat.reduceDiv, UInt8.reduceToNat, Nat.reduceLT, d0, d1, d2, w1, w2, k1, sliceArr, bd, k2, cellsOf, b2sA, sub_digs1, bytes_digs, Nat_mul_one, Nat.reduceSub, e1]
theorem c68 (x : Nat) (hx : x < 9223372036854775808) (s : St) (K : AV → St → Prop) : CallW cx 68 [.int .i64 (x : Int)] s K = K (.str (dec x)) s := by
  refine CallW.eq (CallW.fn' (fn := ir68) rfl rfl (by kernel_rfl) ir68.eq_1 ?_) K
  have k := fun st K => c80 x hx st K
  have w : IntKind.i64.wrap (x : Int) = (x : Int) := wrap_i64 (by omega) (by omega)
  simp +contextual -implicitDefEqProofs (maxSteps := 4000000) only [go_sem, ↓reduceIte, Nat.reduceEqDiff, Nat.reduceAdd, Int.reduceLE, Int.reduceLT, Int.reduceEq, Int.reduceToNat, Nat.reduceMod, Nat.reduceDiv, UInt8.reduceToNat, Nat.reduceLT, k, w]
theorem c46 (x : Nat) (hx : x < 9223372036854775808) (s : St) (K : AV → St → Prop) : CallW cx 46 [.int .i64 (x : Int)] s K = K (.str (dec x)) s := by
  refine CallW.eq (CallW.fn' (fn := ir46) rfl rfl (by kernel_rfl) ir46.eq_1 ?_) K
  have k := fun st K => c68 x hx st K
  simp +contextual -implicitDefEqProofs (maxSteps := 4000000) only [go_sem, ↓reduceIte, Nat.reduceEqDiff, Nat.reduceAdd, Int.reduceLE, Int.reduceLT, Int.reduceEq, Int.reduceToNat, Nat.reduceMod, Nat.reduceDiv, UInt8.reduceToNat, Nat.reduceLT, k]
end T06
