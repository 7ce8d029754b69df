/- Parts of the proof, one behind the other. -/
import Derived.Test.YtfhommjochpkbaaDoorKA
import Derived.KernelRfl
import Derived.Test.YtfhommjochpkbaaDoorKB
import Derived.Test.YtfhommjochpkbaaDoorFwG
import Derived.Test.YtfhommjochpkbaaDoorFwL
import Derived.Test.YtfhommjochpkbaaDoorRows
set_option linter.unusedSimpArgs false
set_option linter.unusedVariables false
set_option linter.unusedSectionVars false

/- The chapter's examples: plain facts. -/
namespace T43
open Go
set_option maxRecDepth 100000
set_option maxHeartbeats 8000000
set_option linter.unusedSimpArgs false
set_option linter.unusedVariables false
def abB : Bs8 := [97, 98]
def helloB : Bs8 := [104, 101, 108, 108, 111]
def worldB : Bs8 := [119, 111, 114, 108, 100]
def tenB : Bs8 := [48, 49, 50, 51, 52, 53, 54, 55, 56, 57, 48, 49, 50, 51, 52, 53, 54, 55, 56, 57, 48, 49, 50, 51, 52, 53, 54, 55, 56, 57, 48, 49, 50, 51, 52, 53, 54, 55, 56, 57]
def d3 : DK := DK.new 3
theorem open3 : openJ d3 = ⟨[], 0, 0⟩ := by kernel_rfl
theorem open3d : openD d3 = d3 := by kernel_rfl
def dc : DK := (stageD ⟨[], 0, 0⟩ d3 tenB).crash [0, 2]
theorem openc : openJ dc = ⟨[], 0, 0⟩ := by kernel_rfl
theorem readc : (openD dc).now.getD 2 [] = zero32 := by kernel_rfl
theorem ab_frame : (frameB 0 abB).getD 0 [] = [48, 48, 48, 48, 48, 48, 48, 48, 48, 48, 48, 50] ++ digB ([48, 48, 48, 48, 48, 48, 48, 48, 48, 48, 48, 50] ++ abB) ++ [97, 98, 0, 0] := by
  have hd : headB 0 abB = [48, 48, 48, 48, 48, 48, 48, 48, 48, 48, 48, 50] := by kernel_rfl
  have hs : szB abB.length = 1 := rfl
  have hl := frameAll_len 0 abB
  have e : frameAll 0 abB = [48, 48, 48, 48, 48, 48, 48, 48, 48, 48, 48, 50] ++ digB ([48, 48, 48, 48, 48, 48, 48, 48, 48, 48, 48, 50] ++ abB) ++ [97, 98, 0, 0] := by
    unfold frameAll
    rw [hd, hs]
    simp [abB]
  unfold frameB
  rw [hs] at hl ⊢
  show (frameAll 0 abB).take 32 = _
  rw [List.take_of_length_le (by omega), e]
theorem stage3 : stageE ⟨[], 0, 0⟩ d3 helloB = 0 := by kernel_rfl
theorem stage4 : stageE ⟨[], 0, 0⟩ d3 tenB = 0 := by kernel_rfl
theorem world3 (j : JN) (d : DK) (hj : j.fin = 2) (hd : d.now.length = 3) : stageE j d worldB = 16 := by
  unfold stageE
  rw [if_neg (by simp [worldB]), hj, hd, if_pos (by decide)]
theorem dirty3 : (stageD ⟨[], 0, 0⟩ d3 tenB).dirty.length = 3 := by kernel_rfl
end T43


/- The chapter's examples, by the specifications. -/
namespace T43
open Go Fw Go.Proofs
set_option maxRecDepth 100000
set_option maxHeartbeats 8000000
set_option linter.unusedSimpArgs false
set_option linter.unusedVariables false
theorem W_cut {cx : Cx} {A B : ICode} {e : FE} {s : St} {Q : Sig → FE → St → Prop} (P : FE → Prop) (s1 : St) (h1 : ∀ B' Q', (∀ e', P e' → W cx B' e' s1 Q') → W cx (.seq A B') e s Q') (h2 : ∀ e', P e' → W cx B e' s1 Q) : W cx (.seq A B) e s Q := h1 B Q h2
theorem c9 (h : List (Nat × AObj)) (nx lo : Nat) (K : AV → St → Prop) : CallW cx 9 [] { heap := h, next := nx, low := lo } K = K (.bool true) { heap := h, next := nx, low := lo } := by
  refine CallW.eq (CallW.fn' (fn := ir9) rfl rfl (by kernel_rfl) ir9.eq_1 ?_) K
  have k1 := fun st K => c24 0 abB (by omega) (by simp [abB]) st K
  simp only [Int.natCast_zero, Int.cast_ofNat_Int, show szB abB.length = 1 from rfl] at k1
  have k2 := fun st K => c39 [48, 48, 48, 48, 48, 48, 48, 48, 48, 48, 48, 50, 97, 98] (by simp) st K
  have hl2 := digB_len ([48, 48, 48, 48, 48, 48, 48, 48, 48, 48, 48, 50] ++ abB)
  have hfr := ab_frame
  obtain ⟨G, hG⟩ : ∃ G, digB ([48, 48, 48, 48, 48, 48, 48, 48, 48, 48, 48, 50] ++ abB) = G := ⟨_, rfl⟩
  rw [show digB [48, 48, 48, 48, 48, 48, 48, 48, 48, 48, 48, 50, 97, 98] = G from hG] at k2
  rw [hG] at hl2 hfr
  have hfl := frameB_len 0 abB
  obtain ⟨F, hF⟩ : ∃ F, frameB 0 abB = F := ⟨_, rfl⟩
  have hpf := parse_frame 0 abB (by omega) (by simp [abB]) []
  rw [List.append_nil] at hpf
  have h32 := frameB_32 0 abB
  rw [hF] at k1 hfr hfl hpf h32
  have hfl : F.length = 1 := hfl
  have s1 := encS_sub (l := F) (i := 0) (by omega)
  rw [hfr] at s1
  have hZ : ([48, 48, 48, 48, 48, 48, 48, 48, 48, 48, 48, 50] : Bs8) ++ G ++ [97, 98, 0, 0] = 48 :: 48 :: 48 :: 48 :: 48 :: 48 :: 48 :: 48 :: 48 :: 48 :: 48 :: 50 :: (G ++ [97, 98, 0, 0]) := rfl
  rw [hZ] at s1
  have c1 : (G.length + 16 ≤ 9223372036854775807) = True := eq_true (by omega)
  have c2 : (12 + G.length ≤ 9223372036854775807) = True := eq_true (by omega)
  have c3 : ∀ x : Bs8, decide (x ≠ x) = false := fun x => by simp
  have z2 : decide ((0 : Int) ≠ 0) = false := rfl
  have z1 : decide ((1 : Int) ≠ 1) = false := rfl
  rw [show abB = [97, 98] from rfl] at k1
  have g1 : Fw.look nx ((nx, AObj.cells none (encS F)) :: h) = some (.cells none (encS F)) := by simp [Fw.look]
  refine W_cut (fun e => True) { heap := h, next := nx, low := nx } (fun B Q hB => ?_) (fun e hP => ?_)
  · simp (config := {contextual := true, implicitDefEqProofs := false, maxSteps := 4000000}) only [go_sem, ↓reduceIte, Bool.false_eq_true, Nat.reduceEqDiff, Nat.reduceAdd, Int.reduceLE, Int.reduceLT, Int.reduceEq, Int.reduceToNat, Int.toNat_natCast, Int.cast_ofNat_Int, Int.natCast_one, Nat.reduceMod, Nat.reduceDiv, UInt8.reduceToNat, Nat.reduceLT]
    exact hB _ trivial
  refine W_cut (fun e => e 1 = .mslice nx 0 1 none ∧ e 2 = .int .i64 0) { heap := (nx, .cells none (encS F)) :: h, next := nx + 1, low := nx } (fun B Q hB => ?_) (fun e hP => ?_)
  · simp (config := {contextual := true, implicitDefEqProofs := false, maxSteps := 4000000}) only [go_sem, ↓reduceIte, Bool.false_eq_true, Nat.reduceEqDiff, Nat.reduceAdd, Int.reduceLE, Int.reduceLT, Int.reduceEq, Int.reduceToNat, Int.toNat_natCast, Int.cast_ofNat_Int, Int.natCast_one, Nat.reduceMod, Nat.reduceDiv, UInt8.reduceToNat, Nat.reduceLT, k1]
    exact hB _ ⟨rfl, rfl⟩
  obtain ⟨e1, e2⟩ := hP
  refine W_cut (fun e => e 1 = .mslice nx 0 1 none) { heap := (nx, .cells none (encS F)) :: h, next := nx + 1, low := nx } (fun B Q hB => ?_) (fun e hP => ?_)
  · simp (config := {contextual := true, implicitDefEqProofs := false, maxSteps := 4000000}) only [go_sem, ↓reduceIte, Bool.false_eq_true, Nat.reduceEqDiff, Nat.reduceAdd, Int.reduceLE, Int.reduceLT, Int.reduceEq, Int.reduceToNat, Int.toNat_natCast, Int.cast_ofNat_Int, Int.natCast_one, Nat.reduceMod, Nat.reduceDiv, UInt8.reduceToNat, Nat.reduceLT, e1, e2, k2, z2, z1, iaddrA, Nat_mul_one, g1, s1, c1, c2, c3]
    exact hB _ e1
  have e1 := hP
  obtain ⟨h1, n1, a1, p1, en1, f1⟩ := newd_ok ((nx, .cells none (encS F)) :: h) (nx + 1) nx 3 (by omega) (by omega)
  simp only [Int.cast_ofNat_Int] at a1
  have hm : min nx (nx + 1) = nx := by omega
  rw [hm] at a1
  refine W_cut (fun e => e 1 = .mslice nx 0 1 none ∧ e 3 = .ptr (nx + 1 + 3) 0 ∧ e 4 = .int .i64 0) { heap := h1, next := n1, low := nx } (fun B Q hB => ?_) (fun e hP => ?_)
  · simp (config := {contextual := true, implicitDefEqProofs := false, maxSteps := 4000000}) only [go_sem, ↓reduceIte, Bool.false_eq_true, Nat.reduceEqDiff, Nat.reduceAdd, Int.reduceLE, Int.reduceLT, Int.reduceEq, Int.reduceToNat, Int.toNat_natCast, Int.cast_ofNat_Int, Int.natCast_one, Nat.reduceMod, Nat.reduceDiv, UInt8.reduceToNat, Nat.reduceLT, a1]
    exact hB _ ⟨e1, rfl, rfl⟩
  obtain ⟨e1, e3, e4⟩ := hP
  refine W_cut (fun e => e 1 = .mslice nx 0 1 none ∧ e 3 = .ptr (nx + 1 + 3) 0) { heap := h1, next := n1, low := nx } (fun B Q hB => ?_) (fun e hP => ?_)
  · simp (config := {contextual := true, implicitDefEqProofs := false, maxSteps := 4000000}) only [go_sem, ↓reduceIte, Bool.false_eq_true, Nat.reduceEqDiff, Nat.reduceAdd, Int.reduceLE, Int.reduceLT, Int.reduceEq, Int.reduceToNat, Int.toNat_natCast, Int.cast_ofNat_Int, Int.natCast_one, Nat.reduceMod, Nat.reduceDiv, UInt8.reduceToNat, Nat.reduceLT, e4, z2]
    exact hB _ ⟨e1, e3⟩
  obtain ⟨e1, e3⟩ := hP
  have p1 : PD (nx + 1 + 3) (nx + 1) (nx + 1 + 1) (nx + 1 + 2) 3 d3 h1 n1 := p1
  obtain ⟨h2, n2, l2, v2, a2, p2, q2, u2, t2⟩ := open_ok (lo := nx) p1 (by omega)
  rw [open3d] at p2
  rw [open3] at q2
  refine W_cut (fun e => e 1 = .mslice nx 0 1 none ∧ e 5 = .ptr n1 0 ∧ e 6 = .int .i64 0) { heap := h2, next := n2, low := l2 } (fun B Q hB => ?_) (fun e hP => ?_)
  · simp (config := {contextual := true, implicitDefEqProofs := false, maxSteps := 4000000}) only [go_sem, ↓reduceIte, Bool.false_eq_true, Nat.reduceEqDiff, Nat.reduceAdd, Int.reduceLE, Int.reduceLT, Int.reduceEq, Int.reduceToNat, Int.toNat_natCast, Int.cast_ofNat_Int, Int.natCast_one, Nat.reduceMod, Nat.reduceDiv, UInt8.reduceToNat, Nat.reduceLT, e3, a2]
    exact hB _ ⟨e1, rfl, rfl⟩
  obtain ⟨e1, e5, e6⟩ := hP
  obtain ⟨h3, n3, l3, v3, a3, p3, q3, u3, b3, t3⟩ := (append_ok (lo := l2) p2 q2 ⟨Nat.le_refl _, Nat.zero_le _⟩ (by omega) helloB (by simp [helloB])).2 stage3
  have k5 := fun K => c36 (lo := l2) p2 q2 (by decide) K
  have k6 := fun K => c36 (lo := l3) p3 q3 (by decide) K
  have hw := world3 (syncJ (stageJ ⟨[], 0, 0⟩ helloB)) (stageD ⟨[], 0, 0⟩ d3 helloB).sync rfl p3.ok.l1
  have k7 := fun K => (append_ok (lo := l3) p3 q3 ⟨by decide, by rw [p3.ok.l1]; decide⟩ (by omega) worldB (by simp [worldB])).1 (by rw [hw]; decide) K
  rw [hw] at k7
  have k8 := fun K => c34 (lo := l3) q3 K
  rw [show freeV 3 (⟨[], 0, 0⟩ : JN).fin = 68 from rfl] at k5
  rw [show freeV 3 (syncJ (stageJ ⟨[], 0, 0⟩ helloB)).fin = 4 from rfl] at k6
  rw [show (syncJ (stageJ ⟨[], 0, 0⟩ helloB)).dur = 1 from rfl] at k8
  simp only [Int.natCast_one] at k8
  rw [show helloB = [104, 101, 108, 108, 111] from rfl] at a3
  rw [show worldB = [119, 111, 114, 108, 100] from rfl] at k7
  have z3 : decide ((68 : Int) ≠ 68) = false := rfl
  have z4 : decide ((4 : Int) ≠ 4) = false := rfl
  have z5 : decide ((16 : Int) ≠ 16) = false := rfl
  refine W_cut (fun e => e 1 = .mslice nx 0 1 none) { heap := h3, next := n3, low := l3 } (fun B Q hB => ?_) (fun e hP => ?_)
  · simp (config := {contextual := true, implicitDefEqProofs := false, maxSteps := 4000000}) only [go_sem, ↓reduceIte, Bool.false_eq_true, Nat.reduceEqDiff, Nat.reduceAdd, Int.reduceLE, Int.reduceLT, Int.reduceEq, Int.reduceToNat, Int.toNat_natCast, Int.cast_ofNat_Int, Int.natCast_one, Nat.reduceMod, Nat.reduceDiv, UInt8.reduceToNat, Nat.reduceLT, e5, e6, z2, z1, z3, z4, z5, k5, a3, k6, k7, k8]
    exact hB _ e1
  have e1 := hP
  have hc0 : ∀ i, crS (nx + 1) (nx + 1 + 1) (nx + 1 + 2) i → nx + 1 ≤ i := fun i hi => by rcases hi with hi | hi | hi <;> omega
  have hj0 : ∀ i, jnS n1 (nx + 1) (nx + 1 + 1) (nx + 1 + 2) v2 i → nx + 1 ≤ i := fun i hi => by
    rcases hi with hi | hi | hi
    · omega
    · exact hc0 i hi
    · have := t2 i hi; omega
  have u2n := u2.next
  have u3n := u3.next
  have W3 : Fw.look nx h3 = some (.cells none (encS F)) := by
    rw [u3.keep nx (fun hc => by have := hj0 nx hc; omega) (by omega), u2.keep nx (fun hc => by have := hc0 nx hc; omega) (by omega), f1 nx (by omega)]; exact g1
  have lw2 : nx ≤ l2 := u2.low nx (Nat.le_refl _) (by omega) (fun i hi => by have := hc0 i hi; omega)
  have lw3 : nx ≤ l3 := u3.low nx lw2 (by omega) (fun i hi => by have := hj0 i hi; omega)
  have k9 := fun K => c26 F (.mslice nx 0 1 none) { heap := h3, next := n3, low := l3 } (.inr (.inr ⟨nx, none, [], by rw [hfl], by rw [List.append_nil]; exact W3, by show nx < n3; omega⟩)) (by omega) (fun x hx => by rw [h32 x hx]; omega) K
  rw [hpf] at k9
  simp only [parT, Int.natCast_zero, Int.cast_ofNat_Int, show szB abB.length = 1 from rfl, Int.natCast_one] at k9
  rw [show abB = [97, 98] from rfl] at k9
  refine W_cut (fun e => e 7 = .int .i64 0 ∧ e 8 = .str [97, 98] ∧ e 9 = .int .i64 1 ∧ e 10 = .int .i64 0) { heap := h3, next := n3, low := l3 } (fun B Q hB => ?_) (fun e hP => ?_)
  · simp (config := {contextual := true, implicitDefEqProofs := false, maxSteps := 4000000}) only [go_sem, ↓reduceIte, Bool.false_eq_true, Nat.reduceEqDiff, Nat.reduceAdd, Int.reduceLE, Int.reduceLT, Int.reduceEq, Int.reduceToNat, Int.toNat_natCast, Int.cast_ofNat_Int, Int.natCast_one, Nat.reduceMod, Nat.reduceDiv, UInt8.reduceToNat, Nat.reduceLT, e1, k9]
    exact hB _ ⟨rfl, rfl, rfl, rfl⟩
  obtain ⟨e7, e8, e9, e10⟩ := hP
  obtain ⟨h4, n4, a4, p4, en4, f4⟩ := newd_ok h3 n3 l3 3 (by omega) (by omega)
  simp only [Int.cast_ofNat_Int] at a4
  have p4 : PD (n3 + 3) n3 (n3 + 1) (n3 + 2) 3 d3 h4 n4 := p4
  refine W_cut (fun e => e 7 = .int .i64 0 ∧ e 8 = .str [97, 98] ∧ e 9 = .int .i64 1 ∧ e 10 = .int .i64 0 ∧ e 11 = .ptr (n3 + 3) 0) { heap := h4, next := n4, low := min l3 n3 } (fun B Q hB => ?_) (fun e hP => ?_)
  · simp (config := {contextual := true, implicitDefEqProofs := false, maxSteps := 4000000}) only [go_sem, ↓reduceIte, Bool.false_eq_true, Nat.reduceEqDiff, Nat.reduceAdd, Int.reduceLE, Int.reduceLT, Int.reduceEq, Int.reduceToNat, Int.toNat_natCast, Int.cast_ofNat_Int, Int.natCast_one, Nat.reduceMod, Nat.reduceDiv, UInt8.reduceToNat, Nat.reduceLT, a4]
    exact hB _ ⟨e7, e8, e9, e10, rfl⟩
  obtain ⟨e7, e8, e9, e10, e11⟩ := hP
  obtain ⟨h5, n5, l5, v5, a5, p5, q5, u5, t5⟩ := open_ok (lo := min l3 n3) p4 (by omega)
  rw [open3d] at p5
  rw [open3] at q5
  refine W_cut (fun e => e 7 = .int .i64 0 ∧ e 8 = .str [97, 98] ∧ e 9 = .int .i64 1 ∧ e 10 = .int .i64 0 ∧ e 11 = .ptr (n3 + 3) 0 ∧ e 13 = .ptr n4 0) { heap := h5, next := n5, low := l5 } (fun B Q hB => ?_) (fun e hP => ?_)
  · simp (config := {contextual := true, implicitDefEqProofs := false, maxSteps := 4000000}) only [go_sem, ↓reduceIte, Bool.false_eq_true, Nat.reduceEqDiff, Nat.reduceAdd, Int.reduceLE, Int.reduceLT, Int.reduceEq, Int.reduceToNat, Int.toNat_natCast, Int.cast_ofNat_Int, Int.natCast_one, Nat.reduceMod, Nat.reduceDiv, UInt8.reduceToNat, Nat.reduceLT, e11, a5]
    exact hB _ ⟨e7, e8, e9, e10, e11, rfl⟩
  obtain ⟨e7, e8, e9, e10, e11, e13⟩ := hP
  obtain ⟨h6, n6, l6, v6, a6, p6, q6, u6, b6, t6⟩ := (stage_ok (lo := l5) p5 q5 ⟨Nat.le_refl _, Nat.zero_le _⟩ (by omega) tenB (by simp [tenB])).2 stage4
  obtain ⟨w6, r6, k6'⟩ := dirty_ok (lo := l6) p6
  have r6l := r6.lenv
  rw [dirty3] at r6l
  simp only [Int.cast_ofNat_Int] at r6l
  rw [show tenB = [48, 49, 50, 51, 52, 53, 54, 55, 56, 57, 48, 49, 50, 51, 52, 53, 54, 55, 56, 57, 48, 49, 50, 51, 52, 53, 54, 55, 56, 57, 48, 49, 50, 51, 52, 53, 54, 55, 56, 57] from rfl] at a6
  have z6 : decide ((3 : Int) ≠ 3) = false := rfl
  refine W_cut (fun e => e 7 = .int .i64 0 ∧ e 8 = .str [97, 98] ∧ e 9 = .int .i64 1 ∧ e 10 = .int .i64 0 ∧ e 11 = .ptr (n3 + 3) 0) { heap := h6, next := n6, low := l6 } (fun B Q hB => ?_) (fun e hP => ?_)
  · simp (config := {contextual := true, implicitDefEqProofs := false, maxSteps := 4000000}) only [go_sem, ↓reduceIte, Bool.false_eq_true, Nat.reduceEqDiff, Nat.reduceAdd, Int.reduceLE, Int.reduceLT, Int.reduceEq, Int.reduceToNat, Int.toNat_natCast, Int.cast_ofNat_Int, Int.natCast_one, Nat.reduceMod, Nat.reduceDiv, UInt8.reduceToNat, Nat.reduceLT, e11, e13, a6, z2, k6', r6l, z6]
    exact hB _ ⟨e7, e8, e9, e10, e11⟩
  obtain ⟨e7, e8, e9, e10, e11⟩ := hP
  obtain ⟨h7, n7, l7, a7, p7, u7⟩ := crash_ok (lo := l6) p6 (by omega) (.slice [.int .i64 0, .int .i64 2] 2 .full) [0, 2] (.inr ⟨.full, rfl⟩) (by simp)
  refine W_cut (fun e => e 7 = .int .i64 0 ∧ e 8 = .str [97, 98] ∧ e 9 = .int .i64 1 ∧ e 10 = .int .i64 0 ∧ e 11 = .ptr (n3 + 3) 0) { heap := h7, next := n7, low := l7 } (fun B Q hB => ?_) (fun e hP => ?_)
  · simp (config := {contextual := true, implicitDefEqProofs := false, maxSteps := 4000000}) only [go_sem, ↓reduceIte, Bool.false_eq_true, Nat.reduceEqDiff, Nat.reduceAdd, Int.reduceLE, Int.reduceLT, Int.reduceEq, Int.reduceToNat, Int.toNat_natCast, Int.cast_ofNat_Int, Int.natCast_one, Nat.reduceMod, Nat.reduceDiv, UInt8.reduceToNat, Nat.reduceLT, e11, a7]
    exact hB _ ⟨e7, e8, e9, e10, e11⟩
  obtain ⟨e7, e8, e9, e10, e11⟩ := hP
  have p7 : PD (n3 + 3) n3 (n3 + 1) (n3 + 2) 3 dc h7 n7 := p7
  obtain ⟨h8, n8, l8, v8, a8, p8, q8, u8, t8⟩ := open_ok (lo := l7) p7 (by omega)
  rw [openc] at q8
  refine W_cut (fun e => e 7 = .int .i64 0 ∧ e 8 = .str [97, 98] ∧ e 9 = .int .i64 1 ∧ e 10 = .int .i64 0 ∧ e 11 = .ptr (n3 + 3) 0 ∧ e 15 = .ptr n7 0) { heap := h8, next := n8, low := l8 } (fun B Q hB => ?_) (fun e hP => ?_)
  · simp (config := {contextual := true, implicitDefEqProofs := false, maxSteps := 4000000}) only [go_sem, ↓reduceIte, Bool.false_eq_true, Nat.reduceEqDiff, Nat.reduceAdd, Int.reduceLE, Int.reduceLT, Int.reduceEq, Int.reduceToNat, Int.toNat_natCast, Int.cast_ofNat_Int, Int.natCast_one, Nat.reduceMod, Nat.reduceDiv, UInt8.reduceToNat, Nat.reduceLT, e11, a8]
    exact hB _ ⟨e7, e8, e9, e10, e11, rfl⟩
  obtain ⟨e7, e8, e9, e10, e11, e15⟩ := hP
  have k10 := fun K => c22 (lo := l8) p8 2 K
  have hrd : readT (openD dc) 2 = .tuple [.str zero32, .int .i64 0] := by
    unfold readT
    rw [p8.ok.l1, if_neg (by omega), show ((2 : Int)).toNat = 2 from rfl, readc]
  rw [hrd] at k10
  refine W_cut (fun e => e 7 = .int .i64 0 ∧ e 8 = .str [97, 98] ∧ e 9 = .int .i64 1 ∧ e 10 = .int .i64 0 ∧ e 15 = .ptr n7 0 ∧ e 17 = .str zero32 ∧ e 18 = .int .i64 0) { heap := h8, next := n8, low := l8 } (fun B Q hB => ?_) (fun e hP => ?_)
  · simp (config := {contextual := true, implicitDefEqProofs := false, maxSteps := 4000000}) only [go_sem, ↓reduceIte, Bool.false_eq_true, Nat.reduceEqDiff, Nat.reduceAdd, Int.reduceLE, Int.reduceLT, Int.reduceEq, Int.reduceToNat, Int.toNat_natCast, Int.cast_ofNat_Int, Int.natCast_one, Nat.reduceMod, Nat.reduceDiv, UInt8.reduceToNat, Nat.reduceLT, e11, k10]
    exact hB _ ⟨e7, e8, e9, e10, e15, rfl, rfl⟩
  obtain ⟨e7, e8, e9, e10, e15, e17, e18⟩ := hP
  obtain ⟨wr, r8, k11⟩ := records_ok (lo := l8) q8 (by decide)
  have r8' : wr = .nilslice ∨ wr = .slice [] 0 .no := by
    rcases r8 with ⟨r8, _⟩ | r8
    · exact .inl r8
    · exact .inr r8
  have hlr : lenvA wr = some (.int .i64 0) := by rcases r8' with rfl | rfl <;> rfl
  have m1 : ∀ st : St, mkslA st 1 [.int .u8 0] (.int .i64 32) (.int .i64 32) = some (.mslice st.next 0 32 (some 32), st.new (.cells none (List.replicate 32 (.int .u8 0)))) := by
    intro st
    simp only [mkslA]
    rw [if_pos (by refine ⟨by omega, by omega, ?_⟩; decide)]
    rfl
  have b1 : ∀ (h : List (Nat × AObj)) (n l : Nat), b2sA { heap := (n, .cells none (List.replicate 32 (.int .u8 0))) :: h, next := n + 1, low := l } (.mslice n 0 32 (some 32)) = some (.str zero32) := by
    intro h n l
    exact b2s_m (ty := none) (by simp only [Fw.look, if_true]) (sub_all (by simp)) (bytes_zero 32)
  have z7 : decide ((0 : Int) = 0) = true := rfl
  have z8 : decide ((1 : Int) = 1) = true := rfl
  have z9 : decide (([97, 98] : Bs8) = [97, 98]) = true := by decide
  have z10 : decide (zero32 = zero32) = true := by simp
  have hc4 : ∀ i, crS n3 (n3 + 1) (n3 + 2) i → nx ≤ i := fun i hi => by rcases hi with hi | hi | hi <;> omega
  have hj4 : ∀ i, jnS n4 n3 (n3 + 1) (n3 + 2) v5 i → nx ≤ i := fun i hi => by
    rcases hi with hi | hi | hi
    · omega
    · exact hc4 i hi
    · have := t5 i hi; omega
  have u5n := u5.next
  have u6n := u6.next
  have u7n := u7.next
  have lw5 : nx ≤ l5 := u5.low nx (by omega) (by omega) hc4
  have lw6 : nx ≤ l6 := u6.low nx lw5 (by omega) hj4
  have lw7 : nx ≤ l7 := u7.low nx lw6 (by omega) hc4
  have lw8 : nx ≤ l8 := u8.low nx lw7 (by omega) hc4
  have q9 : ∀ i : Nat, evEq .ptr (.ptr i 0) .nilptr = some false := fun _ => rfl
  simp (config := {contextual := true, implicitDefEqProofs := false, maxSteps := 4000000}) only [go_sem, ↓reduceIte, Bool.false_eq_true, Nat.reduceEqDiff, Nat.reduceAdd, Int.reduceLE, Int.reduceLT, Int.reduceEq, Int.reduceToNat, Int.toNat_natCast, Int.cast_ofNat_Int, Int.natCast_one, Nat.reduceMod, Nat.reduceDiv, UInt8.reduceToNat, Nat.reduceLT, e7, e8, e9, e10, e15, e17, e18, z7, z8, z9, k11, hlr, m1, b1, z10, q9, Bool.not_false]
  rw [LeaveW_flat rfl lw8]
  exact ⟨rfl, rfl⟩
end T43


/- Two rows alike; the frames' law. -/
namespace T43
open Go Fw Go.Proofs Go.RowKit
set_option maxRecDepth 100000
set_option maxHeartbeats 8000000
set_option linter.unusedSimpArgs false
set_option linter.unusedVariables false
theorem strs_es {f : Nat} : ∀ es : List (List AV), (∀ x ∈ es, Ty Tryd.prog f 9 x) → ∃ xs : List Bs8, es.flatten = encS xs ∧ es.length = xs.length
  | [], _ => ⟨[], rfl, rfl⟩
  | e :: es, h1 => by
    obtain ⟨xs, h2, h3⟩ := strs_es es (fun x hx => h1 x (by simp [hx]))
    obtain ⟨s, rfl, _⟩ := Ty_string Tryd.underlying9 (h1 e (by simp))
    exact ⟨s :: xs, by rw [List.flatten_cons, h2]; rfl, by simp [h3]⟩
theorem TyArg_strs {a : AV} (h : TyArg Tryd.prog 42 a) : ∃ xs : List Bs8, (a = .nilslice ∧ xs = []) ∨ a = .slice (encS xs) xs.length .no := by
  rcases TyArg_slice Tryd.underlying42 h with rfl | ⟨f, es, h1, _, rfl⟩
  · exact ⟨[], .inl ⟨rfl, rfl⟩⟩
  · obtain ⟨xs, h2, h3⟩ := strs_es es (fun x hx => (h1 x hx).1)
    exact ⟨xs, .inr (by rw [h2, h3])⟩
theorem RowS.slice {st : St} {xs : List Bs8} {o : Own} : RowS st (.slice (encS xs) xs.length o) xs := .inl ⟨o, rfl⟩
end T43


/- Laws: frames. -/
namespace T43
open Go Fw Go.Proofs Go.RowKit
set_option maxRecDepth 100000
set_option maxHeartbeats 8000000
set_option linter.unusedSimpArgs false
set_option linter.unusedVariables false
/-- The argument's row. -/
def ArgS (v : AV) (xs : List Bs8) : Prop := (v = .nilslice ∧ xs = []) ∨ v = .slice (encS xs) xs.length .no
theorem ArgS.row {v : AV} {xs : List Bs8} (h : ArgS v xs) (st : St) : RowS st v xs := by
  rcases h with h | h
  · exact .inr (.inl h)
  · exact .inl ⟨.no, h⟩
theorem l4 (xs : List Bs8) (v : AV) (hv : ArgS v xs) (hx : xs.length ≤ 1000) (h : List (Nat × AObj)) (nx lo : Nat) (r n : AV) (Q : Sig → FE → St → Prop) : ∀ (m i : Nat) (e : FE), i + m = xs.length → (∀ j, j < i → (xs.getD j []).length ≤ 100) → e 2 = v → e 7 = .int .i64 (i : Int) → e 0 = n → e 1 = r →
    (∀ e', (∀ x ∈ xs, x.length ≤ 100) → e' 2 = v → e' 0 = n → e' 1 = r → Q (.exit 0) e' { heap := h, next := nx, low := lo }) → (∀ e', e' 6 = .bool true → Q .ret e' { heap := h, next := nx, low := lo }) → WLoop cx ir4L0 e { heap := h, next := nx, low := lo } Q
  | 0, i, e, hi, hal, h2, h7, h0, h1, hQ, hR => by
    refine WLoop.rnd (c := _) ir4L0.eq_1 ?_
    have d1 : decide ((i : Int) < (xs.length : Int)) = false := decide_eq_false (by omega)
    have hlv := (hv.row { heap := [], next := 0, low := 0 }).lenv
    simp (config := {contextual := true, implicitDefEqProofs := false, maxSteps := 4000000}) only [go_sem, ↓reduceIte, Bool.false_eq_true, Nat.reduceEqDiff, Nat.reduceAdd, Int.reduceLE, Int.reduceLT, Int.reduceEq, Int.reduceToNat, Int.toNat_natCast, Int.cast_ofNat_Int, Int.natCast_one, Nat.reduceMod, Nat.reduceDiv, UInt8.reduceToNat, Nat.reduceLT, h2, h7, hlv, d1]
    refine hQ _ (fun x hx => ?_) h2 h0 h1
    obtain ⟨j, hj, rfl⟩ := List.getElem_of_mem hx
    have := hal j (by omega)
    rw [List.getD_eq_getElem?_getD, List.getElem?_eq_getElem hj] at this
    simpa using this
  | m + 1, i, e, hi, hal, h2, h7, h0, h1, hQ, hR => by
    refine WLoop.rnd (c := _) ir4L0.eq_1 ?_
    have d1 : decide ((i : Int) < (xs.length : Int)) = true := decide_eq_true (by omega)
    have hlv := (hv.row { heap := [], next := 0, low := 0 }).lenv
    have hwr := wrap_one (i := i) (by omega)
    obtain ⟨p, p1, p2, _⟩ := (hv.row { heap := h, next := nx, low := lo }).at (i := i) (by omega)
    have p2 := p2 lo
    dsimp only at p2
    obtain ⟨x, hxx⟩ : ∃ x, xs.getD i [] = x := ⟨_, rfl⟩
    rw [hxx] at p2
    by_cases hl : 100 < x.length
    · have d2 : decide ((100 : Int) < (x.length : Int)) = true := decide_eq_true (by omega)
      simp (config := {contextual := true, implicitDefEqProofs := false, maxSteps := 4000000}) only [go_sem, ↓reduceIte, Bool.false_eq_true, Nat.reduceEqDiff, Nat.reduceAdd, Int.reduceLE, Int.reduceLT, Int.reduceEq, Int.reduceToNat, Int.toNat_natCast, Int.cast_ofNat_Int, Int.natCast_one, Nat.reduceMod, Nat.reduceDiv, UInt8.reduceToNat, Nat.reduceLT, h2, h7, hlv, d1, p1, p2, d2]
      exact hR _ rfl
    · have d2 : decide ((100 : Int) < (x.length : Int)) = false := decide_eq_false (by omega)
      simp (config := {contextual := true, implicitDefEqProofs := false, maxSteps := 4000000}) only [go_sem, ↓reduceIte, Bool.false_eq_true, Nat.reduceEqDiff, Nat.reduceAdd, Int.reduceLE, Int.reduceLT, Int.reduceEq, Int.reduceToNat, Int.toNat_natCast, Int.cast_ofNat_Int, Int.natCast_one, Nat.reduceMod, Nat.reduceDiv, UInt8.reduceToNat, Nat.reduceLT, h2, h7, hlv, d1, p1, p2, d2, hwr]
      refine l4 xs v hv hx h nx lo r n Q m (i + 1) _ (by omega) (fun j hj => ?_) h2 rfl h0 h1 hQ hR
      by_cases hji : j = i
      · rw [hji, hxx]; omega
      · exact hal j (by omega)
end T43


/- Room: the sum of the lengths, and what is free. -/
namespace T43
open Go Fw Go.Proofs Go.RowKit
set_option maxRecDepth 100000
set_option maxHeartbeats 8000000
set_option linter.unusedSimpArgs false
set_option linter.unusedVariables false
def totS (a : Int) (x : Bs8) : Int := IntKind.i64.wrap (a + (x.length : Int))
/-- The sum as the program counts it. -/
def totW (xs : List Bs8) : Int := xs.foldl totS 0
def totN (xs : List Bs8) : Nat := (xs.map List.length).sum
theorem totW_take {xs : List Bs8} {i : Nat} (h : i < xs.length) : totW (xs.take (i + 1)) = IntKind.i64.wrap (totW (xs.take i) + ((xs.getD i []).length : Int)) := by
  have e : xs.take (i + 1) = xs.take i ++ [xs.getD i []] := by
    rw [List.take_add_one, List.getD_eq_getElem?_getD, List.getElem?_eq_getElem h]; rfl
  rw [e]
  simp only [totW, List.foldl_append, List.foldl_cons, List.foldl_nil, totS]
theorem totF {M : Nat} : ∀ (xs : List Bs8) (a : Nat), (∀ x ∈ xs, x.length ≤ M) → a + xs.length * M < 9223372036854775808 → xs.foldl totS (a : Int) = ((a + totN xs : Nat) : Int)
  | [], a, _, _ => by simp [totN]
  | x :: xs, a, hx, hb => by
    have h1 := hx x (by simp)
    rw [List.length_cons, Nat.succ_mul] at hb
    have h2 : totS (a : Int) x = ((a + x.length : Nat) : Int) := by
      unfold totS
      rw [wrap_i64 (by omega) (by omega)]; omega
    rw [List.foldl_cons, h2, totF xs (a + x.length) (fun y hy => hx y (by simp [hy])) (by omega)]
    simp only [totN, List.map_cons, List.sum_cons]; omega
theorem totW_eq {xs : List Bs8} (hx : ∀ x ∈ xs, x.length ≤ 140737488351232) (hl : xs.length ≤ 1000) : totW xs = (totN xs : Int) := by
  have := totF xs 0 hx (by omega)
  simpa [totW] using this
theorem tot_mem : ∀ {xs : List Bs8} {x : Bs8}, x ∈ xs → x.length ≤ totN xs
  | y :: xs, x, h => by
    simp only [totN, List.map_cons, List.sum_cons]
    rcases List.mem_cons.1 h with rfl | h
    · omega
    · have := tot_mem h; simp only [totN] at this; omega
theorem l29 (xs : List Bs8) (v : AV) (hv : ArgS v xs) (hx : xs.length ≤ 1000000) (h : List (Nat × AObj)) (nx lo : Nat) (Q : Sig → FE → St → Prop) : ∀ (m i : Nat) (e : FE), i + m = xs.length → e 0 = v → e 4 = .int .i64 (i : Int) → e 3 = .int .i64 (totW (xs.take i)) →
    (∀ e', e' 3 = .int .i64 (totW xs) → Q (.exit 0) e' { heap := h, next := nx, low := lo }) → WLoop cx ir29L0 e { heap := h, next := nx, low := lo } Q
  | 0, i, e, hi, h0, h4, h3, hQ => by
    refine WLoop.rnd (c := _) ir29L0.eq_1 ?_
    have d1 : decide ((i : Int) < (xs.length : Int)) = false := decide_eq_false (by omega)
    have hlv := (hv.row { heap := [], next := 0, low := 0 }).lenv
    simp (config := {contextual := true, implicitDefEqProofs := false, maxSteps := 4000000}) only [go_sem, ↓reduceIte, Bool.false_eq_true, Nat.reduceEqDiff, Nat.reduceAdd, Int.reduceLE, Int.reduceLT, Int.reduceEq, Int.reduceToNat, Int.toNat_natCast, Int.cast_ofNat_Int, Int.natCast_one, Nat.reduceMod, Nat.reduceDiv, UInt8.reduceToNat, Nat.reduceLT, h0, h4, hlv, d1]
    refine hQ _ ?_
    show e 3 = _
    rw [h3, List.take_of_length_le (by omega)]
  | m + 1, i, e, hi, h0, h4, h3, hQ => by
    refine WLoop.rnd (c := _) ir29L0.eq_1 ?_
    have d1 : decide ((i : Int) < (xs.length : Int)) = true := decide_eq_true (by omega)
    have hlv := (hv.row { heap := [], next := 0, low := 0 }).lenv
    have hwr := wrap_one (i := i) (by omega)
    obtain ⟨p, p1, p2, _⟩ := (hv.row { heap := h, next := nx, low := lo }).at (i := i) (by omega)
    have p2 := p2 lo
    dsimp only at p2
    have ht := totW_take (xs := xs) (i := i) (by omega)
    obtain ⟨x, hxx⟩ : ∃ x, xs.getD i [] = x := ⟨_, rfl⟩
    rw [hxx] at p2 ht
    simp (config := {contextual := true, implicitDefEqProofs := false, maxSteps := 4000000}) only [go_sem, ↓reduceIte, Bool.false_eq_true, Nat.reduceEqDiff, Nat.reduceAdd, Int.reduceLE, Int.reduceLT, Int.reduceEq, Int.reduceToNat, Int.toNat_natCast, Int.cast_ofNat_Int, Int.natCast_one, Nat.reduceMod, Nat.reduceDiv, UInt8.reduceToNat, Nat.reduceLT, h0, h4, h3, hlv, d1, p1, p2, hwr]
    refine l29 xs v hv hx h nx lo Q m (i + 1) _ (by omega) h0 rfl ?_ hQ
    rw [ht]; rfl
theorem c29 (xs : List Bs8) (v : AV) (hv : ArgS v xs) (hx : xs.length ≤ 1000000) (s : St) (K : AV → St → Prop) : CallW cx 29 [v] s K = K (.int .i64 (totW xs)) s := by
  refine CallW.eq (CallW.fn' (fn := ir29) rfl rfl (by kernel_rfl) ir29.eq_1 ?_) K
  simp (config := {contextual := true, implicitDefEqProofs := false, maxSteps := 4000000}) only [go_sem, ↓reduceIte, Bool.false_eq_true, Nat.reduceEqDiff, Nat.reduceAdd, Int.reduceLE, Int.reduceLT, Int.reduceEq, Int.reduceToNat, Int.toNat_natCast, Int.cast_ofNat_Int, Int.natCast_one, Nat.reduceMod, Nat.reduceDiv, UInt8.reduceToNat, Nat.reduceLT]
  refine l29 xs v hv hx _ _ _ _ xs.length 0 _ (by omega) rfl rfl rfl ?_
  intro e' h3
  simp (config := {contextual := true, implicitDefEqProofs := false, maxSteps := 4000000}) only [go_sem, ↓reduceIte, Bool.false_eq_true, Nat.reduceEqDiff, Nat.reduceAdd, Int.reduceLE, Int.reduceLT, Int.reduceEq, Int.reduceToNat, Int.toNat_natCast, Int.cast_ofNat_Int, Int.natCast_one, Nat.reduceMod, Nat.reduceDiv, UInt8.reduceToNat, Nat.reduceLT, h3]
/-- What is free, and which records go in. -/
theorem free_le {n f : Nat} : -1 ≤ freeV n f ∧ freeV n f ≤ 1024 := by
  unfold freeV; split <;> omega
theorem free_mono {n f g : Nat} (h : f ≤ g) : freeV n g ≤ freeV n f := by
  unfold freeV; split <;> split <;> omega
theorem stage_iff {j : JN} {d : DK} {r : Bs8} {n : Nat} (hl : d.now.length = n) : (stageE j d r = 0 ↔ (r.length : Int) ≤ freeV n j.fin) ∧ (stageE j d r = 0 ∨ stageE j d r = 7 ∧ 1024 < r.length ∨ stageE j d r = 16 ∧ r.length ≤ 1024) := by
  unfold stageE freeV szB
  rw [hl]
  split
  · rename_i h
    refine ⟨⟨fun h2 => ?_, fun h2 => ?_⟩, .inr (.inl ⟨rfl, h⟩)⟩
    · cases h2
    · split at h2 <;> omega
  · rename_i h
    split
    · rename_i h1
      refine ⟨⟨fun h2 => ?_, fun h2 => ?_⟩, .inr (.inr ⟨rfl, by omega⟩)⟩
      · cases h2
      · split at h2 <;> omega
    · rename_i h1
      refine ⟨⟨fun _ => ?_, fun _ => rfl⟩, .inl rfl⟩
      split <;> omega
end T43


/- Law Room. -/
namespace T43
open Go Fw Go.Proofs Go.RowKit
set_option maxRecDepth 100000
set_option maxHeartbeats 8000000
set_option linter.unusedSimpArgs false
set_option linter.unusedVariables false
theorem Upd_cons {S : Nat → Prop} {h : List (Nat × AObj)} {nx lo : Nat} {o : AObj} : Upd S h nx lo ((nx, o) :: h) (nx + 1) lo :=
  ⟨Nat.le_succ _, fun i _ hi => by simp only [Fw.look]; rw [if_neg (by omega)], fun L h1 _ _ => h1⟩
theorem PD_cons {D A B C n : Nat} {d : DK} {h : List (Nat × AObj)} {nx : Nat} (p : PD D A B C n d h nx) (o : AObj) : PD D A B C n d ((nx, o) :: h) (nx + 1) :=
  p.keep (Nat.le_succ _) fun i hi => by simp only [Fw.look]; rw [if_neg (by omega)]
theorem PJ_cons {J D A B C : Nat} {j : JN} {v : AV} {h : List (Nat × AObj)} {nx : Nat} (q : PJ J D A B C j v h nx) (o : AObj) : PJ J D A B C j v ((nx, o) :: h) (nx + 1) :=
  q.keep (lo := 0) (lo' := 0) Upd_cons
/-- make([]byte, m), and its text. -/
theorem mk_bytes (st : St) (m : Nat) (hm : m ≤ 1000000) : mkslA st 1 [.int .u8 0] (.int .i64 (m : Int)) (.int .i64 (m : Int)) = some (.mslice st.next 0 m (some m), st.new (.cells none (List.replicate m (.int .u8 0)))) := by
  simp only [mkslA]
  rw [if_pos (by refine ⟨by omega, by omega, ?_⟩; rw [Int.toNat_natCast]; unfold room; omega)]
  simp only [Int.toNat_natCast, flat_zero]
theorem b2s_bytes (h : List (Nat × AObj)) (n l m : Nat) : b2sA { heap := (n, .cells none (List.replicate m (.int .u8 0))) :: h, next := n + 1, low := l } (.mslice n 0 m (some m)) = some (.str (List.replicate m 0)) :=
  b2s_m (ty := none) (by simp only [Fw.look, if_true]) (sub_all (by simp)) (bytes_zero m)
section
variable {J D A B C n : Nat}
theorem l8 (xs : List Bs8) (w : AV) (hv : ArgS w xs) (hx : xs.length ≤ 1000) (hs : ∀ x ∈ xs, x.length ≤ 600) (hn1 : 1 ≤ n) (Q : Sig → FE → St → Prop) : ∀ (m i : Nat) (e : FE) (d : DK) (j : JN) (v : AV) (h : List (Nat × AObj)) (nx lo : Nat) (last : Int), i + m = xs.length → PD D A B C n d h nx → PJ J D A B C j v h nx → JNok j d → freeV n j.fin ≤ last → e 1 = w → e 7 = .ptr J 0 → e 9 = .int .i64 last → e 10 = .int .i64 (i : Int) →
    (∀ e' h' nx' lo' d' j' v', PD D A B C n d' h' nx' → PJ J D A B C j' v' h' nx' → JNok j' d' → e' 7 = .ptr J 0 → Q (.exit 0) e' { heap := h', next := nx', low := lo' }) → WLoop cx ir8L0 e { heap := h, next := nx, low := lo } Q
  | 0, i, e, d, j, v, h, nx, lo, last, hi, p, q, hjn, hf, h1, h7, h9, h10, hQ => by
    refine WLoop.rnd (c := _) ir8L0.eq_1 ?_
    have d1 : decide ((i : Int) < (xs.length : Int)) = false := decide_eq_false (by omega)
    have hlv := (hv.row { heap := [], next := 0, low := 0 }).lenv
    simp (config := {contextual := true, implicitDefEqProofs := false, maxSteps := 4000000}) only [go_sem, ↓reduceIte, Bool.false_eq_true, Nat.reduceEqDiff, Nat.reduceAdd, Int.reduceLE, Int.reduceLT, Int.reduceEq, Int.reduceToNat, Int.toNat_natCast, Int.cast_ofNat_Int, Int.natCast_one, Nat.reduceMod, Nat.reduceDiv, UInt8.reduceToNat, Nat.reduceLT, h1, h7, h9, h10, hlv, d1]
    exact hQ _ h nx lo d j v p q hjn h7
  | m + 1, i, e, d, j, v, h, nx, lo, last, hi, p, q, hjn, hf, h1, h7, h9, h10, hQ => by
    refine WLoop.rnd (c := _) ir8L0.eq_1 ?_
    have d1 : decide ((i : Int) < (xs.length : Int)) = true := decide_eq_true (by omega)
    have hlv := (hv.row { heap := [], next := 0, low := 0 }).lenv
    have hwr := wrap_one (i := i) (by omega)
    have hfl := free_le (n := n) (f := j.fin)
    have hfin : j.fin ≤ n := by have := hjn.b; rw [p.ok.l1] at this; exact this
    have k1 := fun K => c36 (lo := lo) p q hfin K
    have d2 : decide (last < freeV n j.fin) = false := decide_eq_false (by omega)
    have d3 : decide (freeV n j.fin < -1) = false := decide_eq_false (by omega)
    have d4 : decide (1024 < freeV n j.fin) = false := decide_eq_false (by omega)
    obtain ⟨r, r1, r2, r3⟩ := (hv.row { heap := h, next := nx, low := lo }).at (i := i) (by omega)
    have hxl := hs (xs.getD i []) (by rw [List.getD_eq_getElem?_getD, List.getElem?_eq_getElem (show i < xs.length by omega)]; simp)
    obtain ⟨x, hxx⟩ : ∃ x, xs.getD i [] = x := ⟨_, rfl⟩
    rw [hxx] at r2 hxl
    have r2' := r2 lo
    dsimp only at r2'
    obtain ⟨g1, g2⟩ := stage_iff (j := j) (r := x) p.ok.l1
    obtain ⟨a1, a2⟩ := append_ok (lo := lo) p q hjn hn1 x (by omega)
    obtain ⟨f, hff⟩ : ∃ f, freeV n j.fin = f := ⟨_, rfl⟩
    rw [hff] at k1 d2 d3 d4 g1 hf hfl
    have hw : w = .nilslice ∨ ∃ o, w = .slice (encS xs) xs.length o := by
      rcases hv with ⟨hv, _⟩ | hv
      · exact .inl hv
      · exact .inr ⟨_, hv⟩
    by_cases he : stageE j d x = 0
    · obtain ⟨h', nx', lo', v', b1, b2, b3, b4, b5, b6⟩ := a2 he
      have d5 : decide ((x.length : Int) ≤ f) = true := decide_eq_true (g1.1 he)
      obtain ⟨r', r1', r2''⟩ : ∃ r', iaddrA 1 none w (i : Int) = some r' ∧ ∀ h nx l, loadA { heap := h, next := nx, low := l } false 1 r' = some (.str x) := by
        rcases hv with ⟨hv, hv2⟩ | hv
        · exfalso; rw [hv2] at hi; simp at hi
        · have hr0 : RowS { heap := [], next := 0, low := 0 } w xs := .inl ⟨_, hv⟩
          refine ⟨.vptr (encS xs) i, ?_, fun h nx l => ?_⟩
          · rw [hv]; simp only [iaddrA]; rw [if_pos (by omega)]; simp
          · simp only [loadA, sub_encS (show i < xs.length by omega), Option.bind_some, ofCells, Bool.false_eq_true, if_false, hxx]
      have z1 : decide ((0 : Int) = 0) = true := rfl
      have z2 : decide ((0 : Int) ≠ 0) = false := rfl
      simp (config := {contextual := true, implicitDefEqProofs := false, maxSteps := 4000000}) only [go_sem, ↓reduceIte, Bool.false_eq_true, Nat.reduceEqDiff, Nat.reduceAdd, Int.reduceLE, Int.reduceLT, Int.reduceEq, Int.reduceToNat, Int.toNat_natCast, Int.cast_ofNat_Int, Int.natCast_one, Nat.reduceMod, Nat.reduceDiv, UInt8.reduceToNat, Nat.reduceLT, h1, h7, h9, h10, hlv, d1, k1, d2, d3, d4, r1', r2'', b1, d5, z1, z2, hwr]
      refine l8 xs w hv hx hs hn1 Q m (i + 1) _ _ _ v' h' nx' _ f (by omega) b2 b3 ?_ ?_ h1 h7 rfl rfl hQ
      · have := stageJ_ok p.ok hjn he
        exact ⟨this.a, this.b⟩
      · rw [← hff]; exact free_mono (by show j.fin ≤ j.fin + _; omega)
    · have d5 : decide ((x.length : Int) ≤ f) = false := decide_eq_false (fun h => he (g1.2 h))
      have e16 : stageE j d x = 16 := by rcases g2 with g2 | g2 | g2 <;> omega
      have b1 := fun K => a1 he K
      rw [e16] at b1
      have z1 : decide ((16 : Int) = 0) = false := rfl
      have z2 : decide ((16 : Int) ≠ 0) = true := rfl
      have z3 : decide ((16 : Int) ≠ 16) = false := rfl
      simp (config := {contextual := true, implicitDefEqProofs := false, maxSteps := 4000000}) only [go_sem, ↓reduceIte, Bool.false_eq_true, Nat.reduceEqDiff, Nat.reduceAdd, Int.reduceLE, Int.reduceLT, Int.reduceEq, Int.reduceToNat, Int.toNat_natCast, Int.cast_ofNat_Int, Int.natCast_one, Nat.reduceMod, Nat.reduceDiv, UInt8.reduceToNat, Nat.reduceLT, h1, h7, h9, h10, hlv, d1, k1, d2, d3, d4, r1, r2', b1, d5, z1, z2, z3, hwr]
      refine l8 xs w hv hx hs hn1 Q m (i + 1) _ _ _ v h nx _ f (by omega) p q hjn ?_ h1 h7 rfl rfl hQ
      rw [hff]; exact Int.le_refl _
end
end T43


/- Law Room, whole. -/
namespace T43
open Go Fw Go.Proofs Go.RowKit
set_option maxRecDepth 100000
set_option maxHeartbeats 8000000
set_option linter.unusedSimpArgs false
set_option linter.unusedVariables false
theorem W_cut2 {cx : Cx} {A B : ICode} {e : FE} {s : St} {Q : Sig → FE → St → Prop} (P : FE → St → Prop) (h1 : ∀ B' Q', (∀ e' s', P e' s' → W cx B' e' s' Q') → W cx (.seq A B') e s Q') (h2 : ∀ e' s', P e' s' → W cx B e' s' Q) : W cx (.seq A B) e s Q := h1 B Q h2
theorem law8 (n : Int) (xs : List Bs8) (w : AV) (hv : ArgS w xs) (hsh : ∀ x ∈ xs, x.length ≤ 140737488351232) : CallW cx 8 [.int .i64 n, w] { heap := [], next := 0, low := 0 } fun v _ => v = .bool true := by
  refine CallW.fn' (fn := ir8) rfl rfl (by kernel_rfl) ir8.eq_1 ?_
  have hlv := (hv.row { heap := [], next := 0, low := 0 }).lenv
  by_cases c1 : n < 1
  · have d1 : decide (n < 1) = true := decide_eq_true c1
    simp (config := {contextual := true, implicitDefEqProofs := false, maxSteps := 4000000}) only [go_sem, ↓reduceIte, Bool.false_eq_true, Nat.reduceEqDiff, Nat.reduceAdd, Int.reduceLE, Int.reduceLT, Int.reduceEq, Int.reduceToNat, Int.toNat_natCast, Int.cast_ofNat_Int, Int.natCast_one, Nat.reduceMod, Nat.reduceDiv, UInt8.reduceToNat, Nat.reduceLT, c9, d1, Bool.not_true]
  have d1 : decide (n < 1) = false := decide_eq_false c1
  by_cases c2 : 40 < n
  · have d2 : decide (40 < n) = true := decide_eq_true c2
    simp (config := {contextual := true, implicitDefEqProofs := false, maxSteps := 4000000}) only [go_sem, ↓reduceIte, Bool.false_eq_true, Nat.reduceEqDiff, Nat.reduceAdd, Int.reduceLE, Int.reduceLT, Int.reduceEq, Int.reduceToNat, Int.toNat_natCast, Int.cast_ofNat_Int, Int.natCast_one, Nat.reduceMod, Nat.reduceDiv, UInt8.reduceToNat, Nat.reduceLT, c9, d1, d2, Bool.not_true]
  have d2 : decide (40 < n) = false := decide_eq_false c2
  by_cases c3 : 8 < xs.length
  · have d3 : decide ((8 : Int) < (xs.length : Int)) = true := decide_eq_true (by omega)
    simp (config := {contextual := true, implicitDefEqProofs := false, maxSteps := 4000000}) only [go_sem, ↓reduceIte, Bool.false_eq_true, Nat.reduceEqDiff, Nat.reduceAdd, Int.reduceLE, Int.reduceLT, Int.reduceEq, Int.reduceToNat, Int.toNat_natCast, Int.cast_ofNat_Int, Int.natCast_one, Nat.reduceMod, Nat.reduceDiv, UInt8.reduceToNat, Nat.reduceLT, c9, d1, d2, d3, hlv, Bool.not_true]
  have d3 : decide ((8 : Int) < (xs.length : Int)) = false := decide_eq_false (by omega)
  have kt := fun s K => c29 xs w hv (by omega) s K
  rw [totW_eq hsh (by omega)] at kt
  by_cases c4 : 600 < totN xs
  · have d4 : decide ((600 : Int) < (totN xs : Int)) = true := decide_eq_true (by omega)
    simp (config := {contextual := true, implicitDefEqProofs := false, maxSteps := 4000000}) only [go_sem, ↓reduceIte, Bool.false_eq_true, Nat.reduceEqDiff, Nat.reduceAdd, Int.reduceLE, Int.reduceLT, Int.reduceEq, Int.reduceToNat, Int.toNat_natCast, Int.cast_ofNat_Int, Int.natCast_one, Nat.reduceMod, Nat.reduceDiv, UInt8.reduceToNat, Nat.reduceLT, c9, d1, d2, d3, d4, hlv, kt, Bool.not_true]
  have d4 : decide ((600 : Int) < (totN xs : Int)) = false := decide_eq_false (by omega)
  have hs : ∀ x ∈ xs, x.length ≤ 600 := fun x hx => by have := tot_mem hx; omega
  obtain ⟨m, rfl⟩ : ∃ m : Nat, n = (m : Int) := ⟨n.toNat, by omega⟩
  have hm1 : 1 ≤ m := by omega
  have z2 : decide ((0 : Int) ≠ 0) = false := rfl
  refine W_cut (fun e => e 0 = .int .i64 (m : Int) ∧ e 1 = w) { heap := [], next := 0, low := 0 } (fun B Q hB => ?_) (fun e hP => ?_)
  · simp (config := {contextual := true, implicitDefEqProofs := false, maxSteps := 4000000}) only [go_sem, ↓reduceIte, Bool.false_eq_true, Nat.reduceEqDiff, Nat.reduceAdd, Int.reduceLE, Int.reduceLT, Int.reduceEq, Int.reduceToNat, Int.toNat_natCast, Int.cast_ofNat_Int, Int.natCast_one, Nat.reduceMod, Nat.reduceDiv, UInt8.reduceToNat, Nat.reduceLT]
    exact hB _ ⟨rfl, rfl⟩
  obtain ⟨e0, e1⟩ := hP
  refine W_cut (fun e => e 0 = .int .i64 (m : Int) ∧ e 1 = w) { heap := [], next := 0, low := 0 } (fun B Q hB => ?_) (fun e hP => ?_)
  · simp (config := {contextual := true, implicitDefEqProofs := false, maxSteps := 4000000}) only [go_sem, ↓reduceIte, Bool.false_eq_true, Nat.reduceEqDiff, Nat.reduceAdd, Int.reduceLE, Int.reduceLT, Int.reduceEq, Int.reduceToNat, Int.toNat_natCast, Int.cast_ofNat_Int, Int.natCast_one, Nat.reduceMod, Nat.reduceDiv, UInt8.reduceToNat, Nat.reduceLT, c9, Bool.not_true]
    exact hB _ ⟨e0, e1⟩
  obtain ⟨e0, e1⟩ := hP
  refine W_cut (fun e => e 0 = .int .i64 (m : Int) ∧ e 1 = w) { heap := [], next := 0, low := 0 } (fun B Q hB => ?_) (fun e hP => ?_)
  · simp (config := {contextual := true, implicitDefEqProofs := false, maxSteps := 4000000}) only [go_sem, ↓reduceIte, Bool.false_eq_true, Nat.reduceEqDiff, Nat.reduceAdd, Int.reduceLE, Int.reduceLT, Int.reduceEq, Int.reduceToNat, Int.toNat_natCast, Int.cast_ofNat_Int, Int.natCast_one, Nat.reduceMod, Nat.reduceDiv, UInt8.reduceToNat, Nat.reduceLT, e0, e1, d1, d2, d3, d4, hlv, kt]
    exact hB _ ⟨e0, e1⟩
  obtain ⟨e0, e1⟩ := hP
  obtain ⟨h1, n1, a1, p1, en1, f1⟩ := newd_ok [] 0 0 m (by omega) (by omega)
  refine W_cut (fun e => e 1 = w ∧ e 5 = .ptr 3 0 ∧ e 6 = .int .i64 0) { heap := h1, next := n1, low := 0 } (fun B Q hB => ?_) (fun e hP => ?_)
  · simp (config := {contextual := true, implicitDefEqProofs := false, maxSteps := 4000000}) only [go_sem, ↓reduceIte, Bool.false_eq_true, Nat.reduceEqDiff, Nat.reduceAdd, Int.reduceLE, Int.reduceLT, Int.reduceEq, Int.reduceToNat, Int.toNat_natCast, Int.cast_ofNat_Int, Int.natCast_one, Nat.reduceMod, Nat.reduceDiv, UInt8.reduceToNat, Nat.reduceLT, e0, a1]
    exact hB _ ⟨e1, rfl, rfl⟩
  obtain ⟨e1, e5, e6⟩ := hP
  refine W_cut (fun e => e 1 = w ∧ e 5 = .ptr 3 0) { heap := h1, next := n1, low := 0 } (fun B Q hB => ?_) (fun e hP => ?_)
  · simp (config := {contextual := true, implicitDefEqProofs := false, maxSteps := 4000000}) only [go_sem, ↓reduceIte, Bool.false_eq_true, Nat.reduceEqDiff, Nat.reduceAdd, Int.reduceLE, Int.reduceLT, Int.reduceEq, Int.reduceToNat, Int.toNat_natCast, Int.cast_ofNat_Int, Int.natCast_one, Nat.reduceMod, Nat.reduceDiv, UInt8.reduceToNat, Nat.reduceLT, e6, z2]
    exact hB _ ⟨e1, e5⟩
  obtain ⟨e1, e5⟩ := hP
  have p1 : PD 3 0 1 2 m (DK.new m) h1 n1 := p1
  obtain ⟨h2, n2, l2, v2, a2, p2, q2, u2, t2⟩ := open_ok (lo := 0) p1 hm1
  refine W_cut (fun e => e 1 = w ∧ e 7 = .ptr n1 0 ∧ e 8 = .int .i64 0) { heap := h2, next := n2, low := l2 } (fun B Q hB => ?_) (fun e hP => ?_)
  · simp (config := {contextual := true, implicitDefEqProofs := false, maxSteps := 4000000}) only [go_sem, ↓reduceIte, Bool.false_eq_true, Nat.reduceEqDiff, Nat.reduceAdd, Int.reduceLE, Int.reduceLT, Int.reduceEq, Int.reduceToNat, Int.toNat_natCast, Int.cast_ofNat_Int, Int.natCast_one, Nat.reduceMod, Nat.reduceDiv, UInt8.reduceToNat, Nat.reduceLT, e5, a2]
    exact hB _ ⟨e1, rfl, rfl⟩
  obtain ⟨e1, e7, e8⟩ := hP
  refine W_cut (fun e => e 1 = w ∧ e 7 = .ptr n1 0) { heap := h2, next := n2, low := l2 } (fun B Q hB => ?_) (fun e hP => ?_)
  · simp (config := {contextual := true, implicitDefEqProofs := false, maxSteps := 4000000}) only [go_sem, ↓reduceIte, Bool.false_eq_true, Nat.reduceEqDiff, Nat.reduceAdd, Int.reduceLE, Int.reduceLT, Int.reduceEq, Int.reduceToNat, Int.toNat_natCast, Int.cast_ofNat_Int, Int.natCast_one, Nat.reduceMod, Nat.reduceDiv, UInt8.reduceToNat, Nat.reduceLT, e8, z2]
    exact hB _ ⟨e1, e7⟩
  obtain ⟨e1, e7⟩ := hP
  refine W_cut (fun e => e 1 = w ∧ e 7 = .ptr n1 0 ∧ e 9 = .int .i64 1025) { heap := h2, next := n2, low := l2 } (fun B Q hB => ?_) (fun e hP => ?_)
  · simp (config := {contextual := true, implicitDefEqProofs := false, maxSteps := 4000000}) only [go_sem, ↓reduceIte, Bool.false_eq_true, Nat.reduceEqDiff, Nat.reduceAdd, Int.reduceLE, Int.reduceLT, Int.reduceEq, Int.reduceToNat, Int.toNat_natCast, Int.cast_ofNat_Int, Int.natCast_one, Nat.reduceMod, Nat.reduceDiv, UInt8.reduceToNat, Nat.reduceLT]
    exact hB _ ⟨e1, e7, rfl⟩
  obtain ⟨e1, e7, e9⟩ := hP
  have hjn2 : JNok (openJ (DK.new m)) (openD (DK.new m)) := ⟨(openJ_ok (DK.new m)).a, by have h5 := (openJ_ok (DK.new m)).b; rw [p1.ok.l1] at h5; rw [p2.ok.l1]; exact h5⟩
  have hfl2 := free_le (n := m) (f := (openJ (DK.new m)).fin)
  refine W_cut2 (fun e s => e 7 = .ptr n1 0 ∧ ∃ h3 n3 l3 d3 j3 v3, s = { heap := h3, next := n3, low := l3 } ∧ PD 3 0 1 2 m d3 h3 n3 ∧ PJ n1 3 0 1 2 j3 v3 h3 n3 ∧ JNok j3 d3) (fun B Q hB => ?_) (fun e s hP => ?_)
  · simp (config := {contextual := true, implicitDefEqProofs := false, maxSteps := 4000000}) only [go_sem, ↓reduceIte, Bool.false_eq_true, Nat.reduceEqDiff, Nat.reduceAdd, Int.reduceLE, Int.reduceLT, Int.reduceEq, Int.reduceToNat, Int.toNat_natCast, Int.cast_ofNat_Int, Int.natCast_one, Nat.reduceMod, Nat.reduceDiv, UInt8.reduceToNat, Nat.reduceLT]
    refine l8 xs w hv (by omega) hs hm1 _ xs.length 0 _ _ _ v2 h2 n2 l2 1025 (by omega) p2 q2 hjn2 (by omega) e1 e7 e9 rfl ?_
    intro e' h3 n3 l3 d3' j3 v3 p3 q3 hjn3 g7
    exact hB _ _ ⟨g7, h3, n3, l3, d3', j3, v3, rfl, p3, q3, hjn3⟩
  obtain ⟨g7, h3, n3, l3, d3', j3, v3, rfl, p3, q3, hjn3⟩ := hP
  clear e1 e5 e6 e7 e8 e9
  have hfl := free_le (n := m) (f := j3.fin)
  have hfin : j3.fin ≤ m := by have := hjn3.b; rw [p3.ok.l1] at this; exact this
  have k1 := fun K => c36 (lo := l3) p3 q3 hfin K
  obtain ⟨F, hF⟩ : ∃ F, freeV m j3.fin = F := ⟨_, rfl⟩
  have gs : ∀ x : Nat, stageE j3 d3' (List.replicate x 0) = 0 ↔ (x : Int) ≤ F := fun x => by
    have := (stage_iff (j := j3) (r := List.replicate x 0) p3.ok.l1).1
    rw [List.length_replicate, hF] at this; exact this
  have gt : ∀ x : Nat, stageE j3 d3' (List.replicate x 0) = 0 ∨ stageE j3 d3' (List.replicate x 0) = 7 ∧ 1024 < x ∨ stageE j3 d3' (List.replicate x 0) = 16 ∧ x ≤ 1024 := fun x => by
    have := (stage_iff (j := j3) (r := List.replicate x 0) p3.ok.l1).2
    rw [List.length_replicate] at this; exact this
  rw [hF] at k1 hfl
  refine W_cut (fun e => e 7 = .ptr n1 0 ∧ e 13 = .int .i64 F) { heap := h3, next := n3, low := l3 } (fun B Q hB => ?_) (fun e hP => ?_)
  · simp (config := {contextual := true, implicitDefEqProofs := false, maxSteps := 4000000}) only [go_sem, ↓reduceIte, Bool.false_eq_true, Nat.reduceEqDiff, Nat.reduceAdd, Int.reduceLE, Int.reduceLT, Int.reduceEq, Int.reduceToNat, Int.toNat_natCast, Int.cast_ofNat_Int, Int.natCast_one, Nat.reduceMod, Nat.reduceDiv, UInt8.reduceToNat, Nat.reduceLT, g7, k1]
    exact hB _ ⟨g7, rfl⟩
  obtain ⟨e7, e13⟩ := hP
  obtain ⟨y, hy⟩ : ∃ y : Nat, F + 1 = (y : Int) := ⟨(F + 1).toNat, by omega⟩
  have w1 : IntKind.i64.wrap (F + 1) = (y : Int) := by rw [wrap_i64 (by omega) (by omega)]; exact hy
  have m1 := fun st => mk_bytes st y (by omega)
  have hno : stageE j3 d3' (List.replicate y 0) ≠ 0 := fun h => by have := (gs y).1 h; omega
  obtain ⟨E, hE⟩ : ∃ E, stageE j3 d3' (List.replicate y 0) = E := ⟨_, rfl⟩
  have p4 := PD_cons p3 (.cells none (List.replicate y (.int .u8 0)))
  have q4 := PJ_cons q3 (.cells none (List.replicate y (.int .u8 0)))
  have s4 := fun K => (stage_ok (lo := l3) p4 q4 hjn3 hm1 (List.replicate y 0) (by rw [List.length_replicate]; omega)).1 hno K
  have gy := gt y
  rw [hE] at s4 gy hno
  refine W_cut (fun e => e 7 = .ptr n1 0 ∧ e 13 = .int .i64 F ∧ e 14 = .int .i64 E) { heap := (n3, .cells none (List.replicate y (.int .u8 0))) :: h3, next := n3 + 1, low := l3 } (fun B Q hB => ?_) (fun e hP => ?_)
  · simp (config := {contextual := true, implicitDefEqProofs := false, maxSteps := 4000000}) only [go_sem, ↓reduceIte, Bool.false_eq_true, Nat.reduceEqDiff, Nat.reduceAdd, Int.reduceLE, Int.reduceLT, Int.reduceEq, Int.reduceToNat, Int.toNat_natCast, Int.cast_ofNat_Int, Int.natCast_one, Nat.reduceMod, Nat.reduceDiv, UInt8.reduceToNat, Nat.reduceLT, e7, e13, w1, m1, b2s_bytes, s4]
    exact hB _ ⟨e7, e13, rfl⟩
  obtain ⟨e7, e13, e14⟩ := hP
  refine W_cut (fun e => e 7 = .ptr n1 0 ∧ e 13 = .int .i64 F) { heap := (n3, .cells none (List.replicate y (.int .u8 0))) :: h3, next := n3 + 1, low := l3 } (fun B Q hB => ?_) (fun e hP => ?_)
  · by_cases c : F = 1024
    · have b1 : decide (F = 1024) = true := decide_eq_true c
      have b2 : decide (F < 1024) = false := decide_eq_false (by omega)
      have b3 : decide (E ≠ 7) = false := decide_eq_false (fun h => by rcases gy with gy | gy | gy <;> omega)
      simp (config := {contextual := true, implicitDefEqProofs := false, maxSteps := 4000000}) only [go_sem, ↓reduceIte, Bool.false_eq_true, Nat.reduceEqDiff, Nat.reduceAdd, Int.reduceLE, Int.reduceLT, Int.reduceEq, Int.reduceToNat, Int.toNat_natCast, Int.cast_ofNat_Int, Int.natCast_one, Nat.reduceMod, Nat.reduceDiv, UInt8.reduceToNat, Nat.reduceLT, e7, e13, e14, b1, b2, b3]
      exact hB _ ⟨e7, e13⟩
    · have b1 : decide (F = 1024) = false := decide_eq_false c
      have b2 : decide (F < 1024) = true := decide_eq_true (by omega)
      have b3 : decide (E ≠ 16) = false := decide_eq_false (fun h => by rcases gy with gy | gy | gy <;> omega)
      simp (config := {contextual := true, implicitDefEqProofs := false, maxSteps := 4000000}) only [go_sem, ↓reduceIte, Bool.false_eq_true, Nat.reduceEqDiff, Nat.reduceAdd, Int.reduceLE, Int.reduceLT, Int.reduceEq, Int.reduceToNat, Int.toNat_natCast, Int.cast_ofNat_Int, Int.natCast_one, Nat.reduceMod, Nat.reduceDiv, UInt8.reduceToNat, Nat.reduceLT, e7, e13, e14, b1, b2, b3]
      exact hB _ ⟨e7, e13⟩
  obtain ⟨e7, e13⟩ := hP
  by_cases c : F < 0
  · have b1 : decide (F < 0) = true := decide_eq_true c
    simp (config := {contextual := true, implicitDefEqProofs := false, maxSteps := 4000000}) only [go_sem, ↓reduceIte, Bool.false_eq_true, Nat.reduceEqDiff, Nat.reduceAdd, Int.reduceLE, Int.reduceLT, Int.reduceEq, Int.reduceToNat, Int.toNat_natCast, Int.cast_ofNat_Int, Int.natCast_one, Nat.reduceMod, Nat.reduceDiv, UInt8.reduceToNat, Nat.reduceLT, e7, e13, b1]
    rw [LeaveW_flat rfl (Nat.zero_le _)]
  · have b1 : decide (F < 0) = false := decide_eq_false c
    obtain ⟨z, rfl⟩ : ∃ z : Nat, F = (z : Int) := ⟨F.toNat, by omega⟩
    have m2 := fun st => mk_bytes st z (by omega)
    have hyes : stageE j3 d3' (List.replicate z 0) = 0 := (gs z).2 (by omega)
    have p5 := PD_cons p4 (.cells none (List.replicate z (.int .u8 0)))
    have q5 := PJ_cons q4 (.cells none (List.replicate z (.int .u8 0)))
    obtain ⟨h', nx', lo', v', b1', b2', b3', b4', b5', b6'⟩ := (append_ok (lo := l3) p5 q5 hjn3 hm1 (List.replicate z 0) (by rw [List.length_replicate]; omega)).2 hyes
    have z0 : decide ((0 : Int) = 0) = true := rfl
    simp (config := {contextual := true, implicitDefEqProofs := false, maxSteps := 4000000}) only [go_sem, ↓reduceIte, Bool.false_eq_true, Nat.reduceEqDiff, Nat.reduceAdd, Int.reduceLE, Int.reduceLT, Int.reduceEq, Int.reduceToNat, Int.toNat_natCast, Int.cast_ofNat_Int, Int.natCast_one, Nat.reduceMod, Nat.reduceDiv, UInt8.reduceToNat, Nat.reduceLT, e7, e13, b1, m2, b2s_bytes, b1', z0]
    rw [LeaveW_flat rfl (Nat.zero_le _)]
theorem short_strs {xs : List Bs8} {v : AV} (hv : ArgS v xs) (h : txtA reachBytes v = true) : ∀ x ∈ xs, x.length ≤ 140737488351232 := by
  rcases hv with ⟨rfl, rfl⟩ | rfl
  · intro x hx; simp at hx
  · simp only [txtA] at h
    revert h
    induction xs with
    | nil => intro _ x hx; simp at hx
    | cons y ys ih =>
      intro h x hx
      rw [show encS (y :: ys) = AV.str y :: encS ys from rfl] at h
      simp only [txtAll, txtA, Bool.and_eq_true, decide_eq_true_eq] at h
      rcases List.mem_cons.1 hx with rfl | hx
      · exact h.1
      · exact ih h.2 x hx
theorem hlaw8 (as0 : List AV) (h : TyArgs Tryd.prog Tryd.f8.params.toList as0) (hb : txtAll reachBytes as0 = true) : ∃ k s', callF cx k 8 as0 st0 = some (.bool true, s') := by
  obtain ⟨a1, r1, rfl, h1, a2, r2, rfl, h2, h6⟩ : ∃ a1 r1, as0 = a1 :: r1 ∧ TyArg Tryd.prog 3 a1 ∧ ∃ a2 r2, r1 = a2 :: r2 ∧ TyArg Tryd.prog 42 a2 ∧ r2 = [] := h
  subst h6
  obtain ⟨n, rfl, _⟩ := TyArg_int Tryd.underlying3 h1
  obtain ⟨xs, hxs⟩ := TyArg_strs h2
  simp only [txtAll, Bool.and_true, Bool.and_eq_true] at hb
  obtain ⟨k', v', s', h9, rfl⟩ := law8 n xs a2 hxs (short_strs hxs hb.2)
  exact ⟨k', s', h9⟩
end T43


/- What the variables hold, of which the rows tell. -/
namespace T43
open Go Fw Go.Proofs Go.RowKit
set_option maxRecDepth 100000
theorem iface_of {H : Type} {enc : TypeId × Value → H} {P : Program} {w : World} {base : Nat} {sp : Nat → Bool} {held : Bool} {fuel : Nat} {t : TypeId} {ms : Array String} {cs : List Value} {nm : String} {d : DataW H} {p : List MemPlace}
    (ht : ∃ x, P.underlying t = some (.interface x)) (h : DataW.trod enc P w base sp held fuel t cs = some (.iface nm d, p)) : ∃ u v, cs = [.iface u v] := by
  obtain ⟨x, ht⟩ := ht
  cases fuel with
  | zero => simp [DataW.trod] at h
  | succ fuel =>
    unfold DataW.trod at h
    simp only [ht] at h
    split at h <;> first
      | (simp_all; done)
      | skip
theorem laid_iface {P : Program} {W : World} {L : List (String × DataW Unit)} (h : laidMetH P L W) {name nm : String} {d : DataW Unit} (hm : (name, .iface nm d) ∈ L) (hh : (DataW.iface nm d : DataW Unit).handleName? = none) {g : Nat} {t : TypeId}
    (hg : P.globalNamed name = some g) (hty : (P.globals[g]?).map (·.type) = some t) (ht : ∃ x, P.underlying t = some (.interface x)) :
    alAll (fun _ => false) [AV.anyiface] = true ∧ RC (firstGh W) [AV.anyiface] g 0 := by
  obtain ⟨g', t', cs, fuel, p, hg', ht', hvar, hd⟩ := laidH_mem h hm hh
  obtain rfl := Option.some.inj (hg.symm.trans hg')
  obtain rfl := Option.some.inj (hty.symm.trans ht')
  obtain ⟨u, v, hcs⟩ := iface_of (ms := #[]) ht hd
  have hc := World.var?_cell hg hvar 0
  have h0 : cs[0]? = some (.iface u v) := by
    rw [← Array.getElem?_toList, hcs]; rfl
  rw [h0] at hc
  refine ⟨rfl, ?_⟩
  simp only [RC, R]
  exact ⟨⟨.iface u v, hc, u, v, rfl⟩, trivial⟩
theorem tabEq : (Go.Proofs.YtfhommjochpkbaaDoor.Rows.laid_math_bits_deBruijn64tab : DataW Unit) = Lib.tabData .u8 bruijn := rfl
theorem hgl : ∀ W, laidMetH Tryd.prog Go.Proofs.YtfhommjochpkbaaDoor.Rows.journalDiskRow.laid W → ∀ n cs, cx.gl n = some cs → alAll (fun _ => false) cs = true ∧ RC (firstGh W) cs n 0 := by
  intro W h n cs hn
  change gls n = some cs at hn
  unfold gls at hn
  split at hn <;> cases hn
  · exact laid_iface (name := "strconv.ErrSyntax") h (by simp [Go.Proofs.YtfhommjochpkbaaDoor.Rows.journalDiskRow, Go.Proofs.YtfhommjochpkbaaDoor.Rows.laid_strconv_ErrSyntax]; exact ⟨rfl, rfl⟩) (by kernel_rfl) (by kernel_rfl) (by kernel_rfl) ⟨_, Tryd.underlying83⟩
  · exact laid_iface (name := "strconv.ErrRange") h (by simp [Go.Proofs.YtfhommjochpkbaaDoor.Rows.journalDiskRow, Go.Proofs.YtfhommjochpkbaaDoor.Rows.laid_strconv_ErrRange]; exact ⟨rfl, rfl⟩) (by kernel_rfl) (by kernel_rfl) (by kernel_rfl) ⟨_, Tryd.underlying83⟩
  · exact laid_tab (name := "math/bits.deBruijn64tab") h (by rw [← tabEq]; simp [Go.Proofs.YtfhommjochpkbaaDoor.Rows.journalDiskRow]) (by kernel_rfl) (by kernel_rfl) Tryd.underlying153 Tryd.underlying5 (by kernel_rfl) (by kernel_rfl)
end T43
