/- Parts of the proof, one behind the other. -/
import Derived.Test.YtfhommjochpkbaaDoorKA
import Derived.KernelRfl
import Derived.Test.YtfhommjochpkbaaDoorKB
import Derived.Test.YtfhommjochpkbaaDoorFwG
import Derived.Test.YtfhommjochpkbaaDoorRows
import Derived.Test.YtfhommjochpkbaaDoorFwL
set_option linter.unusedSimpArgs false
set_option linter.unusedVariables false
set_option linter.unusedSectionVars false

/- The chapter's examples: plain facts. -/
namespace T43
open Go
set_option maxRecDepth 100000
set_option maxHeartbeats 8000000
set_option linter.unusedSimpArgs false
set_option linter.unusedVariables false
def abB : Bs8 := [97, 98]
def helloB : Bs8 := [104, 101, 108, 108, 111]
def worldB : Bs8 := [119, 111, 114, 108, 100]
def tenB : Bs8 := [48, 49, 50, 51, 52, 53, 54, 55, 56, 57, 48, 49, 50, 51, 52, 53, 54, 55, 56, 57, 48, 49, 50, 51, 52, 53, 54, 55, 56, 57, 48, 49, 50, 51, 52, 53, 54, 55, 56, 57]
def d3 : DK := DK.new 3
theorem open3 : openJ d3 = ⟨[], 0, 0⟩ := by kernel_rfl
theorem open3d : openD d3 = d3 := by kernel_rfl
def dc : DK := (stageD ⟨[], 0, 0⟩ d3 tenB).crash [0, 2]
theorem openc : openJ dc = ⟨[], 0, 0⟩ := by kernel_rfl
theorem readc : (openD dc).now.getD 2 [] = zero32 := by kernel_rfl
theorem ab_frame : (frameB 0 abB).getD 0 [] = [48, 48, 48, 48, 48, 48, 48, 48, 48, 48, 48, 50] ++ digB ([48, 48, 48, 48, 48, 48, 48, 48, 48, 48, 48, 50] ++ abB) ++ [97, 98, 0, 0] := by
  have hd : headB 0 abB = [48, 48, 48, 48, 48, 48, 48, 48, 48, 48, 48, 50] := by kernel_rfl
  have hs : szB abB.length = 1 := rfl
  have hl := frameAll_len 0 abB
  have e : frameAll 0 abB = [48, 48, 48, 48, 48, 48, 48, 48, 48, 48, 48, 50] ++ digB ([48, 48, 48, 48, 48, 48, 48, 48, 48, 48, 48, 50] ++ abB) ++ [97, 98, 0, 0] := by
    unfold frameAll
    rw [hd, hs]
    simp [abB]
  unfold frameB
  rw [hs] at hl ⊢
  show (frameAll 0 abB).take 32 = _
  rw [List.take_of_length_le (by omega), e]
theorem stage3 : stageE ⟨[], 0, 0⟩ d3 helloB = 0 := by kernel_rfl
theorem stage4 : stageE ⟨[], 0, 0⟩ d3 tenB = 0 := by kernel_rfl
theorem world3 (j : JN) (d : DK) (hj : j.fin = 2) (hd : d.now.length = 3) : stageE j d worldB = 16 := by
  unfold stageE
  rw [if_neg (by simp [worldB]), hj, hd, if_pos (by decide)]
theorem dirty3 : (stageD ⟨[], 0, 0⟩ d3 tenB).dirty.length = 3 := by kernel_rfl
end T43


/- The chapter's examples, by the specifications. -/
namespace T43
open Go Fw Go.Proofs
set_option maxRecDepth 100000
set_option maxHeartbeats 8000000
set_option linter.unusedSimpArgs false
set_option linter.unusedVariables false
theorem W_cut {cx : Cx} {A B : ICode} {e : FE} {s : St} {Q : Sig → FE → St → Prop} (P : FE → Prop) (s1 : St) (h1 : ∀ B' Q', (∀ e', P e' → W cx B' e' s1 Q') → W cx (.seq A B') e s Q') (h2 : ∀ e', P e' → W cx B e' s1 Q) : W cx (.seq A B) e s Q := h1 B Q h2
theorem c9 (h : List (Nat × AObj)) (nx lo : Nat) (K : AV → St → Prop) : CallW cx 9 [] { heap := h, next := nx, low := lo } K = K (.bool true) { heap := h, next := nx, low := lo } := by
  refine CallW.eq (CallW.fn' (fn := ir9) rfl rfl (by kernel_rfl) ir9.eq_1 ?_) K
  have k1 := fun st K => c24 0 abB (by omega) (by simp [abB]) st K
  simp only [Int.natCast_zero, Int.cast_ofNat_Int, show szB abB.length = 1 from rfl] at k1
  have k2 := fun st K => c39 [48, 48, 48, 48, 48, 48, 48, 48, 48, 48, 48, 50, 97, 98] (by simp) st K
  have hl2 := digB_len ([48, 48, 48, 48, 48, 48, 48, 48, 48, 48, 48, 50] ++ abB)
  have hfr := ab_frame
  obtain ⟨G, hG⟩ : ∃ G, digB ([48, 48, 48, 48, 48, 48, 48, 48, 48, 48, 48, 50] ++ abB) = G := ⟨_, rfl⟩
  rw [show digB [48, 48, 48, 48, 48, 48, 48, 48, 48, 48, 48, 50, 97, 98] = G from hG] at k2
  rw [hG] at hl2 hfr
  have hfl := frameB_len 0 abB
  obtain ⟨F, hF⟩ : ∃ F, frameB 0 abB = F := ⟨_, rfl⟩
  have hpf := parse_frame 0 abB (by omega) (by simp [abB]) []
  rw [List.append_nil] at hpf
  have h32 := frameB_32 0 abB
  rw [hF] at k1 hfr hfl hpf h32
  have hfl : F.length = 1 := hfl
  have s1 := encS_sub (l := F) (i := 0) (by omega)
  rw [hfr] at s1
  have hZ : ([48, 48, 48, 48, 48, 48, 48, 48, 48, 48, 48, 50] : Bs8) ++ G ++ [97, 98, 0, 0] = 48 :: 48 :: 48 :: 48 :: 48 :: 48 :: 48 :: 48 :: 48 :: 48 :: 48 :: 50 :: (G ++ [97, 98, 0, 0]) := rfl
  rw [hZ] at s1
  have c1 : (G.length + 16 ≤ 9223372036854775807) = True := eq_true (by omega)
  have c2 : (12 + G.length ≤ 9223372036854775807) = True := eq_true (by omega)
  have c3 : ∀ x : Bs8, decide (x ≠ x) = false := fun x => by simp
  have z2 : decide ((0 : Int) ≠ 0) = false := rfl
  have z1 : decide ((1 : Int) ≠ 1) = false := rfl
  rw [show abB = [97, 98] from rfl] at k1
  have g1 : Fw.look nx ((nx, AObj.cells none (encS F)) :: h) = some (.cells none (encS F)) := by simp [Fw.look]
  refine W_cut (fun e => True) { heap := h, next := nx, low := nx } (fun B Q hB => ?_) (fun e hP => ?_)
  · simp (config := {contextual := true, implicitDefEqProofs := false, maxSteps := 4000000}) only [go_sem, ↓reduceIte, Bool.false_eq_true, Nat.reduceEqDiff, Nat.reduceAdd, Int.reduceLE, Int.reduceLT, Int.reduceEq, Int.reduceToNat, Int.toNat_natCast, Int.cast_ofNat_Int, Int.natCast_one, Nat.reduceMod, Nat.reduceDiv, UInt8.reduceToNat, Nat.reduceLT]
    exact hB _ trivial
  refine W_cut (fun e => e 1 = .mslice nx 0 1 none ∧ e 2 = .int .i64 0) { heap := (nx, .cells none (encS F)) :: h, next := nx + 1, low := nx } (fun B Q hB => ?_) (fun e hP => ?_)
  · simp (config := {contextual := true, implicitDefEqProofs := false, maxSteps := 4000000}) only [go_sem, ↓reduceIte, Bool.false_eq_true, Nat.reduceEqDiff, Nat.reduceAdd, Int.reduceLE, Int.reduceLT, Int.reduceEq, Int.reduceToNat, Int.toNat_natCast, Int.cast_ofNat_Int, Int.natCast_one, Nat.reduceMod, Nat.reduceDiv, UInt8.reduceToNat, Nat.reduceLT, k1]
    exact hB _ ⟨rfl, rfl⟩
  obtain ⟨e1, e2⟩ := hP
  refine W_cut (fun e => e 1 = .mslice nx 0 1 none) { heap := (nx, .cells none (encS F)) :: h, next := nx + 1, low := nx } (fun B Q hB => ?_) (fun e hP => ?_)
  · simp (config := {contextual := true, implicitDefEqProofs := false, maxSteps := 4000000}) only [go_sem, ↓reduceIte, Bool.false_eq_true, Nat.reduceEqDiff, Nat.reduceAdd, Int.reduceLE, Int.reduceLT, Int.reduceEq, Int.reduceToNat, Int.toNat_natCast, Int.cast_ofNat_Int, Int.natCast_one, Nat.reduceMod, Nat.reduceDiv, UInt8.reduceToNat, Nat.reduceLT, e1, e2, k2, z2, z1, iaddrA, Nat_mul_one, g1, s1, c1, c2, c3]
    exact hB _ e1
  have e1 := hP
  obtain ⟨h1, n1, a1, p1, en1, f1⟩ := newd_ok ((nx, .cells none (encS F)) :: h) (nx + 1) nx 3 (by omega) (by omega)
  simp only [Int.cast_ofNat_Int] at a1
  have hm : min nx (nx + 1) = nx := by omega
  rw [hm] at a1
  refine W_cut (fun e => e 1 = .mslice nx 0 1 none ∧ e 3 = .ptr (nx + 1 + 3) 0 ∧ e 4 = .int .i64 0) { heap := h1, next := n1, low := nx } (fun B Q hB => ?_) (fun e hP => ?_)
  · simp (config := {contextual := true, implicitDefEqProofs := false, maxSteps := 4000000}) only [go_sem, ↓reduceIte, Bool.false_eq_true, Nat.reduceEqDiff, Nat.reduceAdd, Int.reduceLE, Int.reduceLT, Int.reduceEq, Int.reduceToNat, Int.toNat_natCast, Int.cast_ofNat_Int, Int.natCast_one, Nat.reduceMod, Nat.reduceDiv, UInt8.reduceToNat, Nat.reduceLT, a1]
    exact hB _ ⟨e1, rfl, rfl⟩
  obtain ⟨e1, e3, e4⟩ := hP
  refine W_cut (fun e => e 1 = .mslice nx 0 1 none ∧ e 3 = .ptr (nx + 1 + 3) 0) { heap := h1, next := n1, low := nx } (fun B Q hB => ?_) (fun e hP => ?_)
  · simp (config := {contextual := true, implicitDefEqProofs := false, maxSteps := 4000000}) only [go_sem, ↓reduceIte, Bool.false_eq_true, Nat.reduceEqDiff, Nat.reduceAdd, Int.reduceLE, Int.reduceLT, Int.reduceEq, Int.reduceToNat, Int.toNat_natCast, Int.cast_ofNat_Int, Int.natCast_one, Nat.reduceMod, Nat.reduceDiv, UInt8.reduceToNat, Nat.reduceLT, e4, z2]
    exact hB _ ⟨e1, e3⟩
  obtain ⟨e1, e3⟩ := hP
  have p1 : PD (nx + 1 + 3) (nx + 1) (nx + 1 + 1) (nx + 1 + 2) 3 d3 h1 n1 := p1
  obtain ⟨h2, n2, l2, v2, a2, p2, q2, u2, t2⟩ := open_ok (lo := nx) p1 (by omega)
  rw [open3d] at p2
  rw [open3] at q2
  refine W_cut (fun e => e 1 = .mslice nx 0 1 none ∧ e 5 = .ptr n1 0 ∧ e 6 = .int .i64 0) { heap := h2, next := n2, low := l2 } (fun B Q hB => ?_) (fun e hP => ?_)
  · simp (config := {contextual := true, implicitDefEqProofs := false, maxSteps := 4000000}) only [go_sem, ↓reduceIte, Bool.false_eq_true, Nat.reduceEqDiff, Nat.reduceAdd, Int.reduceLE, Int.reduceLT, Int.reduceEq, Int.reduceToNat, Int.toNat_natCast, Int.cast_ofNat_Int, Int.natCast_one, Nat.reduceMod, Nat.reduceDiv, UInt8.reduceToNat, Nat.reduceLT, e3, a2]
    exact hB _ ⟨e1, rfl, rfl⟩
  obtain ⟨e1, e5, e6⟩ := hP
  obtain ⟨h3, n3, l3, v3, a3, p3, q3, u3, b3, t3⟩ := (append_ok (lo := l2) p2 q2 ⟨Nat.le_refl _, Nat.zero_le _⟩ (by omega) helloB (by simp [helloB])).2 stage3
  have k5 := fun K => c36 (lo := l2) p2 q2 (by decide) K
  have k6 := fun K => c36 (lo := l3) p3 q3 (by decide) K
  have hw := world3 (syncJ (stageJ ⟨[], 0, 0⟩ helloB)) (stageD ⟨[], 0, 0⟩ d3 helloB).sync rfl p3.ok.l1
  have k7 := fun K => (append_ok (lo := l3) p3 q3 ⟨by decide, by rw [p3.ok.l1]; decide⟩ (by omega) worldB (by simp [worldB])).1 (by rw [hw]; decide) K
  rw [hw] at k7
  have k8 := fun K => c34 (lo := l3) q3 K
  rw [show freeV 3 (⟨[], 0, 0⟩ : JN).fin = 68 from rfl] at k5
  rw [show freeV 3 (syncJ (stageJ ⟨[], 0, 0⟩ helloB)).fin = 4 from rfl] at k6
  rw [show (syncJ (stageJ ⟨[], 0, 0⟩ helloB)).dur = 1 from rfl] at k8
  simp only [Int.natCast_one] at k8
  rw [show helloB = [104, 101, 108, 108, 111] from rfl] at a3
  rw [show worldB = [119, 111, 114, 108, 100] from rfl] at k7
  have z3 : decide ((68 : Int) ≠ 68) = false := rfl
  have z4 : decide ((4 : Int) ≠ 4) = false := rfl
  have z5 : decide ((16 : Int) ≠ 16) = false := rfl
  refine W_cut (fun e => e 1 = .mslice nx 0 1 none) { heap := h3, next := n3, low := l3 } (fun B Q hB => ?_) (fun e hP => ?_)
  · simp (config := {contextual := true, implicitDefEqProofs := false, maxSteps := 4000000}) only [go_sem, ↓reduceIte, Bool.false_eq_true, Nat.reduceEqDiff, Nat.reduceAdd, Int.reduceLE, Int.reduceLT, Int.reduceEq, Int.reduceToNat, Int.toNat_natCast, Int.cast_ofNat_Int, Int.natCast_one, Nat.reduceMod, Nat.reduceDiv, UInt8.reduceToNat, Nat.reduceLT, e5, e6, z2, z1, z3, z4, z5, k5, a3, k6, k7, k8]
    exact hB _ e1
  have e1 := hP
  have hc0 : ∀ i, crS (nx + 1) (nx + 1 + 1) (nx + 1 + 2) i → nx + 1 ≤ i := fun i hi => by rcases hi with hi | hi | hi <;> omega
  have hj0 : ∀ i, jnS n1 (nx + 1) (nx + 1 + 1) (nx + 1 + 2) v2 i → nx + 1 ≤ i := fun i hi => by
    rcases hi with hi | hi | hi
    · omega
    · exact hc0 i hi
    · have := t2 i hi; omega
  have u2n := u2.next
  have u3n := u3.next
  have W3 : Fw.look nx h3 = some (.cells none (encS F)) := by
    rw [u3.keep nx (fun hc => by have := hj0 nx hc; omega) (by omega), u2.keep nx (fun hc => by have := hc0 nx hc; omega) (by omega), f1 nx (by omega)]; exact g1
  have lw2 : nx ≤ l2 := u2.low nx (Nat.le_refl _) (by omega) (fun i hi => by have := hc0 i hi; omega)
  have lw3 : nx ≤ l3 := u3.low nx lw2 (by omega) (fun i hi => by have := hj0 i hi; omega)
  have k9 := fun K => c26 F (.mslice nx 0 1 none) { heap := h3, next := n3, low := l3 } (.inr (.inr ⟨nx, none, [], by rw [hfl], by rw [List.append_nil]; exact W3, by show nx < n3; omega⟩)) (by omega) (fun x hx => by rw [h32 x hx]; omega) K
  rw [hpf] at k9
  simp only [parT, Int.natCast_zero, Int.cast_ofNat_Int, show szB abB.length = 1 from rfl, Int.natCast_one] at k9
  rw [show abB = [97, 98] from rfl] at k9
  refine W_cut (fun e => e 7 = .int .i64 0 ∧ e 8 = .str [97, 98] ∧ e 9 = .int .i64 1 ∧ e 10 = .int .i64 0) { heap := h3, next := n3, low := l3 } (fun B Q hB => ?_) (fun e hP => ?_)
  · simp (config := {contextual := true, implicitDefEqProofs := false, maxSteps := 4000000}) only [go_sem, ↓reduceIte, Bool.false_eq_true, Nat.reduceEqDiff, Nat.reduceAdd, Int.reduceLE, Int.reduceLT, Int.reduceEq, Int.reduceToNat, Int.toNat_natCast, Int.cast_ofNat_Int, Int.natCast_one, Nat.reduceMod, Nat.reduceDiv, UInt8.reduceToNat, Nat.reduceLT, e1, k9]
    exact hB _ ⟨rfl, rfl, rfl, rfl⟩
  obtain ⟨e7, e8, e9, e10⟩ := hP
  obtain ⟨h4, n4, a4, p4, en4, f4⟩ := newd_ok h3 n3 l3 3 (by omega) (by omega)
  simp only [Int.cast_ofNat_Int] at a4
  have p4 : PD (n3 + 3) n3 (n3 + 1) (n3 + 2) 3 d3 h4 n4 := p4
  refine W_cut (fun e => e 7 = .int .i64 0 ∧ e 8 = .str [97, 98] ∧ e 9 = .int .i64 1 ∧ e 10 = .int .i64 0 ∧ e 11 = .ptr (n3 + 3) 0) { heap := h4, next := n4, low := min l3 n3 } (fun B Q hB => ?_) (fun e hP => ?_)
  · simp (config := {contextual := true, implicitDefEqProofs := false, maxSteps := 4000000}) only [go_sem, ↓reduceIte, Bool.false_eq_true, Nat.reduceEqDiff, Nat.reduceAdd, Int.reduceLE, Int.reduceLT, Int.reduceEq, Int.reduceToNat, Int.toNat_natCast, Int.cast_ofNat_Int, Int.natCast_one, Nat.reduceMod, Nat.reduceDiv, UInt8.reduceToNat, Nat.reduceLT, a4]
    exact hB _ ⟨e7, e8, e9, e10, rfl⟩
  obtain ⟨e7, e8, e9, e10, e11⟩ := hP
  obtain ⟨h5, n5, l5, v5, a5, p5, q5, u5, t5⟩ := open_ok (lo := min l3 n3) p4 (by omega)
  rw [open3d] at p5
  rw [open3] at q5
  refine W_cut (fun e => e 7 = .int .i64 0 ∧ e 8 = .str [97, 98] ∧ e 9 = .int .i64 1 ∧ e 10 = .int .i64 0 ∧ e 11 = .ptr (n3 + 3) 0 ∧ e 13 = .ptr n4 0) { heap := h5, next := n5, low := l5 } (fun B Q hB => ?_) (fun e hP => ?_)
  · simp (config := {contextual := true, implicitDefEqProofs := false, maxSteps := 4000000}) only [go_sem, ↓reduceIte, Bool.false_eq_true, Nat.reduceEqDiff, Nat.reduceAdd, Int.reduceLE, Int.reduceLT, Int.reduceEq, Int.reduceToNat, Int.toNat_natCast, Int.cast_ofNat_Int, Int.natCast_one, Nat.reduceMod, Nat.reduceDiv, UInt8.reduceToNat, Nat.reduceLT, e11, a5]
    exact hB _ ⟨e7, e8, e9, e10, e11, rfl⟩
  obtain ⟨e7, e8, e9, e10, e11, e13⟩ := hP
  obtain ⟨h6, n6, l6, v6, a6, p6, q6, u6, b6, t6⟩ := (stage_ok (lo := l5) p5 q5 ⟨Nat.le_refl _, Nat.zero_le _⟩ (by omega) tenB (by simp [tenB])).2 stage4
  obtain ⟨w6, r6, k6'⟩ := dirty_ok (lo := l6) p6
  have r6l := r6.lenv
  rw [dirty3] at r6l
  simp only [Int.cast_ofNat_Int] at r6l
  rw [show tenB = [48, 49, 50, 51, 52, 53, 54, 55, 56, 57, 48, 49, 50, 51, 52, 53, 54, 55, 56, 57, 48, 49, 50, 51, 52, 53, 54, 55, 56, 57, 48, 49, 50, 51, 52, 53, 54, 55, 56, 57] from rfl] at a6
  have z6 : decide ((3 : Int) ≠ 3) = false := rfl
  refine W_cut (fun e => e 7 = .int .i64 0 ∧ e 8 = .str [97, 98] ∧ e 9 = .int .i64 1 ∧ e 10 = .int .i64 0 ∧ e 11 = .ptr (n3 + 3) 0) { heap := h6, next := n6, low := l6 } (fun B Q hB => ?_) (fun e hP => ?_)
  · simp (config := {contextual := true, implicitDefEqProofs := false, maxSteps := 4000000}) only [go_sem, ↓reduceIte, Bool.false_eq_true, Nat.reduceEqDiff, Nat.reduceAdd, Int.reduceLE, Int.reduceLT, Int.reduceEq, Int.reduceToNat, Int.toNat_natCast, Int.cast_ofNat_Int, Int.natCast_one, Nat.reduceMod, Nat.reduceDiv, UInt8.reduceToNat, Nat.reduceLT, e11, e13, a6, z2, k6', r6l, z6]
    exact hB _ ⟨e7, e8, e9, e10, e11⟩
  obtain ⟨e7, e8, e9, e10, e11⟩ := hP
  obtain ⟨h7, n7, l7, a7, p7, u7⟩ := crash_ok (lo := l6) p6 (by omega) (.slice [.int .i64 0, .int .i64 2] 2 .full) [0, 2] (.inr ⟨.full, rfl⟩) (by simp)
  refine W_cut (fun e => e 7 = .int .i64 0 ∧ e 8 = .str [97, 98] ∧ e 9 = .int .i64 1 ∧ e 10 = .int .i64 0 ∧ e 11 = .ptr (n3 + 3) 0) { heap := h7, next := n7, low := l7 } (fun B Q hB => ?_) (fun e hP => ?_)
  · simp (config := {contextual := true, implicitDefEqProofs := false, maxSteps := 4000000}) only [go_sem, ↓reduceIte, Bool.false_eq_true, Nat.reduceEqDiff, Nat.reduceAdd, Int.reduceLE, Int.reduceLT, Int.reduceEq, Int.reduceToNat, Int.toNat_natCast, Int.cast_ofNat_Int, Int.natCast_one, Nat.reduceMod, Nat.reduceDiv, UInt8.reduceToNat, Nat.reduceLT, e11, a7]
    exact hB _ ⟨e7, e8, e9, e10, e11⟩
  obtain ⟨e7, e8, e9, e10, e11⟩ := hP
  have p7 : PD (n3 + 3) n3 (n3 + 1) (n3 + 2) 3 dc h7 n7 := p7
  obtain ⟨h8, n8, l8, v8, a8, p8, q8, u8, t8⟩ := open_ok (lo := l7) p7 (by omega)
  rw [openc] at q8
  refine W_cut (fun e => e 7 = .int .i64 0 ∧ e 8 = .str [97, 98] ∧ e 9 = .int .i64 1 ∧ e 10 = .int .i64 0 ∧ e 11 = .ptr (n3 + 3) 0 ∧ e 15 = .ptr n7 0) { heap := h8, next := n8, low := l8 } (fun B Q hB => ?_) (fun e hP => ?_)
  · simp (config := {contextual := true, implicitDefEqProofs := false, maxSteps := 4000000}) only [go_sem, ↓reduceIte, Bool.false_eq_true, Nat.reduceEqDiff, Nat.reduceAdd, Int.reduceLE, Int.reduceLT, Int.reduceEq, Int.reduceToNat, Int.toNat_natCast, Int.cast_ofNat_Int, Int.natCast_one, Nat.reduceMod, Nat.reduceDiv, UInt8.reduceToNat, Nat.reduceLT, e11, a8]
    exact hB _ ⟨e7, e8, e9, e10, e11, rfl⟩
  obtain ⟨e7, e8, e9, e10, e11, e15⟩ := hP
  have k10 := fun K => c22 (lo := l8) p8 2 K
  have hrd : readT (openD dc) 2 = .tuple [.str zero32, .int .i64 0] := by
    unfold readT
    rw [p8.ok.l1, if_neg (by omega), show ((2 : Int)).toNat = 2 from rfl, readc]
  rw [hrd] at k10
  refine W_cut (fun e => e 7 = .int .i64 0 ∧ e 8 = .str [97, 98] ∧ e 9 = .int .i64 1 ∧ e 10 = .int .i64 0 ∧ e 15 = .ptr n7 0 ∧ e 17 = .str zero32 ∧ e 18 = .int .i64 0) { heap := h8, next := n8, low := l8 } (fun B Q hB => ?_) (fun e hP => ?_)
  · simp (config := {contextual := true, implicitDefEqProofs := false, maxSteps := 4000000}) only [go_sem, ↓reduceIte, Bool.false_eq_true, Nat.reduceEqDiff, Nat.reduceAdd, Int.reduceLE, Int.reduceLT, Int.reduceEq, Int.reduceToNat, Int.toNat_natCast, Int.cast_ofNat_Int, Int.natCast_one, Nat.reduceMod, Nat.reduceDiv, UInt8.reduceToNat, Nat.reduceLT, e11, k10]
    exact hB _ ⟨e7, e8, e9, e10, e15, rfl, rfl⟩
  obtain ⟨e7, e8, e9, e10, e15, e17, e18⟩ := hP
  obtain ⟨wr, r8, k11⟩ := records_ok (lo := l8) q8 (by decide)
  have r8' : wr = .nilslice ∨ wr = .slice [] 0 .no := by
    rcases r8 with ⟨r8, _⟩ | r8
    · exact .inl r8
    · exact .inr r8
  have hlr : lenvA wr = some (.int .i64 0) := by rcases r8' with rfl | rfl <;> rfl
  have m1 : ∀ st : St, mkslA st 1 [.int .u8 0] (.int .i64 32) (.int .i64 32) = some (.mslice st.next 0 32 (some 32), st.new (.cells none (List.replicate 32 (.int .u8 0)))) := by
    intro st
    simp only [mkslA]
    rw [if_pos (by refine ⟨by omega, by omega, ?_⟩; decide)]
    rfl
  have b1 : ∀ (h : List (Nat × AObj)) (n l : Nat), b2sA { heap := (n, .cells none (List.replicate 32 (.int .u8 0))) :: h, next := n + 1, low := l } (.mslice n 0 32 (some 32)) = some (.str zero32) := by
    intro h n l
    exact b2s_m (ty := none) (by simp only [Fw.look, if_true]) (sub_all (by simp)) (bytes_zero 32)
  have z7 : decide ((0 : Int) = 0) = true := rfl
  have z8 : decide ((1 : Int) = 1) = true := rfl
  have z9 : decide (([97, 98] : Bs8) = [97, 98]) = true := by decide
  have z10 : decide (zero32 = zero32) = true := by simp
  have hc4 : ∀ i, crS n3 (n3 + 1) (n3 + 2) i → nx ≤ i := fun i hi => by rcases hi with hi | hi | hi <;> omega
  have hj4 : ∀ i, jnS n4 n3 (n3 + 1) (n3 + 2) v5 i → nx ≤ i := fun i hi => by
    rcases hi with hi | hi | hi
    · omega
    · exact hc4 i hi
    · have := t5 i hi; omega
  have u5n := u5.next
  have u6n := u6.next
  have u7n := u7.next
  have lw5 : nx ≤ l5 := u5.low nx (by omega) (by omega) hc4
  have lw6 : nx ≤ l6 := u6.low nx lw5 (by omega) hj4
  have lw7 : nx ≤ l7 := u7.low nx lw6 (by omega) hc4
  have lw8 : nx ≤ l8 := u8.low nx lw7 (by omega) hc4
  have q9 : ∀ i : Nat, evEq .ptr (.ptr i 0) .nilptr = some false := fun _ => rfl
  simp (config := {contextual := true, implicitDefEqProofs := false, maxSteps := 4000000}) only [go_sem, ↓reduceIte, Bool.false_eq_true, Nat.reduceEqDiff, Nat.reduceAdd, Int.reduceLE, Int.reduceLT, Int.reduceEq, Int.reduceToNat, Int.toNat_natCast, Int.cast_ofNat_Int, Int.natCast_one, Nat.reduceMod, Nat.reduceDiv, UInt8.reduceToNat, Nat.reduceLT, e7, e8, e9, e10, e15, e17, e18, z7, z8, z9, k11, hlr, m1, b1, z10, q9, Bool.not_false]
  rw [LeaveW_flat rfl lw8]
  exact ⟨rfl, rfl⟩
end T43


/- Two rows alike; the frames' law. -/
namespace T43
open Go Fw Go.Proofs Go.RowKit
set_option maxRecDepth 100000
set_option maxHeartbeats 8000000
set_option linter.unusedSimpArgs false
set_option linter.unusedVariables false
theorem strs_es {f : Nat} : ∀ es : List (List AV), (∀ x ∈ es, Ty Tryd.prog f 9 x) → ∃ xs : List Bs8, es.flatten = encS xs ∧ es.length = xs.length
  | [], _ => ⟨[], rfl, rfl⟩
  | e :: es, h1 => by
    obtain ⟨xs, h2, h3⟩ := strs_es es (fun x hx => h1 x (by simp [hx]))
    obtain ⟨s, rfl, _⟩ := Ty_string Tryd.underlying9 (h1 e (by simp))
    exact ⟨s :: xs, by rw [List.flatten_cons, h2]; rfl, by simp [h3]⟩
theorem TyArg_strs {a : AV} (h : TyArg Tryd.prog 42 a) : ∃ xs : List Bs8, (a = .nilslice ∧ xs = []) ∨ a = .slice (encS xs) xs.length .no := by
  rcases TyArg_slice Tryd.underlying42 h with rfl | ⟨f, es, h1, _, rfl⟩
  · exact ⟨[], .inl ⟨rfl, rfl⟩⟩
  · obtain ⟨xs, h2, h3⟩ := strs_es es (fun x hx => (h1 x hx).1)
    exact ⟨xs, .inr (by rw [h2, h3])⟩
theorem RowS.slice {st : St} {xs : List Bs8} {o : Own} : RowS st (.slice (encS xs) xs.length o) xs := .inl ⟨o, rfl⟩
theorem l28 (xs ys : List Bs8) (v w : AV) (h : List (Nat × AObj)) (nx lo : Nat) (st : St) (hst : st = { heap := h, next := nx, low := lo }) (hv : RowS st v xs) (hw : RowS st w ys) (hl : ys.length = xs.length) (hn : xs.length ≤ 1000000) (Q : Sig → FE → St → Prop) : ∀ (n i : Nat) (e : FE), i + n = xs.length → e 0 = v → e 1 = w → e 5 = .int .i64 (i : Int) →
    (∀ e', (∀ j, i ≤ j → j < xs.length → xs.getD j [] = ys.getD j []) → Q (.exit 0) e' { heap := h, next := nx, low := lo }) →
    (∀ e' j, j < xs.length → xs.getD j [] ≠ ys.getD j [] → e' 4 = .bool false → Q .ret e' { heap := h, next := nx, low := lo }) → WLoop cx ir28L0 e { heap := h, next := nx, low := lo } Q
  | 0, i, e, hi, h0, h1, h5, hQ, hR => by
    refine WLoop.rnd (c := _) ir28L0.eq_1 ?_
    have d1 : decide ((i : Int) < (xs.length : Int)) = false := decide_eq_false (by omega)
    have hlv := hv.lenv
    simp (config := {contextual := true, implicitDefEqProofs := false, maxSteps := 4000000}) only [go_sem, ↓reduceIte, Bool.false_eq_true, Nat.reduceEqDiff, Nat.reduceAdd, Int.reduceLE, Int.reduceLT, Int.reduceEq, Int.reduceToNat, Int.toNat_natCast, Int.cast_ofNat_Int, Int.natCast_one, Nat.reduceMod, Nat.reduceDiv, UInt8.reduceToNat, Nat.reduceLT, h0, h1, h5, hlv, d1]
    exact hQ _ (fun j h1 h2 => by omega)
  | n + 1, i, e, hi, h0, h1, h5, hQ, hR => by
    refine WLoop.rnd (c := _) ir28L0.eq_1 ?_
    have d1 : decide ((i : Int) < (xs.length : Int)) = true := decide_eq_true (by omega)
    have hlv := hv.lenv
    have hwr := wrap_one (i := i) (by omega)
    obtain ⟨p, p1, p2, p3⟩ := hv.at (i := i) (by omega)
    obtain ⟨q, q1, q2, q3⟩ := hw.at (i := i) (by omega)
    have p2 := p2 lo
    have q2 := q2 lo
    subst hst
    dsimp only at p2 q2
    by_cases hx : xs.getD i [] = ys.getD i []
    · have c1 := neq_str.1 hx
      rcases p3 with p3 | ⟨pi, p3⟩ <;> rcases q3 with q3 | ⟨qi, q3⟩ <;> simp (config := {contextual := true, implicitDefEqProofs := false, maxSteps := 4000000}) only [go_sem, ↓reduceIte, Bool.false_eq_true, Nat.reduceEqDiff, Nat.reduceAdd, Int.reduceLE, Int.reduceLT, Int.reduceEq, Int.reduceToNat, Int.toNat_natCast, Int.cast_ofNat_Int, Int.natCast_one, Nat.reduceMod, Nat.reduceDiv, UInt8.reduceToNat, Nat.reduceLT, h0, h1, h5, hlv, d1, q1, q2, p1, p2, p3, q3, c1, hwr]
      all_goals
        refine l28 xs ys v w h nx lo _ rfl hv hw hl hn Q n (i + 1) _ (by omega) h0 h1 rfl (fun e' h1 => hQ e' (fun j h5 h6 => ?_)) hR
        by_cases hj : j = i
        · rw [hj]; exact hx
        · exact h1 j (by omega) h6
    · have c1 := neq_str.2 hx
      rcases p3 with p3 | ⟨pi, p3⟩ <;> rcases q3 with q3 | ⟨qi, q3⟩ <;> simp (config := {contextual := true, implicitDefEqProofs := false, maxSteps := 4000000}) only [go_sem, ↓reduceIte, Bool.false_eq_true, Nat.reduceEqDiff, Nat.reduceAdd, Int.reduceLE, Int.reduceLT, Int.reduceEq, Int.reduceToNat, Int.toNat_natCast, Int.cast_ofNat_Int, Int.natCast_one, Nat.reduceMod, Nat.reduceDiv, UInt8.reduceToNat, Nat.reduceLT, h0, h1, h5, hlv, d1, q1, q2, p1, p2, p3, q3, c1]
      all_goals exact hR _ i (by omega) hx rfl
theorem c28 (xs ys : List Bs8) (v w : AV) (s : St) (hv : RowS s v xs) (hw : RowS s w ys) (hn : xs.length ≤ 1000000) (K : AV → St → Prop) : CallW cx 28 [v, w] s K = K (.bool (decide (xs = ys))) s := by
  refine CallW.eq (CallW.fn' (fn := ir28) rfl rfl (by kernel_rfl) ir28.eq_1 ?_) K
  have hlv := hv.lenv
  have hlw := hw.lenv
  by_cases hl : xs.length = ys.length
  · have d1 : decide ((xs.length : Int) ≠ (ys.length : Int)) = false := decide_eq_false (by omega)
    simp (config := {contextual := true, implicitDefEqProofs := false, maxSteps := 4000000}) only [go_sem, ↓reduceIte, Bool.false_eq_true, Nat.reduceEqDiff, Nat.reduceAdd, Int.reduceLE, Int.reduceLT, Int.reduceEq, Int.reduceToNat, Int.toNat_natCast, Int.cast_ofNat_Int, Int.natCast_one, Nat.reduceMod, Nat.reduceDiv, UInt8.reduceToNat, Nat.reduceLT, hlv, hlw, d1]
    refine l28 xs ys v w s.heap s.next s.next _ rfl hv hw hl.symm hn _ xs.length 0 _ (by omega) rfl rfl rfl ?_ ?_
    · intro e' hal
      have : xs = ys := by
        apply List.ext_getElem hl
        intro j h1 h2
        have := hal j (Nat.zero_le _) h1
        rw [List.getD_eq_getElem?_getD, List.getD_eq_getElem?_getD, List.getElem?_eq_getElem h1, List.getElem?_eq_getElem h2] at this
        simpa using this
      rw [decide_eq_true this]
      simp (config := {contextual := true, implicitDefEqProofs := false, maxSteps := 4000000}) only [go_sem, ↓reduceIte, Bool.false_eq_true, Nat.reduceEqDiff, Nat.reduceAdd, Int.reduceLE, Int.reduceLT, Int.reduceEq, Int.reduceToNat, Int.toNat_natCast, Int.cast_ofNat_Int, Int.natCast_one, Nat.reduceMod, Nat.reduceDiv, UInt8.reduceToNat, Nat.reduceLT]
    · intro e' j hj hne h4
      have : xs ≠ ys := fun h => hne (by rw [h])
      rw [decide_eq_false this]
      simp (config := {contextual := true, implicitDefEqProofs := false, maxSteps := 4000000}) only [go_sem, ↓reduceIte, Bool.false_eq_true, Nat.reduceEqDiff, Nat.reduceAdd, Int.reduceLE, Int.reduceLT, Int.reduceEq, Int.reduceToNat, Int.toNat_natCast, Int.cast_ofNat_Int, Int.natCast_one, Nat.reduceMod, Nat.reduceDiv, UInt8.reduceToNat, Nat.reduceLT, h4]
  · have d1 : decide ((xs.length : Int) ≠ (ys.length : Int)) = true := decide_eq_true (by omega)
    have : xs ≠ ys := fun h => hl (by rw [h])
    rw [decide_eq_false this]
    simp (config := {contextual := true, implicitDefEqProofs := false, maxSteps := 4000000}) only [go_sem, ↓reduceIte, Bool.false_eq_true, Nat.reduceEqDiff, Nat.reduceAdd, Int.reduceLE, Int.reduceLT, Int.reduceEq, Int.reduceToNat, Int.toNat_natCast, Int.cast_ofNat_Int, Int.natCast_one, Nat.reduceMod, Nat.reduceDiv, UInt8.reduceToNat, Nat.reduceLT, hlv, hlw, d1]
end T43


/- Laws: frames. -/
namespace T43
open Go Fw Go.Proofs Go.RowKit
set_option maxRecDepth 100000
set_option maxHeartbeats 8000000
set_option linter.unusedSimpArgs false
set_option linter.unusedVariables false
theorem same_d (u : Int) : decide (u = u) = true := by simp
theorem same_i (u : Int) : (u = u) = True := by simp
/-- The argument's row. -/
def ArgS (v : AV) (xs : List Bs8) : Prop := (v = .nilslice ∧ xs = []) ∨ v = .slice (encS xs) xs.length .no
theorem ArgS.row {v : AV} {xs : List Bs8} (h : ArgS v xs) (st : St) : RowS st v xs := by
  rcases h with h | h
  · exact .inr (.inl h)
  · exact .inl ⟨.no, h⟩
theorem ArgS.parser {v : AV} {xs : List Bs8} (h : ArgS v xs) (hx : xs.length ≤ 100000) (s : St) (K : AV → St → Prop) : CallW cx 27 [v] s K = K (parT (parseB xs)) s := by
  rcases h with ⟨rfl, rfl⟩ | rfl
  · exact c27n s K
  · exact c27 xs .no s hx K
theorem l4 (xs : List Bs8) (v : AV) (hv : ArgS v xs) (hx : xs.length ≤ 1000) (h : List (Nat × AObj)) (nx lo : Nat) (r n : AV) (Q : Sig → FE → St → Prop) : ∀ (m i : Nat) (e : FE), i + m = xs.length → (∀ j, j < i → (xs.getD j []).length ≤ 100) → e 2 = v → e 7 = .int .i64 (i : Int) → e 0 = n → e 1 = r →
    (∀ e', (∀ x ∈ xs, x.length ≤ 100) → e' 2 = v → e' 0 = n → e' 1 = r → Q (.exit 0) e' { heap := h, next := nx, low := lo }) → (∀ e', e' 6 = .bool true → Q .ret e' { heap := h, next := nx, low := lo }) → WLoop cx ir4L0 e { heap := h, next := nx, low := lo } Q
  | 0, i, e, hi, hal, h2, h7, h0, h1, hQ, hR => by
    refine WLoop.rnd (c := _) ir4L0.eq_1 ?_
    have d1 : decide ((i : Int) < (xs.length : Int)) = false := decide_eq_false (by omega)
    have hlv := (hv.row { heap := [], next := 0, low := 0 }).lenv
    simp (config := {contextual := true, implicitDefEqProofs := false, maxSteps := 4000000}) only [go_sem, ↓reduceIte, Bool.false_eq_true, Nat.reduceEqDiff, Nat.reduceAdd, Int.reduceLE, Int.reduceLT, Int.reduceEq, Int.reduceToNat, Int.toNat_natCast, Int.cast_ofNat_Int, Int.natCast_one, Nat.reduceMod, Nat.reduceDiv, UInt8.reduceToNat, Nat.reduceLT, h2, h7, hlv, d1]
    refine hQ _ (fun x hx => ?_) h2 h0 h1
    obtain ⟨j, hj, rfl⟩ := List.getElem_of_mem hx
    have := hal j (by omega)
    rw [List.getD_eq_getElem?_getD, List.getElem?_eq_getElem hj] at this
    simpa using this
  | m + 1, i, e, hi, hal, h2, h7, h0, h1, hQ, hR => by
    refine WLoop.rnd (c := _) ir4L0.eq_1 ?_
    have d1 : decide ((i : Int) < (xs.length : Int)) = true := decide_eq_true (by omega)
    have hlv := (hv.row { heap := [], next := 0, low := 0 }).lenv
    have hwr := wrap_one (i := i) (by omega)
    obtain ⟨p, p1, p2, _⟩ := (hv.row { heap := h, next := nx, low := lo }).at (i := i) (by omega)
    have p2 := p2 lo
    dsimp only at p2
    obtain ⟨x, hxx⟩ : ∃ x, xs.getD i [] = x := ⟨_, rfl⟩
    rw [hxx] at p2
    by_cases hl : 100 < x.length
    · have d2 : decide ((100 : Int) < (x.length : Int)) = true := decide_eq_true (by omega)
      simp (config := {contextual := true, implicitDefEqProofs := false, maxSteps := 4000000}) only [go_sem, ↓reduceIte, Bool.false_eq_true, Nat.reduceEqDiff, Nat.reduceAdd, Int.reduceLE, Int.reduceLT, Int.reduceEq, Int.reduceToNat, Int.toNat_natCast, Int.cast_ofNat_Int, Int.natCast_one, Nat.reduceMod, Nat.reduceDiv, UInt8.reduceToNat, Nat.reduceLT, h2, h7, hlv, d1, p1, p2, d2]
      exact hR _ rfl
    · have d2 : decide ((100 : Int) < (x.length : Int)) = false := decide_eq_false (by omega)
      simp (config := {contextual := true, implicitDefEqProofs := false, maxSteps := 4000000}) only [go_sem, ↓reduceIte, Bool.false_eq_true, Nat.reduceEqDiff, Nat.reduceAdd, Int.reduceLE, Int.reduceLT, Int.reduceEq, Int.reduceToNat, Int.toNat_natCast, Int.cast_ofNat_Int, Int.natCast_one, Nat.reduceMod, Nat.reduceDiv, UInt8.reduceToNat, Nat.reduceLT, h2, h7, hlv, d1, p1, p2, d2, hwr]
      refine l4 xs v hv hx h nx lo r n Q m (i + 1) _ (by omega) (fun j hj => ?_) h2 rfl h0 h1 hQ hR
      by_cases hji : j = i
      · rw [hji, hxx]; omega
      · exact hal j (by omega)
theorem law4 (n : Int) (r : Bs8) (xs : List Bs8) (v : AV) (hv : ArgS v xs) : CallW cx 4 [.int .i64 n, .str r, v] { heap := [], next := 0, low := 0 } fun v _ => v = .bool true := by
  refine CallW.fn' (fn := ir4) rfl rfl (by kernel_rfl) ir4.eq_1 ?_
  have hlv := (hv.row { heap := [], next := 0, low := 0 }).lenv
  by_cases h1 : 1100 < r.length
  · have d1 : decide ((1100 : Int) < (r.length : Int)) = true := decide_eq_true (by omega)
    simp (config := {contextual := true, implicitDefEqProofs := false, maxSteps := 4000000}) only [go_sem, ↓reduceIte, Bool.false_eq_true, Nat.reduceEqDiff, Nat.reduceAdd, Int.reduceLE, Int.reduceLT, Int.reduceEq, Int.reduceToNat, Int.toNat_natCast, Int.cast_ofNat_Int, Int.natCast_one, Nat.reduceMod, Nat.reduceDiv, UInt8.reduceToNat, Nat.reduceLT, c9, d1, Bool.not_true]
  have d1 : decide ((1100 : Int) < (r.length : Int)) = false := decide_eq_false (by omega)
  by_cases h2 : 40 < xs.length
  · have d2 : decide ((40 : Int) < (xs.length : Int)) = true := decide_eq_true (by omega)
    simp (config := {contextual := true, implicitDefEqProofs := false, maxSteps := 4000000}) only [go_sem, ↓reduceIte, Bool.false_eq_true, Nat.reduceEqDiff, Nat.reduceAdd, Int.reduceLE, Int.reduceLT, Int.reduceEq, Int.reduceToNat, Int.toNat_natCast, Int.cast_ofNat_Int, Int.natCast_one, Nat.reduceMod, Nat.reduceDiv, UInt8.reduceToNat, Nat.reduceLT, c9, d1, hlv, d2, Bool.not_true]
  have d2 : decide ((40 : Int) < (xs.length : Int)) = false := decide_eq_false (by omega)
  simp (config := {contextual := true, implicitDefEqProofs := false, maxSteps := 4000000}) only [go_sem, ↓reduceIte, Bool.false_eq_true, Nat.reduceEqDiff, Nat.reduceAdd, Int.reduceLE, Int.reduceLT, Int.reduceEq, Int.reduceToNat, Int.toNat_natCast, Int.cast_ofNat_Int, Int.natCast_one, Nat.reduceMod, Nat.reduceDiv, UInt8.reduceToNat, Nat.reduceLT, c9, d1, hlv, d2, Bool.not_true]
  refine l4 xs v hv (by omega) [] 0 0 (.str r) (.int .i64 n) _ xs.length 0 _ (by omega) (fun j hj => by omega) rfl rfl rfl rfl ?_ ?_
  · intro e' hal g2 g0 g1
    have k3 := fun st K => c26 xs v st (hv.row st) (by omega) (fun x hx => by have := hal x hx; omega) K
    have k4 := fun st K => hv.parser (by omega) st K
    obtain ⟨⟨p1, p2, p3, p4⟩, hp⟩ : ∃ p, parseB xs = p := ⟨_, rfl⟩
    rw [hp] at k3 k4
    simp only [parT] at k3 k4
    by_cases h3 : 1024 < r.length
    · have k1 := fun st K => frame_bad n r (by omega) 7 (.inl ⟨h3, rfl⟩) st K
      have k2 := fun st K => framer_bad n r (by omega) 7 (.inl ⟨h3, rfl⟩) st K
      have k5 := fun st K => c28 [] [] .nilslice .nilslice st (.inr (.inl ⟨rfl, rfl⟩)) (.inr (.inl ⟨rfl, rfl⟩)) (by simp) K
      simp (config := {contextual := true, implicitDefEqProofs := false, maxSteps := 4000000}) only [go_sem, ↓reduceIte, Bool.false_eq_true, Nat.reduceEqDiff, Nat.reduceAdd, Int.reduceLE, Int.reduceLT, Int.reduceEq, Int.reduceToNat, Int.toNat_natCast, Int.cast_ofNat_Int, Int.natCast_one, Nat.reduceMod, Nat.reduceDiv, UInt8.reduceToNat, Nat.reduceLT, g2, g0, g1, k1, k2, k3, k4, k5, same_d, same_i, beq_self_eq_true]
    by_cases h4 : n < 0 ∨ 4096 ≤ n
    · have k1 := fun st K => frame_bad n r (by omega) 6 (.inr ⟨by omega, h4, rfl⟩) st K
      have k2 := fun st K => framer_bad n r (by omega) 6 (.inr ⟨by omega, h4, rfl⟩) st K
      have k5 := fun st K => c28 [] [] .nilslice .nilslice st (.inr (.inl ⟨rfl, rfl⟩)) (.inr (.inl ⟨rfl, rfl⟩)) (by simp) K
      simp (config := {contextual := true, implicitDefEqProofs := false, maxSteps := 4000000}) only [go_sem, ↓reduceIte, Bool.false_eq_true, Nat.reduceEqDiff, Nat.reduceAdd, Int.reduceLE, Int.reduceLT, Int.reduceEq, Int.reduceToNat, Int.toNat_natCast, Int.cast_ofNat_Int, Int.natCast_one, Nat.reduceMod, Nat.reduceDiv, UInt8.reduceToNat, Nat.reduceLT, g2, g0, g1, k1, k2, k3, k4, k5, same_d, same_i, beq_self_eq_true]
    obtain ⟨a, rfl⟩ : ∃ a : Nat, n = (a : Int) := ⟨n.toNat, by omega⟩
    have k1 := fun st K => c24 a r (by omega) (by omega) st K
    have k2 := fun st K => c25 a r (by omega) (by omega) st K
    have hfb := frameB_len a r
    have hz := szB_le r.length
    have k5 := fun K => c28 (frameB a r) (frameB a r) (.mslice 0 0 (szB r.length) none) (.slice (encS (frameB a r)) (szB r.length) .no) { heap := [(0, .cells none (encS (frameB a r)))], next := 1, low := 0 } (.inr (.inr ⟨0, none, [], by rw [hfb], by simp only [Fw.look, if_true, List.append_nil], by simp⟩)) (.inl ⟨.no, by rw [hfb]⟩) (by omega) K
    rw [decide_eq_true rfl] at k5
    simp (config := {contextual := true, implicitDefEqProofs := false, maxSteps := 4000000}) only [go_sem, ↓reduceIte, Bool.false_eq_true, Nat.reduceEqDiff, Nat.reduceAdd, Int.reduceLE, Int.reduceLT, Int.reduceEq, Int.reduceToNat, Int.toNat_natCast, Int.cast_ofNat_Int, Int.natCast_one, Nat.reduceMod, Nat.reduceDiv, UInt8.reduceToNat, Nat.reduceLT, g2, g0, g1, k1, k2, k3, k4, k5, same_d, same_i, beq_self_eq_true]
  · intro e' h6
    simp (config := {contextual := true, implicitDefEqProofs := false, maxSteps := 4000000}) only [go_sem, ↓reduceIte, Bool.false_eq_true, Nat.reduceEqDiff, Nat.reduceAdd, Int.reduceLE, Int.reduceLT, Int.reduceEq, Int.reduceToNat, Int.toNat_natCast, Int.cast_ofNat_Int, Int.natCast_one, Nat.reduceMod, Nat.reduceDiv, UInt8.reduceToNat, Nat.reduceLT, h6]
theorem hlaw4 (as0 : List AV) (h : TyArgs Tryd.prog Tryd.f4.params.toList as0) : ∃ k s', callF cx k 4 as0 st0 = some (.bool true, s') := by
  obtain ⟨a1, r1, rfl, h1, a2, r2, rfl, h2, a3, r3, rfl, h3, h6⟩ : ∃ a1 r1, as0 = a1 :: r1 ∧ TyArg Tryd.prog 3 a1 ∧ ∃ a2 r2, r1 = a2 :: r2 ∧ TyArg Tryd.prog 9 a2 ∧ ∃ a3 r3, r2 = a3 :: r3 ∧ TyArg Tryd.prog 42 a3 ∧ r3 = [] := h
  subst h6
  obtain ⟨n, rfl, _⟩ := TyArg_int Tryd.underlying3 h1
  obtain ⟨r, rfl, hr⟩ := TyArg_string Tryd.underlying9 h2
  obtain ⟨xs, hxs⟩ := TyArg_strs h3
  obtain ⟨k', v, s', h9, rfl⟩ := law4 n r xs a3 hxs
  exact ⟨k', s', h9⟩
end T43


/- What the variables hold, of which the rows tell. -/
namespace T43
open Go Fw Go.Proofs Go.RowKit
set_option maxRecDepth 100000
theorem iface_of {H : Type} {enc : TypeId × Value → H} {P : Program} {w : World} {base : Nat} {sp : Nat → Bool} {held : Bool} {fuel : Nat} {t : TypeId} {ms : Array String} {cs : List Value} {nm : String} {d : DataW H} {p : List MemPlace}
    (ht : ∃ x, P.underlying t = some (.interface x)) (h : DataW.trod enc P w base sp held fuel t cs = some (.iface nm d, p)) : ∃ u v, cs = [.iface u v] := by
  obtain ⟨x, ht⟩ := ht
  cases fuel with
  | zero => simp [DataW.trod] at h
  | succ fuel =>
    unfold DataW.trod at h
    simp only [ht] at h
    split at h <;> first
      | (simp_all; done)
      | skip
theorem laid_iface {P : Program} {W : World} {L : List (String × DataW Unit)} (h : laidMetH P L W) {name nm : String} {d : DataW Unit} (hm : (name, .iface nm d) ∈ L) (hh : (DataW.iface nm d : DataW Unit).handleName? = none) {g : Nat} {t : TypeId}
    (hg : P.globalNamed name = some g) (hty : (P.globals[g]?).map (·.type) = some t) (ht : ∃ x, P.underlying t = some (.interface x)) :
    alAll (fun _ => false) [AV.anyiface] = true ∧ RC (firstGh W) [AV.anyiface] g 0 := by
  obtain ⟨g', t', cs, fuel, p, hg', ht', hvar, hd⟩ := laidH_mem h hm hh
  obtain rfl := Option.some.inj (hg.symm.trans hg')
  obtain rfl := Option.some.inj (hty.symm.trans ht')
  obtain ⟨u, v, hcs⟩ := iface_of (ms := #[]) ht hd
  have hc := World.var?_cell hg hvar 0
  have h0 : cs[0]? = some (.iface u v) := by
    rw [← Array.getElem?_toList, hcs]; rfl
  rw [h0] at hc
  refine ⟨rfl, ?_⟩
  simp only [RC, R]
  exact ⟨⟨.iface u v, hc, u, v, rfl⟩, trivial⟩
theorem tabEq : (Go.Proofs.YtfhommjochpkbaaDoor.Rows.laid_math_bits_deBruijn64tab : DataW Unit) = Lib.tabData .u8 bruijn := rfl
theorem hgl : ∀ W, laidMetH Tryd.prog Go.Proofs.YtfhommjochpkbaaDoor.Rows.journalDiskRow.laid W → ∀ n cs, cx.gl n = some cs → alAll (fun _ => false) cs = true ∧ RC (firstGh W) cs n 0 := by
  intro W h n cs hn
  change gls n = some cs at hn
  unfold gls at hn
  split at hn <;> cases hn
  · exact laid_iface (name := "strconv.ErrSyntax") h (by simp [Go.Proofs.YtfhommjochpkbaaDoor.Rows.journalDiskRow, Go.Proofs.YtfhommjochpkbaaDoor.Rows.laid_strconv_ErrSyntax]; exact ⟨rfl, rfl⟩) (by kernel_rfl) (by kernel_rfl) (by kernel_rfl) ⟨_, Tryd.underlying83⟩
  · exact laid_iface (name := "strconv.ErrRange") h (by simp [Go.Proofs.YtfhommjochpkbaaDoor.Rows.journalDiskRow, Go.Proofs.YtfhommjochpkbaaDoor.Rows.laid_strconv_ErrRange]; exact ⟨rfl, rfl⟩) (by kernel_rfl) (by kernel_rfl) (by kernel_rfl) ⟨_, Tryd.underlying83⟩
  · exact laid_tab (name := "math/bits.deBruijn64tab") h (by rw [← tabEq]; simp [Go.Proofs.YtfhommjochpkbaaDoor.Rows.journalDiskRow]) (by kernel_rfl) (by kernel_rfl) Tryd.underlying153 Tryd.underlying5 (by kernel_rfl) (by kernel_rfl)
end T43
