/- Parts of the proof, one behind the other. -/
import Derived.Test.YtljlkedecdgimaaDoorK07t
import Derived.Test.YtljlkedecdgimaaDoorCards
import Derived.Test.YtljlkedecdgimaaDoorTie
import Derived.ProofKit
import Derived.Lay
import Derived.SevenTiedAt
import Derived.Test.YtljlkedecdgimaaDoorFwL
set_option linter.unusedSimpArgs false
set_option linter.unusedVariables false
/- LexerJoins returns true for every input; its card, with what it lists tied to the program's text. -/
namespace Go.Proofs.YtljlkedecdgimaaDoor
open Go Fw Go.RowKit Go.ChangeShapes Go.WideShapes Go.ChangeAt
set_option maxRecDepth 100000
theorem Tryd.own4 : ownKnob Tryd.prog.godebug = none := by kernel_rfl
theorem Tryd.laidOut4 : laidOutB Tryd.prog = true := by kernel_rfl
theorem bulk_pos {H : Type} (d : DataW H) : 1 ≤ Rows.uptoBulk d := by
  cases d with
  | lit l => cases l <;> simp only [Rows.uptoBulk] <;> omega
  | _ => simp only [Rows.uptoBulk] <;> omega
theorem bulk_mem {H : Type} : ∀ (es : List (DataW H)), es.length ≤ Rows.uptoBulkAll es ∧ ∀ d ∈ es, Rows.uptoBulk d ≤ Rows.uptoBulkAll es
  | [] => ⟨Nat.zero_le _, fun d h => by cases h⟩
  | x :: es => by
    obtain ⟨h1, h2⟩ := bulk_mem es
    have h3 := bulk_pos x
    simp only [Rows.uptoBulkAll, List.length_cons]
    refine ⟨by omega, fun d hd => ?_⟩
    rcases List.mem_cons.1 hd with rfl | hd
    · omega
    · have := h2 d hd; omega
theorem bulkOk (H : Type) : Bulk 1048576 (fun d : DataW H => Rows.uptoBulk d ≤ 1048576) := by
  refine ⟨fun s h => ?_, fun es r h => ?_, fun es h => ?_⟩
  · simp only [Rows.uptoBulk] at h; omega
  · simp only [Rows.uptoBulk] at h
    obtain ⟨h1, h2⟩ := bulk_mem es
    exact ⟨by omega, fun d hd => by have := h2 d hd; omega⟩
  · simp only [Rows.uptoBulk] at h
    obtain ⟨h1, h2⟩ := bulk_mem es
    exact fun d hd => by have := h2 d hd; omega
theorem smallOk (H : Type) (ds : List (DataW H)) (h : Rows.uptoSmall H ds = true) : ∀ d ∈ ds, Rows.uptoBulk d ≤ 1048576 := by
  have h := of_decide_eq_true h
  exact fun d hd => by have := (bulk_mem ds).2 d hd; omega
theorem lexerJoins_lifted (os : Os) (started : os.Started) (H : Type) (enc : TypeId × Value → H) :
    ReturnsInHanded {} Tryd.checked os 4 .any (fun w args => ((uptoOf Rows.lexerJoinsSpec Rows.uptoSmall).pre enc Tryd.prog Tryd.f4 Rows.lexerJoinsUptoRow.domain false w args ∧ laidMetH Tryd.prog Rows.lexerJoinsUptoRow.laid w) ∧ sizedMet enc Tryd.prog Tryd.f4 (uptoOf Rows.lexerJoinsSpec Rows.uptoSmall) false w args) (Rows.lexerJoinsSpec.post enc Tryd.prog Tryd.f4 false true false false) := by
  refine law_lifted_upto (k := Rows.uptoSmall) (B := 1048576) (Q := fun d => Rows.uptoBulk d ≤ 1048576) (C := Tryd.checked) (L := Rows.lexerJoinsUptoRow.laid) (S := [29, 23, 9, 3, 2]) (tb := 4) Tryd.own4 started (by kernel_rfl) Tryd.func4
    (witness_upto (k := Rows.uptoSmall) (enc := enc) (C := Tryd.checked) (os := os) (X := fun w _ => laidMetH Tryd.prog Rows.lexerJoinsUptoRow.laid w) false (World.laidAll Tryd.prog os Rows.lexerJoinsUptoRow.laid) #[.slice none 0 0, .int .i64 0] 8 (World.laidAll_os _ _ _)
      (World.shaped_of_ZipB (by kernel_rfl) (by kernel_rfl)) (by kernel_rfl) (by kernel_rfl) (by kernel_rfl)
      (by rw [MakeChecks.laidMetH_plain _ _ _ (by kernel_rfl)]; exact laidMet_laidAll _ (by kernel_rfl) (by kernel_rfl))) (bulkOk H) (smallOk H) Tryd.laidOut4 T07.cxp T07.hgl rfl (by kernel_rfl) ?_ rfl rfl ?_ ?_ T07.hlaw4
  · intro t ht
    rw [show Tryd.f4.params.toList = [29, 3] from rfl] at ht
    simp only [List.mem_cons, List.not_mem_nil, or_false] at ht
    rcases ht with rfl | rfl
    · exact ⟨by simp, by kernel_rfl, of_decide_eq_true (by kernel_rfl)⟩
    · exact ⟨by simp, by kernel_rfl, of_decide_eq_true (by kernel_rfl)⟩
  · exact Tryd.underlying4
  · intro ds hds
    match ds, hds with
    | [d1, d2], _ => rfl
theorem lexerJoins_holds : Rows.LexerJoinsUptoSaid :=
  OpenClaim.holds_of_cond 4 Tryd.f4 rfl rfl rfl rfl rfl rfl rfl ⟨rfl, rfl, rfl, rfl, rfl⟩ rfl rfl rfl rfl rfl (by kernel_rfl) Tryd.func4 (by kernel_rfl)
    (of_decide_eq_true (by kernel_rfl)) (by unfold Func.isWrapper; first | (rw [if_pos (by decide +kernel)]; kernel_rfl) | (rw [if_neg (by decide +kernel)]; exact ⟨rfl, rfl⟩))
    (fun os started H enc _ _ => lexerJoins_lifted os started H enc)
theorem lexerJoins_card : Rows.LexerJoinsUptoCardSaid :=
  Claim7.holds_tied_plain_at .later [] [.data, .data, .data, .data, .sentinel, .sentinel, .pinned] true (true, "891b6c0a8d96f652c173ebf1d5bf13caeb06b7d0c70ebaa3239b4e899a7227b4") true
    lexerJoins_holds (fun _ h => by cases h) (by kernel_rfl) (fun _ h => by cases h) lexerJoinsUpto_row_tie rfl ⟨rfl, rfl⟩ (by kernel_rfl) rfl
    (fun f fn hf hfn => by
      obtain rfl : f = 4 := Option.some.inj ((show Tryd.prog.funcNamed "plenum/plenumlaw07.LexerJoins" = some 4 by kernel_rfl).symm.trans hf) |>.symm
      obtain rfl : fn = Tryd.f4 := (Option.some.inj (Tryd.func4.symm.trans hfn)).symm
      exact ⟨by kernel_rfl, fun j t ht => by
        rw [show Tryd.f4.params = #[29, 3] from rfl] at ht
        have hm : t ∈ [29, 3] := by simpa using Array.mem_of_getElem? ht
        have hall : ([29, 3].all fun u => !Tryd.prog.wantsStandIn u) = true := by kernel_rfl
        exact (show Tryd.prog.wantsStandIn t = false by simpa using List.all_eq_true.1 hall t hm)⟩)
    (by kernel_rfl)
end Go.Proofs.YtljlkedecdgimaaDoor
