/- Parts of the proof, one behind the other. -/
import Derived.Test.YtgpfcgpgbflpgaaK10
import Derived.Test.YtgpfcgpgbflpgaaFwX
import Derived.Test.YtgpfcgpgbflpgaaChecked
import Derived.Lib.Builder
import Derived.Lib.Walk
import Derived.WalkKit
import Derived.KernelRfl
import Derived.Shelf.RegionOpenPlain
/- The compiled form is that of the program's own functions, one by one. -/
namespace T10
open Go Fw Go.Proofs
theorem tbl_shut : (tbl.all fun o => match o with | some ir => ir.body.shut | none => true) = true := by kernel_rfl
theorem tbl_ok : tbl = (List.range tbl.length).map fun i => (Try.prog.funcs[i]?).bind (cFunc Try.prog) := by kernel_rfl
theorem tbl_dst : (tbl.all fun o => match o with | some ir => dstOk ir.ntmps ir.body | none => true) = true := by kernel_rfl
end T10

/- Three functions of the library, walked at this program: strings.Builder's inner check and its String; the search for a byte. -/
namespace T10
open Go Go.Proofs Go.RowKit
set_option maxHeartbeats 2000000
set_option maxRecDepth 100000
theorem infoB : (Try.prog.info? 74).map (·.size) = some 2 := by kernel_rfl
theorem liesB : liesAt Try.prog Try.prog.depth 74 (2 / Try.prog.cellsOf 74) 0 74 1 = true := by kernel_rfl
theorem cellsByte : Try.prog.cellsOf 5 = 1 := by kernel_rfl
theorem mixed : Try.prog.follows .mixedOrders = true := by kernel_rfl
theorem copyCheck_used (b : Nat) (w : World) (h0 : w.cell? ⟨b, 0, none⟩ = some (.pointer (some ⟨b, 0, none⟩))) :
    Calls Try.prog 72 #[.pointer (some ⟨b, 0, none⟩)] w fun e w' => e = .returned (.tuple #[]) ∧ w' = w := by
  obtain ⟨j, hj, _⟩ := Option.map_eq_some_iff.1 infoB
  go_enter Try.func72, Try.ntmps72
  go_wp2
  rw [Lib.run_neq_ptr_same w _ Try.underlying71 hj]
  go_wp2
  go_end0
  exact ⟨rfl, rfl⟩
theorem copyCheck_fresh (b : Nat) (w : World) (h0 : w.cell? ⟨b, 0, none⟩ = some (.pointer none)) (hsh : w.shape? b = some (74, 2)) (hfz : w.frozen? ⟨b, 0, none⟩ = false) :
    Calls Try.prog 72 #[.pointer (some ⟨b, 0, none⟩)] w fun e w' => e = .returned (.tuple #[]) ∧ w' = w.setCell ⟨b, 0, none⟩ (.pointer (some ⟨b, 0, none⟩)) := by
  obtain ⟨j, hj, hjs⟩ := Option.map_eq_some_iff.1 infoB
  go_enter Try.func72, Try.ntmps72
  go_wp2
  rw [Lib.run_to_unsafe w ⟨b, 0, none⟩ Try.underlying71 Try.underlying104 hj (by rw [hjs]; decide) hsh (Nat.zero_lt_succ 1)]
  simp only [Result.andThen]
  rw [Oper.upon_value]
  go_wp2
  rw [run_callFunc_extern Try.func80 (by kernel_rfl) (by kernel_rfl) (by kernel_rfl) (e := Extern.AbiNoEscape.same) (by kernel_rfl)]
  rw [Lib.run_noEscape]
  simp only [Result.andThen]
  rw [Oper.upon_value]
  go_wp2
  rw [Lib.run_from_unsafe w ⟨b, 0, none⟩ Try.underlying104 Try.underlying71 hj hsh liesB]
  simp only [Result.andThen]
  rw [Oper.upon_value]
  go_wp2
  go_end0
  exact ⟨rfl, rfl⟩
theorem string_none (b : Nat) (w : World) (h : w.cell? ⟨b, 1, none⟩ = some (.slice none 0 0)) :
    Calls Try.prog 45 #[.pointer (some ⟨b, 0, none⟩)] w fun e w' => e = .returned (.string ⟨#[]⟩) ∧ w' = w.drew := by
  have c1 : w.drew.cell? ⟨b, 1, none⟩ = some (.slice none 0 0) := h
  have hSD : (Builtin.unsafeSliceData_ #[72] 95 #[.slice none 0 0]).run Try.prog w.drew = .ok (.pointer none) w.drew := rfl
  have hUS : ∀ p w, (Builtin.unsafeString_ #[95, 3] 9 #[.pointer p, .int .i64 0]).run Try.prog w = .ok (.string ⟨#[]⟩) w := fun p w => Lib.run_unsafeString_none w 95 3 9 p
  have mixed := mixed
  go_enter Try.func45, Try.ntmps45
  go_wp2
  go_region_o
  all_goals (go_wp2; go_ret; exact ⟨rfl, rfl⟩)
theorem string_some (b g o cap cells : Nat) (l : List Int) (w : World) (h : w.cell? ⟨b, 1, none⟩ = some (.slice (some ⟨g, o, none⟩) l.length cap)) (h0 : l ≠ []) (hc : l.length ≤ cap) (hsh : w.shape? g = some (5, cells)) (hn : o + l.length ≤ cells) (h63 : l.length ≤ 9223372036854775807)
    (hcell : ∀ j x, l[j]? = some x → w.cell? ((⟨g, o, none⟩ : Addr).add j) = some (.int .u8 x)) :
    Calls Try.prog 45 #[.pointer (some ⟨b, 0, none⟩)] w fun e w' => e = .returned (.string ⟨(l.map fun n => UInt8.ofNat n.toNat).toArray⟩) ∧ w' = w.drew.freeze ⟨g, o, none⟩ l.length := by
  have hl0 : l.length ≠ 0 := by simpa using h0
  have c1 : w.drew.cell? ⟨b, 1, none⟩ = some (.slice (some ⟨g, o, none⟩) l.length cap) := h
  have hSD : (Builtin.unsafeSliceData_ #[72] 95 #[.slice (some ⟨g, o, none⟩) l.length cap]).run Try.prog w.drew = .ok (.pointer (some ⟨g, o, none⟩)) w.drew :=
    Lib.run_unsafeSliceData_row _ _ _ _ _ _ (by omega)
  have hUS := Fw.run_unsafeString_at (P := Try.prog) (w := w.drew) 95 3 9 5 Try.underlying95 cellsByte g o cells hsh l h0 hn h63 hcell
  have mixed := mixed
  go_enter Try.func45, Try.ntmps45
  go_wp2
  go_region_o
  all_goals (go_wp2; go_ret; exact ⟨rfl, rfl⟩)
end T10

/- The machine's context of this program, and that it is the program's. -/
namespace T10
open Go Fw Go.Proofs
def exts : Nat → Option (List AV → St → Option (AV × St))
  | 91 => some xIndexByte
  | 72 => some (xCopyCheck 74)
  | 45 => some (xString 74 5)
  | _ => none
def cx : Cx := { fns := fun i => (tbl[i]?).join, gl := fun _ => none, ext := exts }
theorem hext (f : Nat) (g : List AV → St → Option (AV × St)) (h : cx.ext f = some g) : ExtOk Try.prog f g := by
  change exts f = some g at h
  unfold exts at h
  split at h <;> cases h
  · exact xIndexByte_ok Try.func91 (by kernel_rfl) (by kernel_rfl) (by kernel_rfl) (by kernel_rfl)
  · exact xCopyCheck_ok Try.func72 (by intro h; exact absurd h (by decide)) (by kernel_rfl) copyCheck_used copyCheck_fresh
  · exact xString_ok Try.func45 (by intro h; exact absurd h (by decide)) (by kernel_rfl) string_none string_some
theorem cxp (X : Bs) (hX : X.gl = cx.gl) : CxP Try.prog X cx := cxp_of tbl_shut tbl_ok rfl hext (fun _ _ h => by cases h) mixed X hX
end T10
