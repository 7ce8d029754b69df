/- The plain operations, all of them. -/
import Derived.Test.YtgpfcgpgbflpgaaFwP3
namespace Fw
open Go Go.RowKit

section
variable {P : Program} {cx : Cx} {callee : Callee} {σ : Gh} {ρ : Env} {a : Act} {w : World} {s s' : St} {v : AV}

theorem run_v {x : Sem Value} {u : Value} (h : x.run P w = .ok u w) : (do pure (Next.value (← x)) : Sem Next).run P w = .ok (.value u) w := by simp [h]

theorem binOp_sound (hG : Gls cx σ) (hE : EnvOk σ ρ a) {op : BinOp} {t yt : TypeId} {x y : Operand} {io : IOp} (hc : cBin P op t x y = some io) (he : evOp cx callee ρ s io = some (v, s')) {d : Option Tmp} {ty : TypeId} {ps : String} {af : Array Edge} {gd : Option (Nat × Bool)} :
    ∃ u, (execOp a.eval ⟨d, .binOp op t x y yt, ty, ps, af, gd⟩).run P w = .ok (.value u) w ∧ R σ v u := by
  simp only [cBin, Option.bind_eq_some_iff] at hc
  obtain ⟨ix, h1, iy, h2, hc⟩ := hc
  have isbin : io = .bin op ix iy → ∃ u, (execOp a.eval ⟨d, .binOp op t x y yt, ty, ps, af, gd⟩).run P w = .ok (.value u) w ∧ R σ v u := by
    intro e; subst e
    simp only [evOp, Option.bind_eq_some_iff, Option.map_eq_some_iff] at he
    obtain ⟨p, h3, q, h4, r, h5, h6⟩ := he
    cases h6
    obtain ⟨u, hu, hr⟩ := bin_R (P := P) (w := w) (t := t) (ox := x) (oy := y) h5 (ev_R hG hE h1 h3) (ev_R hG hE h2 h4)
    exact ⟨u, run_v hu, hr⟩
  have iseq : ∀ q, (op = .eql ∨ op = .neq) → io = .eqv (decide (op = .neq)) q ix iy → (match q with
      | .scal => P.underlying t = some .bool
      | .agg ks => P.eqGuardType P.depth t = false ∧ plainEq P 20 t = some ks ∧ tagg P t = some true
      | .ptr => ∃ e, P.underlying t = some (.pointer e)
      | .slice => ∃ e, P.underlying t = some (.slice e)
      | .map => ∃ k e, P.underlying t = some (.map k e)
      | .func => ∃ p r b, P.underlying t = some (.func p r b)
      | .iface => (∃ m, P.underlying t = some (.interface m)) ∧ ((∃ c, x = .const c) ∨ ∃ c, y = .const c)) →
      ∃ u, (execOp a.eval ⟨d, .binOp op t x y yt, ty, ps, af, gd⟩).run P w = .ok (.value u) w ∧ R σ v u := by
    intro q hop e hq; subst e
    simp only [evOp, Option.bind_eq_some_iff, Option.map_eq_some_iff] at he
    obtain ⟨p, h3, q', h4, r, h5, h6⟩ := he
    cases h6
    have := eq_R (P := P) (w := w) (t := t) (ox := x) (oy := y) (neg := decide (op = .neq)) (op := op) (by rcases hop with rfl | rfl <;> rfl) hq h5 (ev_R hG hE h1 h3) (ev_R hG hE h2 h4)
    exact ⟨_, run_v this, by simp only [R]⟩
  split at hc
  · rename_i hop
    split at hc
    · cases hc; exact isbin rfl
    · cases hc; exact isbin rfl
    · rename_i hu; cases hc; exact iseq .scal hop rfl hu
    · rename_i fs hu
      split at hc
      · cases hc
      · rename_i hg
        simp only [Option.map_eq_some_iff] at hc
        obtain ⟨ks, hk, rfl⟩ := hc
        exact iseq (.agg ks) hop rfl ⟨by simpa using hg, hk, by simp [tagg, hu]⟩
    · rename_i e hu; cases hc; exact iseq .ptr hop rfl ⟨e, hu⟩
    · rename_i e hu; cases hc; exact iseq .slice hop rfl ⟨e, hu⟩
    · rename_i k e hu; cases hc; exact iseq .map hop rfl ⟨k, e, hu⟩
    · rename_i p r b hu; cases hc; exact iseq .func hop rfl ⟨p, r, b, hu⟩
    · rename_i m hu
      split at hc <;> cases hc
      rename_i hn
      refine iseq .iface hop rfl ⟨⟨m, hu⟩, ?_⟩
      simp only [Bool.or_eq_true] at hn
      rcases hn with hn | hn
      · left; unfold isNilIface at hn; split at hn <;> first | exact ⟨_, rfl⟩ | cases hn
      · right; unfold isNilIface at hn; split at hn <;> first | exact ⟨_, rfl⟩ | cases hn
    · cases hc
  · cases hc; exact isbin rfl

theorem conv_sound (hG : Gls cx σ) (hE : EnvOk σ ρ a) {src dst : TypeId} {x : Operand} {io : IOp} (hc : cConv P src dst x = some io) (hp : io.plain = true) (he : evOp cx callee ρ s io = some (v, s')) :
    ∃ u, (convert src dst (a.eval x)).run P w = .ok u w ∧ R σ v u := by
  simp only [cConv, Option.bind_eq_some_iff] at hc
  obtain ⟨ix, h1, hc⟩ := hc
  split at hc
  · rename_i k1 k hs hd
    cases hc
    simp only [evOp] at he
    split at he <;> cases he
    rename_i k2 n hx
    have hr := ev_R hG hE h1 hx
    simp only [R] at hr
    rw [hr]
    exact ⟨.int k (k.wrap n), by simp [convert, run_und hs, run_und hd, Conv.intToInt], by simp [R]⟩
  · rename_i hs hd
    cases hc
    simp only [evOp] at he
    split at he <;> cases he
    rename_i b hx
    have hr := ev_R hG hE h1 hx
    simp only [R] at hr
    rw [hr]
    exact ⟨_, by simp [convert, run_und hs, run_und hd]; rfl, by simp [R]⟩
  · split at hc <;> cases hc; simp [IOp.plain] at hp
  · split at hc <;> cases hc; simp [IOp.plain] at hp
  · rename_i k1 hs hd
    cases hc
    simp only [evOp] at he
    split at he <;> cases he
    rename_i k2 n hx
    have hr := ev_R hG hE h1 hx
    simp only [R] at hr
    rw [hr]
    exact ⟨.string (Utf8.encode n), by simp [convert, run_und hs, run_und hd, Conv.intToString], by simp [R]⟩
  · cases hc

theorem slice_sound (hG : Gls cx σ) (hE : EnvOk σ ρ a) {t : TypeId} {x : Operand} {lo hi m3 : Option Operand} {io : IOp} (hc : cSlice P t x lo hi m3 = some io) (he : evOp cx callee ρ s io = some (v, s')) :
    ∃ u, (Instr.sliceAt t (a.eval x) (lo.map a.eval) (hi.map a.eval) (m3.map a.eval)).run P w = .ok u w ∧ R σ v u := by
  simp only [cSlice, Option.bind_eq_some_iff] at hc
  obtain ⟨ix, h1, il, h2, ih, h3, im, h4, hc⟩ := hc
  split at hc
  · rename_i hu
    split at hc <;> cases hc
    simp only [evOp] at he
    split at he
    · rename_i b h5
      simp only [Option.bind_eq_some_iff, Option.map_eq_some_iff] at he
      obtain ⟨yl, h6, yh, h7, r, h9, h10⟩ := he
      cases h10
      cases m3 with
      | none => exact sliceStr_R hu h9 (ev_R hG hE h1 h5) (evo_R hG hE h2 h6) (evo_R hG hE h3 h7)
      | some m => simp [cXo] at h4
    · cases he
  · rename_i e hu
    simp only [Option.map_eq_some_iff] at hc
    obtain ⟨n, hn, rfl⟩ := hc
    simp only [evOp, Option.bind_eq_some_iff, Option.map_eq_some_iff] at he
    obtain ⟨y, h5, yl, h6, yh, h7, ym, h8, r, h9, h10⟩ := he
    cases h10
    exact slice_R hu hn h9 (ev_R hG hE h1 h5) (evo_R hG hE h2 h6) (evo_R hG hE h3 h7) (evo_R hG hE h4 h8)
  · rename_i n e hu
    simp only [Option.map_eq_some_iff] at hc
    obtain ⟨k, hk, rfl⟩ := hc
    simp only [evOp, Option.bind_eq_some_iff, Option.map_eq_some_iff] at he
    obtain ⟨y, h5, yl, h6, yh, h7, ym, h8, r, h9, h10⟩ := he
    cases h10
    exact sliceArr_R (.inl hu) hk h9 (ev_R hG hE h1 h5) (evo_R hG hE h2 h6) (evo_R hG hE h3 h7) (evo_R hG hE h4 h8)
  · rename_i r hu
    split at hc
    · rename_i n e hr
      simp only [Option.map_eq_some_iff] at hc
      obtain ⟨k, hk, rfl⟩ := hc
      simp only [evOp, Option.bind_eq_some_iff, Option.map_eq_some_iff] at he
      obtain ⟨y, h5, yl, h6, yh, h7, ym, h8, r, h9, h10⟩ := he
      cases h10
      exact sliceArr_R (.inr ⟨_, hu, hr⟩) hk h9 (ev_R hG hE h1 h5) (evo_R hG hE h2 h6) (evo_R hG hE h3 h7) (evo_R hG hE h4 h8)
    · cases hc
  · cases hc
end
end Fw
