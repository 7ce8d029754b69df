/- Every plain operation, at whatever world. -/
import Derived.Test.YtgpfcgpgbflpgaaFwP4
namespace Fw
open Go Go.RowKit

section
variable {P : Program} {cx : Cx} {callee : Callee} {σ : Gh} {ρ : Env} {a : Act} {w : World} {s s' : St} {v : AV}

theorem loadPart {g : Bool} {t : TypeId} {n off : Nat} {cs : List AV} {xs : Array Value} (hg : tagg P t = some g) (hn : tsz P t = some n) (h : Rs σ cs xs.toList) (he : (sub cs off n).bind (ofCells g) = some v) :
    ∃ u, (part t xs off).run P w = .ok u w ∧ R σ v u := by
  simp only [Option.bind_eq_some_iff] at he
  obtain ⟨ds, h1, h2⟩ := he
  obtain ⟨h3, h4, h5⟩ := sub_R h h1
  obtain ⟨u, h6, h7⟩ := ofCells_R h3 h2
  refine ⟨u, run_part hg hn xs off h4 h6 (fun e => ?_), h7⟩
  subst e
  simp only [ofCells, Bool.false_eq_true, if_false] at h2
  split at h2 <;> cases h2
  simpa using h5.symm

theorem asIntOf_R {k : IntKind} {n : Int} {u : Value} (h : R σ (.int k n) u) : (asIntOf u).run P w = .ok (k, n) w := by
  simp only [R] at h; subst h; rfl

def ArrIs (P : Program) (t e : TypeId) : Option Nat → Prop
  | none => P.underlying t = some (.slice e)
  | some n => P.underlying t = some (.array n e)

def IdxIs (P : Program) (t : TypeId) (k : Nat) (g : Bool) : Option Nat → Prop
  | none => P.underlying t = some .string
  | some n => ∃ e, P.underlying t = some (.array n e) ∧ tsz P e = some k ∧ tagg P e = some g

theorem idxAddr_sound {t e : TypeId} {k : Nat} {arr : Option Nat} {x : AV} {i : Int} {ki : IntKind} {u ui : Value} (hu : ArrIs P t e arr) (hk : tsz P e = some k)
    (he : iaddrA k arr x i = some v) (hx : R σ x u) (hi : R σ (.int ki i) ui) : ∃ u', (Instr.indexAt t u ui).run P w = .ok u' w ∧ R σ v u' := by
  simp only [R] at hi; subst hi
  unfold iaddrA at he
  split at he
  · split at he <;> cases he
    rename_i n id o hq
    have hu : P.underlying t = some (.array n e) := ‹ArrIs P t e (some n)›
    simp only [R] at hx; subst hx
    refine ⟨_, by simp [Instr.indexAt, asIntOf, run_und hu, Instr.sureAddr, hq, run_tsz hk, add_off]; rfl, by simp [R]⟩
  · split at he <;> cases he
    rename_i n cs o hq
    have hu : P.underlying t = some (.array n e) := ‹ArrIs P t e (some n)›
    simp only [R] at hx; obtain ⟨b, o', rfl, hx⟩ := hx
    refine ⟨_, by simp [Instr.indexAt, asIntOf, run_und hu, Instr.sureAddr, hq, run_tsz hk, add_off]; rfl, ?_⟩
    simp only [R]; exact ⟨b, o', by rw [Nat.add_assoc], hx⟩
  · split at he <;> cases he
    rename_i cs n own hq
    have hu : P.underlying t = some (.slice e) := ‹ArrIs P t e none›
    simp only [R] at hx
    rcases hx with ⟨b, o', cap, rfl, _, _, hx⟩ | ⟨_, rfl, _⟩
    case inr => omega
    refine ⟨_, by simp [Instr.indexAt, asIntOf, run_und hu, hq, run_tsz hk, add_off]; rfl, ?_⟩
    simp only [R]; exact ⟨b, o', rfl, hx⟩
  · split at he <;> cases he
    rename_i id o n cap hq
    have hu : P.underlying t = some (.slice e) := ‹ArrIs P t e none›
    simp only [R] at hx; obtain ⟨c, rfl, _⟩ := hx
    refine ⟨_, by simp [Instr.indexAt, asIntOf, run_und hu, hq, run_tsz hk, add_off]; rfl, by simp [R]⟩
  · cases he

theorem idx_sound {t : TypeId} {k : Nat} {g : Bool} {arr : Option Nat} {x : AV} {i : Int} {ki : IntKind} {u ui : Value} (hu : IdxIs P t k g arr)
    (he : idxA k g arr x i = some v) (hx : R σ x u) (hi : R σ (.int ki i) ui) : ∃ u', (Instr.index t u ui).run P w = .ok u' w ∧ R σ v u' := by
  simp only [R] at hi; subst hi
  unfold idxA at he
  split at he
  · rename_i b
    have hu : P.underlying t = some .string := ‹IdxIs P t k g none›
    split at he
    · rename_i h0
      simp only [Option.map_eq_some_iff] at he; obtain ⟨c, hc, rfl⟩ := he
      simp only [R] at hx; subst hx
      have hg : (⟨b.toArray⟩ : ByteArray)[i.toNat]? = some c := by
        have hlt : i.toNat < b.length := (List.getElem?_eq_some_iff.1 hc).1
        have hv := (List.getElem?_eq_some_iff.1 hc).2
        rw [getElem?_pos _ _ (by simpa [ByteArray.size] using hlt)]
        rw [ByteArray.getElem_eq_getElem_data]
        simp [hv]
      exact ⟨.int .u8 c.toNat, by simp [Instr.index, asIntOf, run_und hu, h0, hg], by simp [R]⟩
    · cases he
  · rename_i n cs
    obtain ⟨e, hu, hk, hg⟩ : ∃ e, P.underlying t = some (.array n e) ∧ tsz P e = some k ∧ tagg P e = some g := ‹IdxIs P t k g (some n)›
    split at he
    · rename_i hq
      simp only [R] at hx; obtain ⟨xs, rfl, hx⟩ := hx
      obtain ⟨u', h3, h4⟩ := loadPart (P := P) (w := w) hg hk hx he
      exact ⟨u', by simp [Instr.index, asIntOf, run_und hu, hq, run_tsz hk, h3], h4⟩
    · cases he
  · cases he

theorem plain_R (hG : Gls cx σ) (hE : EnvOk σ ρ a) {ob : Oper} {io : IOp} (hc : cOp P ob.op = some io) (hp : io.plain = true) (hb : ∀ z n ps, io ≠ .bslice z n ps) (he : evOp cx callee ρ s io = some (v, s')) (w : World) :
    ∃ u, (execOp a.eval ob).run P w = .ok (.value u) w ∧ R σ v u := by
  obtain ⟨d, o, ty, ps, af, gd⟩ := ob
  dsimp only at hc
  cases o
  case makeFunc fn first cap =>
    cases fn <;> simp only [cOp] at hc <;> try (cases hc; done)
    rename_i f
    simp only [Option.bind_eq_some_iff, Option.map_eq_some_iff] at hc; obtain ⟨x, h1, y, h2, rfl⟩ := hc
    simp only [evOp, Option.bind_eq_some_iff, Option.map_eq_some_iff] at he; obtain ⟨p, h3, q, h4, h5⟩ := he; cases h5
    refine ⟨_, rfl, ?_⟩
    simp only [R]
    refine ⟨_, _, rfl, ?_, ?_⟩
    · simpa using evs_R hG hE _ h1 h3
    · simpa using evs_R hG hE _ h2 h4
  case makeMap t r => cases r <;> simp only [cOp] at hc <;> cases hc; simp [IOp.plain] at hp
  all_goals simp only [cOp] at hc
  all_goals try (cases hc; done)
  case move x =>
    simp only [Option.map_eq_some_iff] at hc; obtain ⟨ix, h1, rfl⟩ := hc
    simp only [evOp, Option.map_eq_some_iff] at he; obtain ⟨b, h2, h3⟩ := he; cases h3
    exact ⟨_, rfl, ev_R hG hE h1 h2⟩
  case assign x =>
    simp only [Option.map_eq_some_iff] at hc; obtain ⟨ix, h1, rfl⟩ := hc
    simp only [evOp, Option.map_eq_some_iff] at he; obtain ⟨b, h2, h3⟩ := he; cases h3
    exact ⟨_, rfl, ev_R hG hE h1 h2⟩
  case pick c x y =>
    simp only [Option.bind_eq_some_iff, Option.map_eq_some_iff] at hc; obtain ⟨ic, h1, ix, h2, iy, h3, rfl⟩ := hc
    simp only [evOp] at he
    split at he
    · rename_i t ht
      simp only [Option.map_eq_some_iff] at he; obtain ⟨b, h4, h5⟩ := he; cases h5
      have hr := ev_R hG hE h1 ht
      simp only [R] at hr
      refine ⟨if t then a.eval x else a.eval y, by simp [execOp, hr, asBool], ?_⟩
      cases t
      · exact ev_R hG hE h3 h4
      · exact ev_R hG hE h2 h4
    · cases he
  case alloc t => simp only [Option.map_eq_some_iff] at hc; obtain ⟨_, _, rfl⟩ := hc; simp [IOp.plain] at hp
  case box t x => simp only [Option.map_eq_some_iff] at hc; obtain ⟨_, _, rfl⟩ := hc; simp [IOp.plain] at hp
  case build t parts =>
    simp only [Option.bind_eq_some_iff] at hc; obtain ⟨z, hz, hc⟩ := hc
    obtain ⟨zu, it, hit, hzr, hzc, hzl, hzl2⟩ := run_tzero (w := w) hz
    have hzz : it.zero = some zu := by
      simp only [zeroValue, Sem.run_bind, typeInfo] at hzr
      simp only [run_program, Result.andThen_ok, hit, Sem.run_pure] at hzr
      cases hq : it.zero with
      | none => simp [hq] at hzr
      | some q => simp [hq] at hzr; rw [hzr]
    have fin : ∀ (place : Nat → Option (Nat × Nat)) (ips : List (Nat × Nat × IX)), cParts place parts.toList = some ips → io = .build z.cells ips →
        (∀ cells, Instr.fill place zu.cells (parts.map fun (i, x) => (i, a.eval x)).toList = some cells → P.built t (parts.map fun (i, x) => (i, a.eval x)).toList = some cells) →
        ∃ u, (execOp a.eval ⟨d, .build t parts, ty, ps, af, gd⟩).run P w = .ok (.value u) w ∧ R σ v u := by
      intro place ips h1 h2 h3; subst h2
      simp only [evOp, Option.map_eq_some_iff] at he; obtain ⟨cs, h4, h5⟩ := he; cases h5
      obtain ⟨ys, h6, h7⟩ := fill_R hG hE place parts.toList h1 h4 (R_cells (ofConst_R hzc σ))
      rw [← map_parts] at h6
      exact ⟨.agg ys, run_v (run_build w t _ ys (h3 ys h6)), by simp only [R]; exact ⟨ys, rfl, h7⟩⟩
    split at hc
    · rename_i fs hu
      simp only [Option.bind_eq_some_iff, Option.map_eq_some_iff] at hc; obtain ⟨pl, hpl, ips, h1, h2⟩ := hc
      refine fin _ ips h1 h2.symm (fun cells h => ?_)
      simp only [Program.built, hit, hu, hzz, hpl]
      have : (fun (i : Nat) => pl[i]?) = (fun (i : Nat) => pl.toArray[i]?) := by funext i; simp
      rw [this] at h; exact h
    · rename_i n e hu
      simp only [Option.bind_eq_some_iff, Option.map_eq_some_iff] at hc; obtain ⟨k, hk, ips, h1, h2⟩ := hc
      refine fin _ ips h1 h2.symm (fun cells h => ?_)
      simp only [tsz, Option.map_eq_some_iff] at hk; obtain ⟨ie, hie, rfl⟩ := hk
      simp only [Program.built, hit, hu, hzz, hie]; exact h
    · cases hc
  case buildSlice t len parts =>
    split at hc
    · simp only [Option.bind_eq_some_iff] at hc; obtain ⟨n, _, z, _, hc⟩ := hc
      split at hc
      · cases hc
      · simp only [Option.map_eq_some_iff] at hc; obtain ⟨ips, _, rfl⟩ := hc; exact absurd rfl (hb _ _ _)
    · cases hc
  case insert t m k x =>
    split at hc
    · simp only [Option.bind_eq_some_iff, Option.map_eq_some_iff] at hc; obtain ⟨_, _, _, _, _, _, _, _, rfl⟩ := hc; simp [IOp.plain] at hp
    · cases hc
  case load t x => simp only [Option.bind_eq_some_iff, Option.map_eq_some_iff] at hc; obtain ⟨_, _, _, _, _, _, rfl⟩ := hc; simp [IOp.plain] at hp
  case store t x y => simp only [Option.bind_eq_some_iff, Option.map_eq_some_iff] at hc; obtain ⟨_, _, _, _, _, _, rfl⟩ := hc; simp [IOp.plain] at hp
  case nilCheck x =>
    simp only [Option.map_eq_some_iff] at hc; obtain ⟨ix, h1, rfl⟩ := hc
    simp only [evOp] at he
    split at he
    · rename_i id off h2
      cases he
      have hr := ev_R hG hE h1 h2
      have hr' := hr; simp only [R] at hr'
      exact ⟨_, by simp [execOp, hr'], hr' ▸ hr⟩
    · rename_i cs off h2
      cases he
      have hr := ev_R hG hE h1 h2
      have hr' := hr; simp only [R] at hr'; obtain ⟨b, o, hr', _⟩ := hr'
      exact ⟨_, by simp [execOp, hr'], hr' ▸ hr⟩
    · rename_i f x1 x2 h2
      cases he
      have hr := ev_R hG hE h1 h2
      have hr' := hr; simp only [R] at hr'; obtain ⟨b, o, hr', _⟩ := hr'
      exact ⟨_, by simp [execOp, hr'], hr' ▸ hr⟩
    · cases he
  case binOp op t x y yt => exact binOp_sound hG hE hc he
  case unOp op t x =>
    simp only [Option.map_eq_some_iff] at hc; obtain ⟨ix, h1, rfl⟩ := hc
    simp only [evOp, Option.map_eq_some_iff, Option.bind_eq_some_iff] at he; obtain ⟨b, ⟨c, h2, h3⟩, h4⟩ := he; cases h4
    obtain ⟨u, h5, h6⟩ := un_R (P := P) (w := w) h3 (ev_R hG hE h1 h2)
    exact ⟨u, run_v h5, h6⟩
  case convert src dst x =>
    obtain ⟨u, h5, h6⟩ := conv_sound (P := P) (w := w) hG hE hc hp he
    exact ⟨u, run_v h5, h6⟩
  case makeInterface t x =>
    split at hc
    · cases hc
    · rename_i dd hn hu
      simp only [Option.map_eq_some_iff] at hc; obtain ⟨ix, h1, rfl⟩ := hc
      simp only [evOp, Option.map_eq_some_iff] at he; obtain ⟨b, h2, h3⟩ := he; cases h3
      refine ⟨.iface t (a.eval x), run_v ?_, ?_⟩
      · simp only [Instr.makeInterface, Sem.run_bind, run_und hu, Result.andThen_ok]; rfl
      · simp only [R]; exact ⟨_, rfl, R_strip (ev_R hG hE h1 h2)⟩
    · cases hc
  case makeSlice t l c =>
    split at hc
    · simp only [Option.bind_eq_some_iff] at hc; obtain ⟨_, _, _, _, _, _, hc⟩ := hc
      split at hc
      · cases hc
      · simp only [Option.bind_eq_some_iff, Option.map_eq_some_iff] at hc; obtain ⟨_, _, _, _, rfl⟩ := hc; simp [IOp.plain] at hp
    · cases hc
  case slice t x lo hi m3 =>
    obtain ⟨u, h5, h6⟩ := slice_sound (P := P) (w := w) hG hE hc he
    exact ⟨u, run_v h5, h6⟩
  case fieldAddr t x i =>
    split at hc
    · rename_i fs hu
      simp only [Option.bind_eq_some_iff] at hc; obtain ⟨f, hf, n, hn, hc⟩ := hc
      split at hc
      · cases hc
      · rename_i hn0
        simp only [Option.map_eq_some_iff] at hc; obtain ⟨ix, h1, rfl⟩ := hc
        simp only [evOp] at he
        split at he
        · rename_i id off h2
          cases he
          have hr := ev_R hG hE h1 h2
          simp only [R] at hr
          exact ⟨_, run_v (by simp [Instr.fieldAt, run_und hu, hf, Instr.sureAddr, hr, Go.fieldPlace, run_tsz hn, hn0, add_off]; rfl), by simp [R]⟩
        · rename_i cs off h2
          cases he
          have hr := ev_R hG hE h1 h2
          simp only [R] at hr; obtain ⟨b, o, hr, hcs⟩ := hr
          refine ⟨_, run_v (by simp [Instr.fieldAt, run_und hu, hf, Instr.sureAddr, hr, Go.fieldPlace, run_tsz hn, hn0, add_off]; rfl), ?_⟩
          simp only [R]; exact ⟨b, o, by rw [Nat.add_assoc], hcs⟩
        · cases he
    · cases hc
  case field t x i =>
    split at hc
    · rename_i fs hu
      simp only [Option.bind_eq_some_iff, Option.map_eq_some_iff] at hc; obtain ⟨f, hf, n, hn, g, hg, ix, h1, rfl⟩ := hc
      simp only [evOp] at he
      split at he
      · rename_i cs h2
        simp only [Option.map_eq_some_iff] at he; obtain ⟨b, h3, h4⟩ := he; cases h4
        have hr := ev_R hG hE h1 h2
        simp only [R] at hr; obtain ⟨xs, hr, hx⟩ := hr
        obtain ⟨u, h5, h6⟩ := loadPart (P := P) (w := w) hg hn hx h3
        exact ⟨u, run_v (by simp [Instr.field, run_und hu, hf, hr, asAgg, h5]), h6⟩
      · cases he
    · cases hc
  case indexAddr t x i =>
    simp only [Option.bind_eq_some_iff] at hc; obtain ⟨ix, h1, ii, h2, hc⟩ := hc
    have key : ∀ (k : Nat) (e : TypeId) (arr : Option Nat), tsz P e = some k → ArrIs P t e arr → io = .iaddr k arr ix ii →
        ∃ u, (execOp a.eval ⟨d, .indexAddr t x i, ty, ps, af, gd⟩).run P w = .ok (.value u) w ∧ R σ v u := by
      intro k e arr hk hu hio; subst hio
      simp only [evOp, Option.bind_eq_some_iff] at he; obtain ⟨b, h3, c, h4, he⟩ := he
      split at he
      · simp only [Option.map_eq_some_iff] at he; obtain ⟨r, he, hr⟩ := he; cases hr
        obtain ⟨u, h5, h6⟩ := idxAddr_sound (P := P) (w := w) hu hk he (ev_R hG hE h1 h3) (ev_R hG hE h2 h4)
        exact ⟨u, run_v h5, h6⟩
      · cases he
    split at hc
    · rename_i n e hu
      simp only [Option.map_eq_some_iff] at hc; obtain ⟨k, hk, rfl⟩ := hc
      exact key k e (some n) hk hu rfl
    · rename_i e hu
      simp only [Option.map_eq_some_iff] at hc; obtain ⟨k, hk, rfl⟩ := hc
      exact key k e none hk hu rfl
    · cases hc
  case index t x i =>
    simp only [Option.bind_eq_some_iff] at hc; obtain ⟨ix, h1, ii, h2, hc⟩ := hc
    have key : ∀ (k : Nat) (g : Bool) (arr : Option Nat), IdxIs P t k g arr → io = .idx k g arr ix ii →
        ∃ u, (execOp a.eval ⟨d, .index t x i, ty, ps, af, gd⟩).run P w = .ok (.value u) w ∧ R σ v u := by
      intro k g arr hu hio; subst hio
      simp only [evOp, Option.bind_eq_some_iff] at he; obtain ⟨b, h3, c, h4, he⟩ := he
      split at he
      · simp only [Option.map_eq_some_iff] at he; obtain ⟨r, he, hr⟩ := he; cases hr
        obtain ⟨u, h5, h6⟩ := idx_sound (P := P) (w := w) hu he (ev_R hG hE h1 h3) (ev_R hG hE h2 h4)
        exact ⟨u, run_v h5, h6⟩
      · cases he
    split at hc
    · rename_i n e hu
      simp only [Option.bind_eq_some_iff, Option.map_eq_some_iff] at hc; obtain ⟨k, hk, g, hg, rfl⟩ := hc
      exact key k g (some n) ⟨e, hu, hk, hg⟩ rfl
    · rename_i hu; cases hc; exact key 1 false none hu rfl
    · cases hc
  case lookup t m k ok =>
    split at hc
    · simp only [Option.bind_eq_some_iff, Option.map_eq_some_iff] at hc; obtain ⟨_, _, _, _, _, _, _, _, rfl⟩ := hc; simp [IOp.plain] at hp
    · cases hc
  case mapUpdate t m k x =>
    split at hc
    · simp only [Option.bind_eq_some_iff, Option.map_eq_some_iff] at hc; obtain ⟨_, _, _, _, _, _, _, _, rfl⟩ := hc; simp [IOp.plain] at hp
    · cases hc
  case extract x i =>
    simp only [Option.map_eq_some_iff] at hc; obtain ⟨ix, h1, rfl⟩ := hc
    simp only [evOp] at he
    split at he
    · rename_i vs h2
      simp only [Option.map_eq_some_iff] at he; obtain ⟨b, h3, h4⟩ := he; cases h4
      have hr := ev_R hG hE h1 h2
      simp only [R] at hr; obtain ⟨xs, hr, hx⟩ := hr
      obtain ⟨u, h5, h6⟩ := Rs_get _ _ hx i _ h3
      have h5' : xs[i]? = some u := by simpa using h5
      exact ⟨u, run_v (by simp [Instr.extract, hr, h5']), h6⟩
    · cases he
  case call c =>
    obtain ⟨callee', args, ts⟩ := c
    dsimp only at hc
    split at hc
    · simp only [Option.bind_eq_some_iff, Option.map_eq_some_iff] at hc; obtain ⟨_, _, _, _, rfl⟩ := hc; simp [IOp.plain] at hp
    · rename_i b
      simp only [cBuiltin, Option.bind_eq_some_iff] at hc; obtain ⟨ixs, h1, hc⟩ := hc
      have hargs : ∀ {bs}, evs cx ρ ixs = some bs → Rs σ bs (args.map a.eval).toList := fun h => by
        rw [Array.toList_map]; exact evs_R hG hE _ h1 h
      split at hc
      · rename_i ix
        have hone : ∃ x, args.toList = [x] ∧ cX x = some ix := by
          cases hq : args.toList with
          | nil => rw [hq] at h1; simp [cXs] at h1
          | cons x xs =>
            rw [hq] at h1
            simp only [cXs, Option.bind_eq_some_iff, Option.map_eq_some_iff] at h1
            obtain ⟨i1, h2, is, h3, h4⟩ := h1
            cases h4
            cases xs with
            | nil => exact ⟨x, rfl, h2⟩
            | cons y ys => simp only [cXs, Option.bind_eq_some_iff, Option.map_eq_some_iff] at h3; obtain ⟨_, _, _, _, h5⟩ := h3; cases h5
        obtain ⟨x, hx1, hx2⟩ := hone
        have hmap : (args.map a.eval) = #[a.eval x] := by
          apply Array.ext'; rw [Array.toList_map, hx1]; rfl
        have run : ∀ {u : Value}, (Builtin.len_ ts ty #[a.eval x]).run P w = .ok u w → (execOp a.eval ⟨d, .call ⟨.builtin .len, args, ts⟩, ty, ps, af, gd⟩).run P w = .ok (.value u) w := by
          intro u hu
          simp [execOp, resolve, invoke, builtin, hmap, hu]
        split at hc
        · rename_i hu
          cases hc
          simp only [evOp] at he
          split at he <;> cases he
          rename_i b h2
          have hr := ev_R hG hE hx2 h2
          simp only [R] at hr
          simp only [Option.bind_eq_some_iff] at hu; obtain ⟨t, ht, hu⟩ := hu
          exact ⟨_, run (by simp [Builtin.len_, ht, run_und hu, hr]; rfl), by simp [R, goInt, ByteArray.size]⟩
        · rename_i e hu
          cases hc
          simp only [Option.bind_eq_some_iff] at hu; obtain ⟨t, ht, hu⟩ := hu
          simp only [evOp] at he
          split at he <;> cases he
          · rename_i h2
            have hr := ev_R hG hE hx2 h2
            simp only [R] at hr
            exact ⟨_, run (by simp [Builtin.len_, ht, run_und hu, hr]; rfl), by simp [R, goInt]⟩
          · rename_i cs n own h2
            have hr := ev_R hG hE hx2 h2
            simp only [R] at hr
            rcases hr with ⟨b, o, cap, hr, _⟩ | ⟨_, rfl, _, a', hr⟩
            · exact ⟨_, run (by simp [Builtin.len_, ht, run_und hu, hr]; rfl), by simp [R, goInt]⟩
            · exact ⟨_, run (by simp [Builtin.len_, ht, run_und hu, hr]; rfl), by simp [R, goInt]⟩
          · rename_i id off n cap h2
            have hr := ev_R hG hE hx2 h2
            simp only [R] at hr; obtain ⟨c, hr, _⟩ := hr
            exact ⟨_, run (by simp [Builtin.len_, ht, run_und hu, hr]; rfl), by simp [R, goInt]⟩
        · cases hc; simp [IOp.plain] at hp
        · rename_i n e hu
          cases hc
          simp only [Option.bind_eq_some_iff] at hu; obtain ⟨t, ht, hu⟩ := hu
          simp only [evOp, IX.ev, Option.map_some, Option.some.injEq] at he; cases he
          refine ⟨_, run (u := goInt n) ?_, by simp [R, goInt]⟩
          simp [Builtin.len_, ht, run_und hu]
        · cases hc
      · rename_i x xs
        cases hc
        simp only [evOp, Option.bind_eq_some_iff] at he; obtain ⟨bs, h2, he⟩ := he
        split at he
        · simp only [Option.map_eq_some_iff] at he; obtain ⟨c, h3, h4⟩ := he; cases h4
          have hr := hargs h2
          simp only [Rs] at hr; obtain ⟨u0, us, h5, h6, h7⟩ := hr
          obtain ⟨u, h8, h9⟩ := fold_min (P := P) (w := w) h3 h6 h7
          refine ⟨u, ?_, h9⟩
          simp only [execOp, resolve, invoke, builtin]
          simp only [Sem.run_bind, Sem.run_pure, Result.andThen_ok, Builtin.min_, h5, h8]
        · cases he
      · rename_i x xs
        cases hc
        simp only [evOp, Option.bind_eq_some_iff] at he; obtain ⟨bs, h2, he⟩ := he
        split at he
        · simp only [Option.map_eq_some_iff] at he; obtain ⟨c, h3, h4⟩ := he; cases h4
          have hr := hargs h2
          simp only [Rs] at hr; obtain ⟨u0, us, h5, h6, h7⟩ := hr
          obtain ⟨u, h8, h9⟩ := fold_max (P := P) (w := w) h3 h6 h7
          refine ⟨u, ?_, h9⟩
          simp only [execOp, resolve, invoke, builtin]
          simp only [Sem.run_bind, Sem.run_pure, Result.andThen_ok, Builtin.max_, h5, h8]
        · cases he
      · split at hc
        · split at hc
          · cases hc
          · simp only [Option.bind_eq_some_iff] at hc; obtain ⟨_, _, _, _, _, _, hc⟩ := hc
            split at hc <;> cases hc; simp [IOp.plain] at hp
        · cases hc
      · split at hc
        · simp only [Option.map_eq_some_iff] at hc; obtain ⟨_, _, rfl⟩ := hc; simp [IOp.plain] at hp
        · cases hc
      · cases hc
    · cases hc
end
end Fw
