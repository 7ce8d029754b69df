/- The evaluator without fuel, continued: regions, code, loops, calls. -/
import Derived.Test.YtgpfcgpgbflpgaaFwW
namespace Fw
open Go

theorem pif_true (p q : Prop) : pif true p q = p := by simp [pif]
theorem pif_false (p q : Prop) : pif false p q = q := by simp [pif]
theorem pif_congr {b b' : Bool} {p q p' q' : Prop} (h : Unit → b = b') (h1 : b' = true → p = p') (h2 : b' = false → q = q') : pif b p q = pif b' p' q' := by
  have h := h (); subst h; cases b
  · exact h2 rfl
  · exact h1 rfl

/-- What a guard lets by. -/
def gcase (v : AV) (want : Bool) (p q : Prop) : Prop := match v with
  | .bool b => if want then pif b p q else pif b q p
  | _ => q
theorem gcase_true (b : Bool) (p q : Prop) : gcase (.bool b) true p q = pif b p q := rfl
theorem gcase_false (b : Bool) (p q : Prop) : gcase (.bool b) false p q = pif b q p := rfl
theorem gcase_undef (w : Bool) (p q : Prop) : gcase AV.undef w p q = q := rfl
theorem gcase_congr {v v' : AV} {w : Bool} {p q : Prop} (h : Unit → v = v') : gcase v w p q = gcase v' w p q := by rw [h ()]

def WG (e : FE) (g : Option (Nat × Bool)) (p q : Prop) : Prop := match g with
  | none => p
  | some (t, want) => gcase (e t) want p q

def WO (cx : Cx) : List IOper → FE → St → (FE → St → Prop) → Prop
  | [], e, s, Q => Q e s
  | o :: os, e, s, Q => WG e o.guard (WOp cx e s o.op fun v s => WO cx os (upd o.dst v e) s Q) (WO cx os (upd o.dst AV.undef e) s Q)

theorem WG_iff {n : Nat} {ρ : Env} {e : FE} (h : Fits n ρ e) (g : Option (Nat × Bool)) {p q : Prop} (hg : WG e g p q) : (wants ρ g = true ∧ p) ∨ (wants ρ g = false ∧ q) := by
  cases g with
  | none => exact .inl ⟨rfl, hg⟩
  | some x =>
    obtain ⟨t, want⟩ := x
    simp only [WG, gcase] at hg
    simp only [wants, h.2 t]
    split at hg
    · rename_i b hb
      rw [hb]
      cases b <;> cases want <;> simp_all [pif]
    · rename_i hb
      refine .inr ⟨?_, hg⟩
      split
      · rename_i b hb'; exact absurd hb' (hb b)
      · rfl

def dstsOk (n : Nat) (os : List IOper) : Bool := os.all fun o => dOk n o.dst

theorem pif_iff {b : Bool} {p q : Prop} : pif b p q ↔ (b = true ∧ p) ∨ (b = false ∧ q) := by cases b <;> simp [pif]

theorem WO_sound {cx : Cx} {n : Nat} {Q : FE → St → Prop} : ∀ (os : List IOper) {ρ : Env} {e : FE} {s : St}, dstsOk n os = true → Fits n ρ e → WO cx os e s Q →
    ∃ k ρ' s', evOps cx (callF cx k) os ρ s = some (ρ', s') ∧ ∃ e', Fits n ρ' e' ∧ Q e' s'
  | [], ρ, e, s, _, hF, h => ⟨0, ρ, s, rfl, e, hF, h⟩
  | o :: os, ρ, e, s, hd, hF, h => by
    simp only [dstsOk, List.all_cons, Bool.and_eq_true] at hd
    simp only [WO] at h
    rcases WG_iff hF _ h with ⟨hq, h⟩ | ⟨hq, h⟩
    · obtain ⟨k1, v, s1, h1, h2⟩ := WOp_sound hF h
      obtain ⟨k2, ρ', s', h3, e', h4, h5⟩ := WO_sound os hd.2 (hF.put hd.1 v) h2
      refine ⟨max k1 k2, ρ', s', ?_, e', h4, h5⟩
      simp only [evOps, evOper, hq, if_true]
      rw [evOp_le (callF_mono (Nat.le_max_left k1 k2)) h1]
      exact evOps_le (callF_mono (Nat.le_max_right k1 k2)) h3
    · obtain ⟨k2, ρ', s', h3, e', h4, h5⟩ := WO_sound os hd.2 (hF.put hd.1 AV.undef) h
      refine ⟨k2, ρ', s', ?_, e', h4, h5⟩
      simp only [evOps, evOper, hq]
      exact h3

def deedOf : AV → Option Deed
  | .ptr id _ => some (.rd id)
  | _ => none
def deedW : AV → Deed
  | .ptr id _ => .wr id
  | _ => .wrAll

def WDeed (cx : Cx) (e : FE) (s : St) (o : IOp) (K : AV → St → Option Deed → Prop) : Prop := match o with
  | .load agg n a => oget (a.evF cx e) fun a => oget (loadA s agg n a) fun v => K v s (deedOf a)
  | .store n a x => oget (a.evF cx e) fun a => oget (x.evF cx e) fun x => oget (storeA s n a x) fun s => K AV.undef s (some (deedW a))
  | o => if o.plain then WOp cx e s o fun v _ => K v s none
    else if o.lays then WOp cx e s o fun v s' => K v s' (some (.lay s.next))
    else WOp cx e { s with low := s.next } o fun v s' => pif (decide (s'.next = s.next ∧ s'.low = s.next)) (K v s (some .rdAll)) (K v { s' with low := min s.low s'.low } (some .wrAll))

theorem evOp_load {cx : Cx} {c : Callee} {ρ : Env} {s : St} {g : Bool} {m : Nat} {a : IX} {x v : AV} (h : a.ev cx ρ = some x) (h2 : loadA s g m x = some v) : evOp cx c ρ s (.load g m a) = some (v, s) := by simp [evOp, h, h2]

theorem WDeed_sound {cx : Cx} {n : Nat} {ρ : Env} {e : FE} {s : St} {o : IOp} {K : AV → St → Option Deed → Prop} (hF : Fits n ρ e) (h : WDeed cx e s o K) : ∃ k v s' d, evDeed cx (callF cx k) ρ s o = some (v, s', d) ∧ K v s' d := by
  unfold WDeed at h
  split at h
  · rename_i agg m a
    simp only [oget_iff] at h
    obtain ⟨x, h1, v, h2, h3⟩ := h
    refine ⟨0, v, s, deedOf x, ?_, h3⟩
    simp only [evDeed, IOp.plain, IOp.lays, Bool.false_eq_true, if_false, evOp, ev_fits hF, h1, h2, Option.bind_some, Option.map_some]
    congr 3
    cases x <;> rfl
  · rename_i m a x
    simp only [oget_iff] at h
    obtain ⟨y, h1, z, h2, t, h3, h4⟩ := h
    refine ⟨0, AV.undef, t, some (deedW y), ?_, h4⟩
    simp only [evDeed, IOp.plain, IOp.lays, Bool.false_eq_true, if_false, evOp, ev_fits hF, h1, h2, h3, Option.bind_some, Option.map_some]
    congr 3
    cases y <;> rfl
  · rename_i o hl hs
    unfold evDeed
    split at h
    · rename_i hp
      obtain ⟨k, v, s', h1, h2⟩ := WOp_sound hF h
      exact ⟨k, v, s, none, by rw [if_pos hp, h1]; rfl, h2⟩
    · rename_i hp
      split at h
      · rename_i hy
        obtain ⟨k, v, s', h1, h2⟩ := WOp_sound hF h
        exact ⟨k, v, s', _, by rw [if_neg hp, if_pos hy, h1]; rfl, h2⟩
      · rename_i hy
        obtain ⟨k, v, s', h1, h2⟩ := WOp_sound hF h
        rw [pif_iff] at h2
        simp only [decide_eq_true_eq, decide_eq_false_iff_not] at h2
        rcases h2 with ⟨h3, h2⟩ | ⟨h3, h2⟩
        · refine ⟨k, v, s, some .rdAll, ?_, h2⟩
          rw [if_neg hp, if_neg hy]
          split
          · exact absurd rfl (hl _ _ _)
          · exact absurd rfl (hs _ _ _)
          · rw [h1]; simp [h3]
        · refine ⟨k, v, _, some .wrAll, ?_, h2⟩
          rw [if_neg hp, if_neg hy]
          split
          · exact absurd rfl (hl _ _ _)
          · exact absurd rfl (hs _ _ _)
          · rw [h1]; simp [h3]

def dcase (d : Option Deed) (p : Prop) (q : Deed → Prop) : Prop := match d with
  | none => p
  | some d => q d
theorem dcase_none (p : Prop) (q : Deed → Prop) : dcase none p q = p := rfl
theorem dcase_some (d : Deed) (p : Prop) (q : Deed → Prop) : dcase (some d) p q = q d := rfl
theorem dcase_congr {d d' : Option Deed} {p : Prop} {q : Deed → Prop} (h : Unit → d = d') : dcase d p q = dcase d' p q := by rw [h ()]

def WD (cx : Cx) : List (IOper × Nat) → Nat → List (Nat × Deed) → FE → St → (FE → St → Prop) → Prop
  | [], _, _, e, s, Q => Q e s
  | o :: os, i, ds, e, s, Q => WG e o.1.guard
      (WDeed cx e s o.1.op fun v s d => dcase d (WD cx os (i + 1) ds (upd o.1.dst v e) s Q) fun d => pif (freeAll o.2 d ds) (WD cx os (i + 1) ((i, d) :: ds) (upd o.1.dst v e) s Q) False)
      (WD cx os (i + 1) ds (upd o.1.dst AV.undef e) s Q)

def ddstsOk (n : Nat) (os : List (IOper × Nat)) : Bool := os.all fun o => dOk n o.1.dst

theorem WD_sound {cx : Cx} {n : Nat} {Q : FE → St → Prop} : ∀ (os : List (IOper × Nat)) {i : Nat} {ds : List (Nat × Deed)} {ρ : Env} {e : FE} {s : St}, ddstsOk n os = true → Fits n ρ e → WD cx os i ds e s Q →
    ∃ k ρ' s', evDraw cx (callF cx k) os i ds ρ s = some (ρ', s') ∧ ∃ e', Fits n ρ' e' ∧ Q e' s'
  | [], i, ds, ρ, e, s, _, hF, h => ⟨0, ρ, s, rfl, e, hF, h⟩
  | (o, m) :: os, i, ds, ρ, e, s, hd, hF, h => by
    simp only [ddstsOk, List.all_cons, Bool.and_eq_true] at hd
    simp only [WD] at h
    rcases WG_iff hF _ h with ⟨hq, h⟩ | ⟨hq, h⟩
    · obtain ⟨k1, v, s1, d, h1, h2⟩ := WDeed_sound hF h
      cases d with
      | none =>
        obtain ⟨k2, ρ', s', h3, e', h4, h5⟩ := WD_sound os hd.2 (hF.put hd.1 v) h2
        refine ⟨max k1 k2, ρ', s', ?_, e', h4, h5⟩
        simp only [evDraw, hq, if_true]
        rw [evDeed_le (callF_mono (Nat.le_max_left k1 k2)) h1]
        exact evDraw_le (callF_mono (Nat.le_max_right k1 k2)) h3
      | some d =>
        simp only [dcase, pif_iff] at h2
        rcases h2 with ⟨hf, h2⟩ | ⟨_, h2⟩
        case inr => exact h2.elim
        obtain ⟨k2, ρ', s', h3, e', h4, h5⟩ := WD_sound os hd.2 (hF.put hd.1 v) h2
        refine ⟨max k1 k2, ρ', s', ?_, e', h4, h5⟩
        simp only [evDraw, hq, if_true]
        rw [evDeed_le (callF_mono (Nat.le_max_left k1 k2)) h1]
        simp only [Option.bind_some, hf, if_true]
        exact evDraw_le (callF_mono (Nat.le_max_right k1 k2)) h3
    · obtain ⟨k2, ρ', s', h3, e', h4, h5⟩ := WD_sound os hd.2 (hF.put hd.1 AV.undef) h
      refine ⟨k2, ρ', s', ?_, e', h4, h5⟩
      simp only [evDraw, hq]
      exact h3

def dstOk (n : Nat) : ICode → Bool
  | .region os => dstsOk n os
  | .dregion os => ddstsOk n os
  | .seq a b => dstOk n a && dstOk n b
  | .cond _ a b => dstOk n a && dstOk n b
  | .block _ b => dstOk n b
  | .loop b => dstOk n b
  | .scope b => dstOk n b
  | _ => true

def Ends (cx : Cx) (c : ICode) (n : Nat) (e : FE) (s : St) (Q : Sig → FE → St → Prop) : Prop :=
  ∀ ρ, Fits n ρ e → ∃ k g ρ' s', exec cx k c ρ s = some (g, ρ', s') ∧ ∃ e', Fits n ρ' e' ∧ Q g e' s'

def WLoop (cx : Cx) (b : ICode) (e : FE) (s : St) (Q : Sig → FE → St → Prop) : Prop := ∀ n, dstOk n b = true → Ends cx (.loop b) n e s Q

def sqn (g : Sig) (p q : Prop) : Prop := match g with
  | .normal => p
  | _ => q
theorem sqn_normal (p q : Prop) : sqn .normal p q = p := rfl
theorem sqn_exit (i : Nat) (p q : Prop) : sqn (.exit i) p q = q := rfl
theorem sqn_ret (p q : Prop) : sqn .ret p q = q := rfl
theorem sqn_congr {g g' : Sig} {p q : Prop} (h : Unit → g = g') : sqn g p q = sqn g' p q := by rw [h ()]

def blk1 (id : Nat) (g : Sig) : Sig := if g = .exit id then .normal else g

def W (cx : Cx) : ICode → FE → St → (Sig → FE → St → Prop) → Prop
  | .skip, e, s, Q => Q .normal e s
  | .region os, e, s, Q => WO cx os e s fun e s => Q .normal e s
  | .dregion os, e, s, Q => WD cx os 0 [] e s fun e s => Q .normal e s
  | .seq a b, e, s, Q => W cx a e s fun g e s => sqn g (W cx b e s Q) (Q g e s)
  | .cond x a b, e, s, Q => oget (x.evF cx e) fun v => bcase v (W cx a e s Q) (W cx b e s Q)
  | .block id b, e, s, Q => W cx b e s fun g e s => Q (blk1 id g) e s
  | .loop b, e, s, Q => WLoop cx b e s Q
  | .exit id, e, s, Q => Q (.exit id) e s
  | .scope b, e, s, Q => W cx b e s Q
  | .ret, e, s, Q => Q .ret e s

theorem W_sound {cx : Cx} : ∀ (c : ICode) {n : Nat} {e : FE} {s : St} {Q : Sig → FE → St → Prop}, dstOk n c = true → W cx c e s Q → Ends cx c n e s Q
  | .skip, n, e, s, Q, _, h, ρ, hF => ⟨1, .normal, ρ, s, rfl, e, hF, h⟩
  | .region os, n, e, s, Q, hd, h, ρ, hF => by
    obtain ⟨k, ρ', s', h1, e', h2, h3⟩ := WO_sound os hd hF h
    refine ⟨k + 1, .normal, ρ', s', ?_, e', h2, h3⟩
    unfold callF at h1
    simp [exec, h1]
  | .dregion os, n, e, s, Q, hd, h, ρ, hF => by
    obtain ⟨k, ρ', s', h1, e', h2, h3⟩ := WD_sound os hd hF h
    refine ⟨k + 1, .normal, ρ', s', ?_, e', h2, h3⟩
    unfold callF at h1
    simp [exec, h1]
  | .seq a b, n, e, s, Q, hd, h, ρ, hF => by
    simp only [dstOk, Bool.and_eq_true] at hd
    simp only [W] at h
    obtain ⟨k1, g1, ρ1, s1, h1, e1, h2, h3⟩ := W_sound a hd.1 h ρ hF
    cases g1 with
    | normal =>
      obtain ⟨k2, g2, ρ2, s2, h4, e2, h5, h6⟩ := W_sound b hd.2 h3 ρ1 h2
      refine ⟨max k1 k2 + 1, g2, ρ2, s2, ?_, e2, h5, h6⟩
      simp only [exec]
      rw [exec_mono (Nat.le_max_left k1 k2) _ _ _ _ h1]
      exact exec_mono (Nat.le_max_right k1 k2) _ _ _ _ h4
    | exit i => exact ⟨k1 + 1, _, ρ1, s1, by simp only [exec]; rw [h1]; rfl, e1, h2, h3⟩
    | ret => exact ⟨k1 + 1, _, ρ1, s1, by simp only [exec]; rw [h1]; rfl, e1, h2, h3⟩
  | .cond x a b, n, e, s, Q, hd, h, ρ, hF => by
    simp only [dstOk, Bool.and_eq_true] at hd
    simp only [W, oget_iff] at h
    obtain ⟨v, h1, h2⟩ := h
    unfold bcase at h2
    split at h2
    · rename_i t
      unfold pif at h2
      split at h2
      · rename_i ht; subst ht
        obtain ⟨k, g, ρ', s', h3, e', h4, h5⟩ := W_sound a hd.1 h2 ρ hF
        exact ⟨k + 1, g, ρ', s', by simp only [exec, ev_fits hF, h1, if_true]; exact h3, e', h4, h5⟩
      · rename_i ht
        have ht' : t = false := by simpa using ht
        subst ht'
        obtain ⟨k, g, ρ', s', h3, e', h4, h5⟩ := W_sound b hd.2 h2 ρ hF
        exact ⟨k + 1, g, ρ', s', by simp only [exec, ev_fits hF, h1, Bool.false_eq_true, if_false]; exact h3, e', h4, h5⟩
    · exact h2.elim
  | .block id b, n, e, s, Q, hd, h, ρ, hF => by
    simp only [W] at h
    obtain ⟨k, g, ρ', s', h3, e', h4, h5⟩ := W_sound b hd h ρ hF
    exact ⟨k + 1, blk1 id g, ρ', s', by simp [exec, h3, blk1], e', h4, h5⟩
  | .loop b, n, e, s, Q, hd, h, ρ, hF => h n hd ρ hF
  | .exit id, n, e, s, Q, _, h, ρ, hF => ⟨1, .exit id, ρ, s, rfl, e, hF, h⟩
  | .scope b, n, e, s, Q, hd, h, ρ, hF => by
    obtain ⟨k, g, ρ', s', h3, e', h4, h5⟩ := W_sound b hd h ρ hF
    exact ⟨k + 1, g, ρ', s', by simp only [exec]; exact h3, e', h4, h5⟩
  | .ret, n, e, s, Q, _, h, ρ, hF => ⟨1, .ret, ρ, s, rfl, e, hF, h⟩

/-- A loop's round. -/
theorem WLoop.round {cx : Cx} {b : ICode} {e : FE} {s : St} {Q : Sig → FE → St → Prop} (h : W cx b e s fun g e s => sqn g (WLoop cx b e s Q) (Q g e s)) : WLoop cx b e s Q := by
  intro n hd ρ hF
  obtain ⟨k1, g1, ρ1, s1, h1, e1, h2, h3⟩ := W_sound b hd h ρ hF
  cases g1 with
  | normal =>
    obtain ⟨k2, g2, ρ2, s2, h4, e2, h5, h6⟩ := h3 n hd ρ1 h2
    refine ⟨max k1 k2 + 1, g2, ρ2, s2, ?_, e2, h5, h6⟩
    simp only [exec]
    rw [exec_mono (Nat.le_max_left k1 k2) _ _ _ _ h1]
    exact exec_mono (Nat.le_max_right k1 k2) _ _ _ _ h4
  | exit i => exact ⟨k1 + 1, _, ρ1, s1, by simp only [exec]; rw [h1]; rfl, e1, h2, h3⟩
  | ret => exact ⟨k1 + 1, _, ρ1, s1, by simp only [exec]; rw [h1]; rfl, e1, h2, h3⟩

def argsE (args : List AV) : FE := fun t => args.getD t AV.undef

def resF (s : St) (e : FE) : List IRes → Option (List AV)
  | [] => some []
  | .tmp t :: rs => (resF s e rs).map (e t :: ·)
  | .cell t agg n :: rs => (loadA s agg n (e t)).bind fun v => (resF s e rs).map (v :: ·)
theorem res_fits {n : Nat} {ρ : Env} {e : FE} (h : Fits n ρ e) (s : St) : ∀ rs, results s ρ rs = resF s e rs
  | [] => rfl
  | .tmp t :: rs => by simp only [results, resF, res_fits h s rs, h.2]
  | .cell t g n :: rs => by simp only [results, resF, res_fits h s rs, h.2]

def notExit : Sig → Bool
  | .exit _ => false
  | _ => true

/-- What a function's caller sees. -/
def RetW (s : St) (rs : List IRes) (K : AV → St → Prop) (g : Sig) (e : FE) (s' : St) : Prop :=
  pif (notExit g) (oget (resF s' e rs) fun vs => K (leave s s' (tupled vs)).1 (leave s s' (tupled vs)).2) False

theorem CallW.fn {cx : Cx} {f : Nat} {fn : IFunc} {args : List AV} {s : St} {K : AV → St → Prop} (hx : cx.ext f = none) (hf : cx.fns f = some fn) (hd : dstOk fn.ntmps fn.body = true)
    (h : W cx fn.body (argsE args) { s with low := s.next } (RetW s fn.results K)) : CallW cx f args s K := by
  have hF : Fits fn.ntmps (args ++ List.replicate (fn.ntmps - args.length) AV.undef) (argsE args) := by
    refine ⟨by simp; omega, fun t => ?_⟩
    simp only [Env.get, argsE, List.getD]
    by_cases ht : t < args.length
    · rw [List.getElem?_append_left ht]
    · rw [List.getElem?_append_right (by omega), List.getElem?_eq_none (l := args) (by omega), List.getElem?_replicate]
      split <;> rfl
  obtain ⟨k, g, ρ', s', h1, e', h2, h3⟩ := W_sound fn.body hd h _ hF
  unfold RetW at h3
  rw [pif_iff] at h3
  rcases h3 with ⟨hg, h3⟩ | ⟨_, h3⟩
  case inr => exact h3.elim
  rw [oget_iff] at h3
  obtain ⟨vs, h4, h5⟩ := h3
  refine ⟨k, _, _, ?_, h5⟩
  simp only [callF, callWith, hx, hf, Option.bind_some, h1, res_fits h2, h4]
  cases g
  case exit => simp [notExit] at hg
  all_goals rfl

theorem CallW.ext {cx : Cx} {f : Nat} {g : List AV → St → Option (AV × St)} {args : List AV} {s : St} {K : AV → St → Prop} (hx : cx.ext f = some g) (h : oget (g args s) fun p => K p.1 p.2) : CallW cx f args s K := by
  rw [oget_iff] at h
  obtain ⟨p, h1, h2⟩ := h
  exact ⟨0, p.1, p.2, by simp only [callF, callWith, hx, h1], h2⟩

theorem CallW.mono {cx : Cx} {f : Nat} {args : List AV} {s : St} {K K' : AV → St → Prop} (h : CallW cx f args s K) (hk : ∀ v s, K v s → K' v s) : CallW cx f args s K' := by
  obtain ⟨k, v, s', h1, h2⟩ := h; exact ⟨k, v, s', h1, hk v s' h2⟩

/-- The answer is one: what a call comes to, handed on. -/
theorem CallW.eq {cx : Cx} {f : Nat} {args : List AV} {s : St} {v0 : AV} {s0 : St} (h : CallW cx f args s fun v s' => v = v0 ∧ s' = s0) (K : AV → St → Prop) : CallW cx f args s K = K v0 s0 := by
  obtain ⟨k, v, s', h1, rfl, rfl⟩ := h
  refine propext ⟨fun ⟨k2, v2, s2, h2, h3⟩ => ?_, fun h => ⟨k, _, _, h1, h⟩⟩
  have a := callF_mono (Nat.le_max_left k k2) _ _ _ _ h1
  have b := callF_mono (Nat.le_max_right k k2) _ _ _ _ h2
  rw [a] at b; cases b; exact h3
theorem CallW_congr {cx : Cx} {f : Nat} {args args' : List AV} {s s' : St} {K : AV → St → Prop} (h : Unit → args = args') (h2 : Unit → s = s') : CallW cx f args s K = CallW cx f args' s' K := by rw [h (), h2 ()]
theorem FunK_congr {cx : Cx} {f f' : AV} {args args' : List AV} {s s' : St} {K : AV → St → Prop} (h0 : Unit → f = f') (h : Unit → args = args') (h2 : Unit → s = s') : FunK cx f args s K = FunK cx f' args' s' K := by rw [h0 (), h (), h2 ()]
theorem WLoop_congr {cx : Cx} {b : ICode} {e : FE} {s s' : St} {Q : Sig → FE → St → Prop} (h2 : Unit → s = s') : WLoop cx b e s Q = WLoop cx b e s' Q := by rw [h2 ()]
theorem WLoop.mono {cx : Cx} {b : ICode} {e : FE} {s : St} {Q Q' : Sig → FE → St → Prop} (h : WLoop cx b e s Q) (hq : ∀ g e s, Q g e s → Q' g e s) : WLoop cx b e s Q' := by
  intro n hd ρ hF
  obtain ⟨k, g, ρ', s', h1, e', h2, h3⟩ := h n hd ρ hF
  exact ⟨k, g, ρ', s', h1, e', h2, hq _ _ _ h3⟩
end Fw
