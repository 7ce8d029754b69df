/- Parts of the proof, one behind the other. -/
import Derived.Test.YtfhommjochpkbaaDoorFwD
import Derived.ProofKit
set_option linter.unusedSimpArgs false
set_option linter.unusedVariables false
set_option linter.unusedSectionVars false

/- The arguments of a law: whatever reads as data is a value of the abstract machine. -/
namespace Fw
open Go Go.RowKit

/-- The fields lie one behind the other and fill the cells. -/
def contig (P : Program) (total : Nat) : Nat → List Field → Bool
  | off, [] => off == total
  | off, f :: fs => f.offset == off && contig P total (off + P.cellsOf f.type) fs

/-- A closed set of types of numbers, texts, truth values, structs, arrays and slices of such. -/
def simpleSet (P : Program) (S : List TypeId) : Bool := S.all fun t => match P.underlying t with
  | some .bool => P.cellsOf t == 1
  | some (.int _) => P.cellsOf t == 1
  | some .string => P.cellsOf t == 1
  | some (.slice e) => S.contains e && decide (0 < P.cellsOf e)
  | some (.struct fs) => (fs.toList.all fun f => S.contains f.type) && contig P (P.cellsOf t) 0 fs.toList
  | some (.array n e) => S.contains e && n * P.cellsOf e == P.cellsOf t
  | _ => false

/-- The cells of a value of a type, of a depth at most. -/
def Ty (P : Program) : Nat → TypeId → List AV → Prop
  | 0, _, _ => False
  | f + 1, t, as => match P.underlying t with
    | some .bool => ∃ b, as = [.bool b]
    | some (.int k) => ∃ n, as = [.int k n] ∧ (Lit.int k n).wf = true
    | some .string => ∃ s, as = [.str s] ∧ s.length ≤ maxLen
    | some (.slice e) => as = [.nilslice] ∨ ∃ es : List (List AV), (∀ x ∈ es, Ty P f e x ∧ x.length = P.cellsOf e) ∧ es.length ≤ maxLen ∧ as = [.slice es.flatten es.length .no]
    | some (.struct fs) => ∃ ps : List (List AV), ps.length = fs.size ∧ (∀ (j : Nat) (x : Field) (p : List AV), fs[j]? = some x → ps[j]? = some p → Ty P f x.type p ∧ p.length = P.cellsOf x.type) ∧ as = ps.flatten
    | some (.array n e) => ∃ ps : List (List AV), ps.length = n ∧ (∀ p ∈ ps, Ty P f e p ∧ p.length = P.cellsOf e) ∧ as = ps.flatten
    | _ => False

section
variable {P : Program} {σ : Gh} {W : World} {H : Type} {enc : TypeId × Value → H}

theorem mapM_some {α β : Type} {f : α → Option β} : ∀ (l : List α) {ys : List β}, l.mapM f = some ys → ys.length = l.length ∧ ∀ (j : Nat) (x : α), l[j]? = some x → ∃ y, ys[j]? = some y ∧ f x = some y
  | [], ys, h => by simp at h; subst h; exact ⟨rfl, fun j x h => by simp at h⟩
  | a :: l, ys, h => by
    simp only [List.mapM_cons, Option.bind_eq_bind, Option.bind_eq_some_iff, Option.pure_def, Option.some.injEq] at h
    obtain ⟨b, h1, bs, h2, rfl⟩ := h
    obtain ⟨h3, h4⟩ := mapM_some l h2
    refine ⟨by simp [h3], fun j x hx => ?_⟩
    cases j with
    | zero => simp at hx; subst hx; exact ⟨b, rfl, h1⟩
    | succ j => simp only [List.getElem?_cons_succ] at hx ⊢; exact h4 j x hx

theorem cells?_get {base n : Nat} {a : Addr} {cs : List Value} (h : W.cells? base a n = some cs) : cs.length = n ∧ ∀ (j : Nat) (v : Value), cs[j]? = some v → W.cell? (a.add j) = some v := by
  unfold World.cells? at h
  split at h
  · obtain ⟨h1, h2⟩ := mapM_some _ h
    simp only [List.length_range] at h1
    refine ⟨h1, fun j v hv => ?_⟩
    have hj : j < n := by have := (List.getElem?_eq_some_iff.1 hv).1; omega
    obtain ⟨y, h3, h4⟩ := h2 j j (by simp [hj])
    rw [hv] at h3; cases h3; exact h4
  · cases h

theorem cell_spot {a : Addr} {v : Value} (h : W.cell? a = some v) : a.spot = none := by
  unfold World.cell? at h
  split at h
  · split at h
    · cases h
    · rename_i hs; simpa using hs
  · cases h

/-- Lists of rows, one behind the other. -/
theorem Rs_flatten {es : List (List AV)} {vss : List (List Value)} (hl : es.length = vss.length) (h : ∀ (j : Nat) (x : List AV) (y : List Value), es[j]? = some x → vss[j]? = some y → Rs σ x y) : Rs σ es.flatten vss.flatten := by
  induction es generalizing vss with
  | nil => cases vss with
    | nil => simp [Rs]
    | cons => simp at hl
  | cons x es ih =>
    cases vss with
    | nil => simp at hl
    | cons y vss =>
      simp only [List.flatten_cons]
      exact Rs_append (h 0 x y rfl rfl) (ih (by simpa using hl) fun j x' y' hx hy => h (j + 1) x' y' (by simpa using hx) (by simpa using hy))

theorem choose_list {α β : Type} {R : α → β → Prop} : ∀ (l : List α), (∀ x ∈ l, ∃ y, R x y) → ∃ ys : List β, ys.length = l.length ∧ ∀ (j : Nat) (x : α) (y : β), l[j]? = some x → ys[j]? = some y → R x y
  | [], _ => ⟨[], rfl, fun j x y h => by simp at h⟩
  | a :: l, h => by
    obtain ⟨y, hy⟩ := h a (by simp)
    obtain ⟨ys, h1, h2⟩ := choose_list l fun x hx => h x (by simp [hx])
    refine ⟨y :: ys, by simp [h1], fun j x y' hx hy' => ?_⟩
    cases j with
    | zero => simp at hx hy'; subst hx; subst hy'; exact hy
    | succ j => simp only [List.getElem?_cons_succ] at hx hy'; exact h2 j x y' hx hy'

theorem contig_flat {P : Program} {total : Nat} {cs : List Value} (hl : cs.length = total) : ∀ (off : Nat) (fs : List Field), contig P total off fs = true → (fs.map fun f => (cs.drop f.offset).take (P.cellsOf f.type)).flatten = cs.drop off
  | off, [], h => by
    simp only [contig, beq_iff_eq] at h
    simp; omega
  | off, f :: fs, h => by
    simp only [contig, Bool.and_eq_true, beq_iff_eq] at h
    simp only [List.map_cons, List.flatten_cons]
    rw [contig_flat hl _ fs h.2, h.1, ← List.drop_drop, List.take_append_drop]

theorem contig_fits {P : Program} {total : Nat} : ∀ (off : Nat) (fs : List Field), contig P total off fs = true → (∀ f ∈ fs, f.offset + P.cellsOf f.type ≤ total) ∧ off ≤ total
  | off, [], h => by
    simp only [contig, beq_iff_eq] at h
    exact ⟨fun f hf => by simp at hf, by omega⟩
  | off, f :: fs, h => by
    simp only [contig, Bool.and_eq_true, beq_iff_eq] at h
    obtain ⟨h1, h2⟩ := contig_fits _ fs h.2
    refine ⟨fun g hg => ?_, by omega⟩
    rcases List.mem_cons.1 hg with rfl | hg
    · omega
    · exact h1 g hg

theorem range_flat {k : Nat} {cs : List Value} : ∀ (n off : Nat), cs.length = off + n * k → ((List.range' 0 n).map fun i => (cs.drop (off + i * k)).take k).flatten = cs.drop off
  | 0, off, h => by simp; omega
  | n + 1, off, h => by
    rw [List.range'_succ, List.map_cons, List.flatten_cons]
    have e : ((List.range' (0 + 1) n).map fun i => (cs.drop (off + i * k)).take k) = (List.range' 0 n).map fun i => (cs.drop (off + k + i * k)).take k := by
      rw [List.range'_eq_map_range, List.range'_eq_map_range, List.map_map, List.map_map]
      apply List.map_congr_left
      intro i _
      simp only [Function.comp, Nat.zero_add]
      rw [Nat.add_mul, Nat.one_mul, Nat.add_assoc]
    rw [e, range_flat n (off + k) (by rw [h, Nat.succ_mul]; omega)]
    simp only [Nat.zero_mul, Nat.add_zero]
    rw [← List.drop_drop, List.take_append_drop]

/-- A cell of rows laid one behind the other. -/
theorem flat_cell {k b o : Nat} : ∀ (vss : List (List Value)), (∀ y ∈ vss, y.length = k) → (∀ (i : Nat) (y : List Value), vss[i]? = some y → ∀ (m : Nat) (u : Value), y[m]? = some u → W.cell? ⟨b, o + (i * k + m), none⟩ = some u) →
    ∀ (j : Nat) (v : Value), vss.flatten[j]? = some v → W.cell? ⟨b, o + j, none⟩ = some v := by
  intro vss
  induction vss generalizing o with
  | nil => intro _ _ j v h; simp at h
  | cons y vss ih =>
    intro hl hc j v h
    have hy := hl y (by simp)
    simp only [List.flatten_cons] at h
    by_cases hj : j < y.length
    · rw [List.getElem?_append_left hj] at h
      have := hc 0 y rfl j v h
      simpa using this
    · rw [List.getElem?_append_right (by omega)] at h
      have := ih (o := o + k) (fun z hz => hl z (by simp [hz])) (fun i z hz m u hu => by
        have := hc (i + 1) z (by simpa using hz) m u hu
        rw [Nat.succ_mul] at this
        rwa [show o + (i * k + k + m) = o + k + (i * k + m) by omega] at this) (j - y.length) v h
      rwa [show o + k + (j - y.length) = o + j by omega] at this

end
end Fw


/- From a run of the abstract machine to a law's row. -/
namespace Fw
open Go Go.RowKit Go.ChangeShapes Go.WideShapes Go.ChangeAt

section
variable {P : Program} {H : Type} {enc : TypeId × Value → H} {W W' : World}

theorem trodAll_below (hl : laidOutB P = true) (hb : Below W.heap.size W W') : ∀ {ts : List TypeId} {vs : List Value} {ds : List (DataW H)} {ps : List MemPlace}, (∀ t ∈ ts, P.readableRec t = true ∧ t < P.types.size) →
    DataW.TrodAll enc P W 0 (fun _ => true) true ts vs ds ps → (∀ x ∈ ps, x.block < W.heap.size) → ∀ sp : Nat → Bool, (∀ p ∈ ps, sp p.block = true) → DataW.TrodAll enc P W' 0 sp true ts vs ds ps
  | [], [], [], ps, _, h, _, _, _ => h
  | t :: ts, v :: vs, d :: ds, ps, ht, h, hlt, sp, hsp => by
    obtain ⟨p, q, h1, h2, rfl⟩ := h
    refine ⟨p, q, WideElems.Trod_stays hl (ht t (by simp)).1 (ht t (by simp)).2 h1 (fun x hx => hb.same (hlt x (by simp [hx]))) (fun x hx => hsp x (by simp [hx])), ?_, rfl⟩
    exact trodAll_below hl hb (fun t' ht' => ht t' (by simp [ht'])) h2 (fun x hx => hlt x (by simp [hx])) sp fun x hx => hsp x (by simp [hx])
  | [], _ :: _, _, _, _, h, _, _, _ => h.elim
  | [], [], _ :: _, _, _, h, _, _, _ => h.elim
  | _ :: _, [], _, _, _, h, _, _, _ => h.elim
  | _ :: _, _ :: _, [], _, _, h, _, _, _ => h.elim

/-- A law's answer: true; the arguments read as they did. -/
theorem post_true {fn : Func} {s : ChangeSpec} {apart fresh handsOn again : Bool} {args : Array Value} {ds gs : List (DataW H)} {before : List MemPlace} {tb : TypeId} (hl : laidOutB P = true) (hW : DataW.Whole enc P fn.params.toList s.vars apart W args.toList ds gs before)
    (hb : Below W.heap.size W W') (hpar : ∀ t ∈ fn.params.toList, P.readableRec t = true ∧ t < P.types.size) (hvars : s.vars = []) (hres : fn.resultTypes = #[tb]) (htb : P.underlying tb = some .bool)
    (hspec : s.fn H (ds ++ gs) = { results := [.lit (.bool true)], args := ds }) : s.post enc P fn apart fresh handsOn again W args (.bool true) W' := by
  have hold : ∀ p ∈ before, (fun b => decide (b < W.heap.size)) p.block = true := fun p hp => by simpa using hW.lt p hp
  have hlt := hW.lt
  have hW0 := hW
  obtain ⟨p, q, hA, hV, rfl, hz, hn⟩ := hW0
  rw [hvars] at hV
  cases gs with
  | cons g gs => exact hV.elim
  | nil =>
    have hq : q = [] := hV
    subst hq
    have hsz : fn.resultTypes.size = 1 := by rw [hres]; rfl
    have hargs : ∀ sp : Nat → Bool, (∀ x ∈ p, sp x.block = true) → DataW.TrodAll enc P W' 0 sp true fn.params.toList args.toList ds p := trodAll_below hl hb hpar hA fun x hx => hlt x (by simpa using hx)
    have hr : ∀ (b : Nat) (sp : Nat → Bool) (hd : Bool), DataW.TrodAll enc P W' b sp hd fn.resultTypes.toList ((Value.bool true).resultList fn.resultTypes.size) [.lit (.bool true)] [] := fun b sp hd => by
      rw [hres]; exact trodAll_mk1 (shut_bool htb _)
    refine ⟨ds, [], p ++ [], [], p, [], hW, by rw [hspec]; exact hr _ _ _, by rw [hspec]; exact hargs _ fun x hx => hold x (by simpa using hx), by rw [hspec, hvars]; rfl, World.keptBut_mono (fun x hx => hx) (hb.frame _), fun _ => ?_⟩
    refine ⟨?_, _, _, ([] ++ p) ++ [], ⟨[] ++ p, [], trodAll_append (hargs _ (fun _ _ => rfl)) (hr _ _ _), (show DataW.TrodVars enc P W' (fun _ => true) s.vars [] [] from by rw [hvars]; rfl), rfl, ?_, ?_⟩, ?_⟩
    · exact ok_one hres rfl (okWide_bool_mk htb _)
    · intro b off hp
      have hb' : b < W.heap.size := hlt (.cell b off) (by simpa using hp)
      rw [Below.frozen hb (p := ⟨b, off, none⟩) hb']
      exact hz b off (by simpa using hp)
    · intro ha; simpa using hn ha
    · intro x hx _; simpa using hx

/-- An argument, typed. -/
def TyArg (P : Program) (t : TypeId) (a : AV) : Prop := match P.underlying t with
  | some (.struct _) => ∃ fuel cs, a = .agg cs ∧ Ty P fuel t cs
  | some (.array _ _) => ∃ fuel cs, a = .agg cs ∧ Ty P fuel t cs
  | _ => ∃ fuel, Ty P fuel t [a]

def TyArgs (P : Program) : List TypeId → List AV → Prop
  | [], as => as = []
  | t :: ts, as => ∃ a rest, as = a :: rest ∧ TyArg P t a ∧ TyArgs P ts rest


theorem Ty_al {p : Nat → Bool} : ∀ (fuel : Nat) (t : TypeId) (as : List AV), Ty P fuel t as → alAll p as = true
  | 0, _, _, h => h.elim
  | fuel + 1, t, as, h => by
    have ih := Ty_al (p := p) fuel
    simp only [Ty] at h
    split at h
    · obtain ⟨b, rfl⟩ := h; rfl
    · obtain ⟨n, rfl, _⟩ := h; rfl
    · obtain ⟨s, rfl, _⟩ := h; rfl
    · rename_i e _
      rcases h with rfl | ⟨es, h1, _, rfl⟩
      · rfl
      · simp only [alAll, AV.al, Own.al, Bool.and_true, Bool.true_and]
        rw [alAll_iff]; intro a ha
        obtain ⟨x, hx, hax⟩ := List.mem_flatten.1 ha
        exact (alAll_iff x).1 (ih e x (h1 x hx).1) a hax
    · rename_i fs _
      obtain ⟨ps, h1, h2, rfl⟩ := h
      rw [alAll_iff]; intro a ha
      obtain ⟨x, hx, hax⟩ := List.mem_flatten.1 ha
      obtain ⟨j, hj⟩ := List.mem_iff_getElem?.1 hx
      have hjl : j < fs.size := by have := (List.getElem?_eq_some_iff.1 hj).1; omega
      exact (alAll_iff x).1 (ih _ x (h2 j fs[j] x (Array.getElem?_eq_getElem hjl) hj).1) a hax
    · rename_i n e _
      obtain ⟨ps, h1, h2, rfl⟩ := h
      rw [alAll_iff]; intro a ha
      obtain ⟨x, hx, hax⟩ := List.mem_flatten.1 ha
      exact (alAll_iff x).1 (ih e x (h2 x hx).1) a hax
    · exact h.elim

theorem TyArgs_al {p : Nat → Bool} : ∀ {ts : List TypeId} {as : List AV}, TyArgs P ts as → alAll p as = true
  | [], as, h => by have : as = [] := h; subst this; rfl
  | t :: ts, as, h => by
    obtain ⟨a, rest, rfl, h1, h2⟩ := h
    simp only [alAll, TyArgs_al h2, Bool.and_true]
    unfold TyArg at h1
    split at h1
    · obtain ⟨f, cs, rfl, h3⟩ := h1; simpa [AV.al] using Ty_al f t cs h3
    · obtain ⟨f, cs, rfl, h3⟩ := h1; simpa [AV.al] using Ty_al f t cs h3
    · obtain ⟨f, h3⟩ := h1; simpa [alAll] using Ty_al (p := p) f t _ h3

theorem trodAll_len {base : Nat} {sp : Nat → Bool} {hd : Bool} : ∀ {ts : List TypeId} {vs : List Value} {ds : List (DataW H)} {ps : List MemPlace}, DataW.TrodAll enc P W base sp hd ts vs ds ps → ds.length = ts.length
  | [], [], [], _, _ => rfl
  | t :: ts, v :: vs, d :: ds, ps, h => by obtain ⟨_, _, _, h2, _⟩ := h; simp [trodAll_len h2]
  | [], _ :: _, _, _, h => h.elim
  | [], [], _ :: _, _, h => h.elim
  | _ :: _, [], _, _, h => h.elim
  | _ :: _, _ :: _, [], _, h => h.elim

end
end Fw


/- Typed arguments, opened. -/
namespace Fw
open Go Go.RowKit
section
variable {P : Program}
theorem Ty_string {t : TypeId} (h : P.underlying t = some .string) : ∀ {f : Nat} {as : List AV}, Ty P f t as → ∃ s, as = [.str s] ∧ s.length ≤ maxLen
  | 0, _, h0 => h0.elim
  | f + 1, as, h0 => by simpa only [Ty, h] using h0
theorem Ty_int {t : TypeId} {k : IntKind} (h : P.underlying t = some (.int k)) : ∀ {f : Nat} {as : List AV}, Ty P f t as → ∃ n, as = [.int k n] ∧ (Lit.int k n).wf = true
  | 0, _, h0 => h0.elim
  | f + 1, as, h0 => by simpa only [Ty, h] using h0

theorem Ty_slice {t e : TypeId} (h : P.underlying t = some (.slice e)) : ∀ {f : Nat} {as : List AV}, Ty P f t as → as = [.nilslice] ∨ ∃ f', f' < f ∧ ∃ es : List (List AV), (∀ x ∈ es, Ty P f' e x ∧ x.length = P.cellsOf e) ∧ es.length ≤ maxLen ∧ as = [.slice es.flatten es.length .no]
  | 0, _, h0 => h0.elim
  | f + 1, as, h0 => by
    simp only [Ty, h] at h0
    rcases h0 with h0 | ⟨es, h1, h2, h3⟩
    · exact .inl h0
    · exact .inr ⟨f, Nat.lt_succ_self f, es, h1, h2, h3⟩

theorem TyArg_int {t : TypeId} {k : IntKind} (h : P.underlying t = some (.int k)) {a : AV} (ha : TyArg P t a) : ∃ n, a = .int k n ∧ (Lit.int k n).wf = true := by
  simp only [TyArg, h] at ha
  obtain ⟨f, ha⟩ := ha
  obtain ⟨s, h1, h2⟩ := Ty_int h ha
  exact ⟨s, by simpa using h1, h2⟩
theorem TyArg_slice {t e : TypeId} (h : P.underlying t = some (.slice e)) {a : AV} (ha : TyArg P t a) : a = .nilslice ∨ ∃ f, ∃ es : List (List AV), (∀ x ∈ es, Ty P f e x ∧ x.length = P.cellsOf e) ∧ es.length ≤ maxLen ∧ a = .slice es.flatten es.length .no := by
  simp only [TyArg, h] at ha
  obtain ⟨f, ha⟩ := ha
  rcases Ty_slice h ha with h1 | ⟨f', _, es, h1, h2, h3⟩
  · exact .inl (by simpa using h1)
  · exact .inr ⟨f', es, h1, h2, by simpa using h3⟩
end
end Fw
