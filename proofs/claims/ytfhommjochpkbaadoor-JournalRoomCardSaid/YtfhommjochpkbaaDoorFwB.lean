/- Parts of the proof, one behind the other. -/
import Derived.Test.YtfhommjochpkbaaDoorFwA
import Derived.Laws.CopyRow
import Derived.Laws.Append
import Derived.Lib.AppendStr
import Derived.MapKept
import Derived.Lib.FrozenHead
import Derived.Laws.IdiomStrings
import Derived.Laws.MakeOwn
import Derived.LoopN
set_option linter.unusedSimpArgs false
set_option linter.unusedVariables false
set_option linter.unusedSectionVars false

/- The steps that change memory: a new block, a store, what an append does. -/
namespace Fw
open Go Go.RowKit

section
variable {P : Program} {X : Bs} {σ : Gh} {g g' : Hp} {w w' : World}

theorem Inv.base (h : Inv X σ g w) : X.B0 ≤ w.heap.size := Nat.le_trans X.hB h.below.size

theorem heap_alloc_old (w : World) (o : Obj) {b : Nat} (h : b < w.heap.size) : (w.alloc o).heap[b]? = w.heap[b]? := Below.heap_alloc w o b h
theorem heap_alloc_new (w : World) (o : Obj) : (w.alloc o).heap[w.heap.size]? = some o := by
  show (w.heap.push o)[w.heap.size]? = _
  rw [Array.getElem?_push, if_pos rfl]
theorem size_alloc (w : World) (o : Obj) : (w.alloc o).heap.size = w.heap.size + 1 := by show (w.heap.push o).size = _; simp

def Gh.setφ (σ : Gh) (n b : Nat) : Gh := { σ with φ := fun i => if i = n then b else σ.φ i }

theorem Ext.setφ {p : Nat → Bool} (σ : Gh) {n b : Nat} (hn : p n = false) : Ext p σ (σ.setφ n b) :=
  ⟨fun _ _ _ h => h, fun id hid => by simp only [Gh.setφ]; rw [if_neg (fun e => by subst e; rw [hn] at hid; cases hid)], fun _ _ _ _ h => h⟩

/-- A new object with a block for itself. -/
theorem Step.newObj (hI : Inv X σ g w) {n : Nat} (hn : g n = none) (obj : Obj) (o : AObj) (hg : ∀ j, g' j = if j = n then some o else g j) (hal : o.al (dm g') = true)
    (hkind : ∀ t e z, o ≠ .tok t e z)
    (hok : ObjOk (σ.setφ n w.heap.size) (w.alloc obj) n o) : Step X σ g w (σ.setφ n w.heap.size) g' (w.alloc obj) := by
  have hblk : blk (σ.setφ n w.heap.size) n o = w.heap.size := by
    cases o with
    | tok t e z => exact absurd rfl (hkind t e z)
    | cells => simp [blk, Gh.setφ]
    | map => simp [blk, Gh.setφ]
  have hdn : dm g n = false := by simp [dm, hn]
  refine Step.change n (fun b => w.heap.size ≤ b) hI (hI.below.alloc hI.base obj) (by rw [size_alloc]; omega) (Ext.setφ σ hdn) ?_ ?_ ?_ ?_ ?_ ?_ ?_ ?_ ?_
  · intro j p hp _ hb; have := (hI.obj j p hp).2.1.block; omega
  · intro b hb _; exact heap_alloc_old w obj hb
  · intro b hb hlt; omega
  · intro b q v hv hb; have hc := hI.gh b q v hv; obtain ⟨c, E, fr, h1, _⟩ := cell_block hc; have := block_lt h1; omega
  · intro b q v hv; exact .inl hv
  · intro j hj; rw [hg j, if_neg hj]
  · intro j _; rfl
  · intro h; rw [hdn] at h; cases h
  · intro p hp
    rw [hg n, if_pos rfl] at hp; cases hp
    exact ⟨hal, hok, by rw [hblk]; exact hI.base, .inl (by rw [hblk]; exact Nat.le_refl _)⟩

theorem noG_new (hI : Inv X σ g w) : ∀ q v, ¬ σ.G w.heap.size q v := fun q v hv => by
  have hc := hI.gh _ q v hv; obtain ⟨c, E, fr, h1, _⟩ := cell_block hc; have := block_lt h1; omega

theorem Step.newCells (hI : Inv X σ g w) {n : Nat} (hn : g n = none) {ty : Option TypeId} {cs : List AV} (hg : ∀ j, g' j = if j = n then some (.cells ty cs) else g j) (hal : alAll (dm g) cs = true) {c : Array Value} (E : TypeId) (fr : Nat × Nat)
    (hfr : ∀ j, j < cs.length → ¬ (fr.1 ≤ j ∧ j < fr.2)) (hl : cs.length ≤ c.size) (hR : Rs σ cs (c.toList.take cs.length)) (hty : ∀ t, ty = some t → E = t ∧ c.size = cs.length) : Step X σ g w (σ.setφ n w.heap.size) g' (w.alloc (.cells c E fr)) := by
  have hdn : dm g n = false := by simp [dm, hn]
  have hext : Ext (dm g) σ (σ.setφ n w.heap.size) := Ext.setφ σ hdn
  refine Step.newObj hI hn _ _ hg ?_ (by simp) ?_
  · simp only [AObj.al]
    refine alAll_mono (fun i hi => ?_) _ hal
    simp only [dm, hg]; split <;> simp_all [dm]
  · simp only [ObjOk]
    have e : (σ.setφ n w.heap.size).φ n = w.heap.size := by simp [Gh.setφ]
    rw [e]
    exact ⟨⟨c, E, fr, heap_alloc_new w _, hl, hfr, Rs_mono hext _ _ hal hR, hty⟩, fun q v h => noG_new hI q v h⟩

/-- A new row that never changes: facts on its first cells. -/
def Gh.row (σ : Gh) (b : Nat) (c : Array Value) (lo m : Nat) : Gh := { σ with G := fun b' o v => σ.G b' o v ∨ (b' = b ∧ lo ≤ o ∧ o < m ∧ c[o]? = some v) }

theorem Ext.row {p : Nat → Bool} (σ : Gh) (b : Nat) (c : Array Value) (lo m : Nat) : Ext p σ (σ.row b c lo m) := ⟨fun _ _ _ h => .inl h, fun _ _ => rfl, fun _ _ _ _ h => h⟩

theorem RC_row {p : Nat → Bool} {b : Nat} {c : Array Value} {cs : List AV} {m : Nat} (hal : alAll p cs = true) (hm : cs.length ≤ m) (hR : Rs σ cs (c.toList.take cs.length)) : RC (σ.row b c 0 m) cs b 0 := by
  rw [RC_iff]
  intro j a ha
  obtain ⟨v, hv, hr⟩ := Rs_get _ _ (Rs_mono (Ext.row (p := p) σ b c 0 m) _ _ hal hR) j a ha
  have hj : j < cs.length := (List.getElem?_eq_some_iff.1 ha).1
  rw [List.getElem?_take, if_pos hj] at hv
  exact ⟨v, .inr ⟨rfl, by omega, by omega, by simpa using hv⟩, hr⟩

theorem Step.newRow (hI : Inv X σ g w) (c : Array Value) (E : TypeId) (fr : Nat × Nat) (m : Nat) : Step X σ g w (σ.row w.heap.size c 0 m) g (w.alloc (.cells c E fr)) := by
  -- no object changes: the number is one that no object has
  obtain ⟨n, hn⟩ : ∃ n, g n = none ∨ True := ⟨0, .inr trivial⟩
  refine ⟨⟨hI.below.alloc hI.base _, fun k cs hk => ⟨(hI.gls k cs hk).1, RC_mono (Ext.row σ _ c 0 m) cs k 0 (alAll_false (p := dm g) (hI.gls k cs hk).1) (hI.gls k cs hk).2⟩, ?_, ?_, ?_⟩, Ext.row σ _ c 0 m, fun _ h => h, by rw [size_alloc]; omega,
    fun b hb _ => heap_alloc_old w _ hb, ?_, fun b q v hv => hv.elim .inl fun h => .inr (.inr (by rw [h.1]; exact Nat.le_refl _))⟩
  · intro b q v hv
    rcases hv with hv | ⟨rfl, _, _, hv⟩
    · have hc := hI.gh b q v hv
      obtain ⟨c', E', fr', h1, _⟩ := cell_block hc
      rw [cell_same (heap_alloc_old w _ (block_lt h1))]; exact hc
    · rw [cell_of_block (heap_alloc_new w _)]; exact hv
  · intro id o ho
    obtain ⟨h1, h2, h3⟩ := hI.obj id o ho
    refine ⟨h1, h2.mono (Ext.row σ _ c 0 m) (dm_some ho) h1 (heap_alloc_old w _ h2.block) (fun q v hq => ?_) rfl, ?_⟩
    · rcases hq with hq | ⟨hq, _⟩
      · exact hq
      · have := h2.block; omega
    · rw [blk_mono (Ext.row σ _ c 0 m) (dm_some ho) h2]; exact h3
  · intro i j oi oj hi hj hne
    rw [blk_mono (Ext.row σ _ c 0 m) (dm_some hi) (hI.obj i oi hi).2.1, blk_mono (Ext.row σ _ c 0 m) (dm_some hj) (hI.obj j oj hj).2.1]
    exact hI.inj i j oi oj hi hj hne
  · intro id o ho
    exact .inl ⟨id, o, ho, (blk_mono (Ext.row σ _ c 0 m) (dm_some ho) (hI.obj id o ho).2.1).symm⟩

def Gh.tok (σ : Gh) (t e : Nat) (x : Nat × Nat × Nat × Nat) : Gh := { σ with T := fun t' e' => if t' = t ∧ e' = e then some x else σ.T t' e' }
def Gh.clear (σ : Gh) (t : Nat) : Gh := { σ with T := fun t' e' => if t' = t then none else σ.T t' e' }
theorem Ext.clear {p : Nat → Bool} (σ : Gh) {t : Nat} (hn : p t = false) : Ext p σ (σ.clear t) :=
  ⟨fun _ _ _ h => h, fun _ _ => rfl, fun t' ht e x h => by simp only [Gh.clear]; rw [if_neg (fun e => by subst e; rw [hn] at ht; cases ht)]; exact h⟩

/-- What is said of a token's ends by no object may be forgotten. -/
theorem Step.clear (hI : Inv X σ g w) {t : Nat} (hn : g t = none) : Step X σ g w (σ.clear t) g w := by
  have hdn : dm g t = false := by simp [dm, hn]
  have hx := Ext.clear (p := dm g) σ hdn
  have hne : ∀ id o, g id = some o → id ≠ t := fun id o h e => by subst e; rw [hn] at h; cases h
  refine ⟨⟨hI.below, fun k cs hk => ⟨(hI.gls k cs hk).1, RC_mono hx cs k 0 (alAll_false (hI.gls k cs hk).1) (hI.gls k cs hk).2⟩, hI.gh, fun id o ho => ?_, fun i j oi oj hi hj hij => ?_⟩, hx, fun _ h => h, Nat.le_refl _, fun _ _ _ => rfl, fun id o ho => ?_, fun _ _ _ h => .inl h⟩
  · obtain ⟨h1, h2, h3⟩ := hI.obj id o ho
    refine ⟨h1, h2.mono hx (dm_some ho) h1 rfl (fun _ _ h => h) ?_, ?_⟩
    · funext e; simp only [Gh.clear]; rw [if_neg (hne id o ho)]
    · rw [blk_mono hx (dm_some ho) h2]; exact h3
  · rw [blk_mono hx (dm_some hi) (hI.obj i oi hi).2.1, blk_mono hx (dm_some hj) (hI.obj j oj hj).2.1]; exact hI.inj i j oi oj hi hj hij
  · exact .inl ⟨id, o, ho, (blk_mono hx (dm_some ho) (hI.obj id o ho).2.1).symm⟩

/-- A new row with room behind it, which a token owns: a new one, or one whose row has been given up. -/
theorem Step.newTok (hI : Inv X σ g w) {t e slack esz : Nat} (c : Array Value) (E : TypeId) (hg : ∀ j, g' j = if j = t then some (.tok E e esz) else g j) (hold : g t = none ∨ ∃ t0 e0 z0, g t = some (.tok t0 e0 z0)) (m : Nat)
    (hT : ∀ e', e ≤ e' → σ.T t e' = none) (hsz : m + slack * esz ≤ c.size) (hme : m = e * esz) :
    Step X σ g w ((σ.row w.heap.size c 0 m).tok t e (w.heap.size, m, slack, esz)) g' (w.alloc (.cells c E)) := by
  have hext : Ext (dm g) σ ((σ.row w.heap.size c 0 m).tok t e (w.heap.size, m, slack, esz)) := by
    refine ⟨fun _ _ _ h => .inl h, fun _ _ => rfl, fun t' ht' e' x hx => ?_⟩
    simp only [Gh.tok, Gh.row]
    split
    · rename_i hq; obtain ⟨rfl, rfl⟩ := hq; rw [hT e' (Nat.le_refl _)] at hx; cases hx
    · exact hx
  have hTt : ((σ.row w.heap.size c 0 m).tok t e (w.heap.size, m, slack, esz)).T t e = some (w.heap.size, m, slack, esz) := by simp [Gh.tok]
  refine Step.change t (fun b => w.heap.size ≤ b) hI (hI.below.alloc hI.base _) (by rw [size_alloc]; omega) hext ?_ ?_ ?_ ?_ ?_ ?_ ?_ ?_ ?_
  · intro j p hp _ hb; have := (hI.obj j p hp).2.1.block; omega
  · intro b hb _; exact heap_alloc_old w _ hb
  · intro b hb hlt; omega
  · intro b q v hv hb; have hc := hI.gh b q v hv; obtain ⟨c', E', fr', h1, _⟩ := cell_block hc; have := block_lt h1; omega
  · intro b q v hv
    rcases hv with hv | ⟨rfl, _, _, hv⟩
    · exact .inl hv
    · exact .inr ⟨Nat.le_refl _, by rw [cell_of_block (heap_alloc_new w _)]; exact hv⟩
  · intro j hj; rw [hg j, if_neg hj]
  · intro j hj; funext e'; simp [Gh.tok, Gh.row, hj]
  · intro _; simp [dm, hg]
  · intro p hp
    rw [hg t, if_pos rfl] at hp; cases hp
    refine ⟨rfl, ⟨w.heap.size, m, slack, hTt, ⟨c, (0, 0), heap_alloc_new w _, hsz, Nat.zero_le _, hme, fun j v _ h => absurd h (Nat.not_lt_zero j)⟩, fun q v hq hv => ?_, fun e' he' => ?_⟩, ?_, .inl ?_⟩
    · rcases hv with hv | ⟨_, _, h, _⟩
      · exact noG_new hI q v hv
      · omega
    · simp only [Gh.tok, Gh.row]; rw [if_neg (by omega)]; exact hT e' (by omega)
    · simp only [blk, hTt]; exact hI.base
    · simp only [blk, hTt]; exact Nat.le_refl _

/-- Cells of a block are written. -/
theorem Below.setRow {B : Nat} {w0 : World} (h : Below B w0 w) {b : Nat} (hb : B ≤ b) (c : Array Value) : Below B w0 (w.setRow b c) :=
  h.trans ⟨rfl, rfl, rfl, by simp, fun k hk => setRow_other w b k c (by omega)⟩

theorem Step.setCells (hI : Inv X σ g w) {n : Nat} {ty : Option TypeId} {cs ds : List AV} (hn : g n = some (.cells ty cs)) (hg : ∀ j, g' j = if j = n then some (.cells ty ds) else g j) (hal : alAll (dm g) ds = true)
    {c c' : Array Value} {E : TypeId} {fr : Nat × Nat} (hc : w.heap[σ.φ n]? = some (.cells c E fr)) (hl : ds.length ≤ c'.size) (hfr : ∀ j, j < ds.length → ¬ (fr.1 ≤ j ∧ j < fr.2)) (hR : Rs σ ds (c'.toList.take ds.length)) (hty : ∀ t, ty = some t → E = t ∧ c'.size = ds.length) :
    Step X σ g w σ g' (w.setRow (σ.φ n) c') := by
  obtain ⟨_, hok, hbase⟩ := hI.obj n _ hn
  have hnoG : ∀ q v, ¬ σ.G (σ.φ n) q v := hok.2
  have hdd : ∀ i, dm g i = true → dm g' i = true := fun i hi => by simp only [dm, hg]; split <;> simp_all [dm]
  refine Step.change n (fun b => b = σ.φ n) hI (Below.setRow hI.below hbase _) (by simp) (Ext.refl _ _) ?_ ?_ ?_ ?_ ?_ ?_ ?_ ?_ ?_
  · intro j p hp hj hb; exact hI.inj j n p _ hp hn hj hb
  · intro b _ hb; exact setRow_other w _ b c' hb
  · intro b hb _; subst hb; exact ⟨_, hn, rfl⟩
  · intro b q v hv hb; subst hb; exact absurd hv (hnoG q v)
  · intro b q v hv; exact .inl hv
  · intro j hj; rw [hg j, if_neg hj]
  · intro j _; rfl
  · exact hdd n
  · intro p hp
    rw [hg n, if_pos rfl] at hp; cases hp
    exact ⟨alAll_mono hdd _ hal, ⟨⟨c', E, fr, setRow_heap w _ c c' E fr hc, hl, hfr, hR, hty⟩, hnoG⟩, hbase, .inl rfl⟩

/-- Cells behind a row's end are written: the token's row grows in its place. -/
theorem Step.growTok (hI : Inv X σ g w) {t e e' b eo slack slack' esz : Nat} {E : TypeId} (hn : g t = some (.tok E e esz)) (hg : ∀ j, g' j = if j = t then some (.tok E e' esz) else g j) (hT : σ.T t e = some (b, eo, slack, esz)) (he : e < e')
    {c c' : Array Value} {fr : Nat × Nat} (hc : w.heap[b]? = some (.cells c E fr)) (m : Nat) (hsame : ∀ j, j < eo → c'[j]? = c[j]?) (hm : m + slack' * esz ≤ c'.size) (hle : eo ≤ m) (hme : m = e' * esz) :
    Step X σ g w ((σ.row b c' eo m).tok t e' (b, m, slack', esz)) g' (w.setRow b c') := by
  obtain ⟨_, hok, hbase⟩ := hI.obj t _ hn
  obtain ⟨b', eo', slack0, h1, ⟨c0, fr0, h2, h3, h4⟩, h5, h6⟩ := hok
  have hT' := h6 e' he
  rw [hT] at h1; cases h1
  rw [hc] at h2; cases h2
  have hblk : blk σ t (.tok E e esz) = b := by simp only [blk, hT]
  rw [hblk] at hbase
  have hext : Ext (dm g) σ ((σ.row b c' eo m).tok t e' (b, m, slack', esz)) := by
    refine ⟨fun _ _ _ h => .inl h, fun _ _ => rfl, fun t' ht' e'' x hx => ?_⟩
    simp only [Gh.tok, Gh.row]
    split
    · rename_i hq; obtain ⟨rfl, rfl⟩ := hq; rw [hT'] at hx; cases hx
    · exact hx
  have hTt : ((σ.row b c' eo m).tok t e' (b, m, slack', esz)).T t e' = some (b, m, slack', esz) := by simp [Gh.tok]
  refine Step.change t (fun b' => b' = b) hI (Below.setRow hI.below hbase _) (by simp) hext ?_ ?_ ?_ ?_ ?_ ?_ ?_ ?_ ?_
  · intro j p hp hj hb; exact hI.inj j t p _ hp hn hj (by rw [hblk]; exact hb)
  · intro b' _ hb; exact setRow_other w _ b' c' hb
  · intro b' hb _; subst hb; exact ⟨_, hn, hblk⟩
  · intro b' q v hv hb
    subst hb
    have hq : q < eo := by
      rcases Nat.lt_or_ge q eo with h | h
      · exact h
      · exact absurd hv (h5 q v h)
    have hcell := hI.gh _ q v hv
    rw [cell_of_block hc] at hcell
    rw [cell_of_block (setRow_heap w _ c c' E fr hc), hsame q hq]; exact hcell
  · intro b' q v hv
    rcases hv with hv | ⟨rfl, _, _, hv⟩
    · exact .inl hv
    · exact .inr ⟨rfl, by rw [cell_of_block (setRow_heap w _ c c' E fr hc)]; exact hv⟩
  · intro j hj; rw [hg j, if_neg hj]
  · intro j hj; funext e''; simp [Gh.tok, Gh.row, hj]
  · intro _; simp [dm, hg]
  · intro p hp
    rw [hg t, if_pos rfl] at hp; cases hp
    refine ⟨rfl, ⟨b, m, slack', hTt, ⟨c', fr, setRow_heap w _ c c' E fr hc, hm, Nat.le_trans h4.1 hle, hme, fun j v h7 h8 h9 => h4.2.2 j v h7 h8 (by rw [← hsame j (Nat.lt_of_lt_of_le h8 h4.1)]; exact h9)⟩, fun q v hq hv => ?_, fun e'' he'' => ?_⟩, ?_, .inl ?_⟩
    · rcases hv with hv | ⟨_, _, h, _⟩
      · exact h5 q v (by omega) hv
      · omega
    · simp only [Gh.tok, Gh.row]; rw [if_neg (by omega)]; exact h6 e'' (by omega)
    · simp only [blk, hTt]; exact hbase
    · simp only [blk, hTt]

end
end Fw


/- The operations that read or change memory, one by one. -/
namespace Fw
open Go Go.RowKit

section
variable {P : Program} {X : Bs} {cx : Cx} {callee : Callee} {σ : Gh} {ρ : Env} {a : Act} {w w' : World} {s s' : St} {v : AV}

theorem next_none (hw : Whole s) : s.get s.next = none := by
  have := hw.full s.next
  simp [below] at this
  exact this

theorem get_set' (hw : Whole s) {id : Nat} {o o' : AObj} (h : s.get id = some o) (j : Nat) : (s.set id o').get j = if j = id then some o' else s.get j := by
  rw [get_set]; simp [h]

/-- What an operation leaves. -/
def LeftG (X : Bs) (σ : Gh) (g : Hp) (w : World) (v : AV) (g' : Hp) (r : Result Next) : Prop :=
  ∃ u w' σ', Step X σ g w σ' g' w' ∧ R σ' v u ∧ (r = .ok (.value u) w' ∨ (u = undef ∧ r = .ok .skip w'))

abbrev Left (X : Bs) (σ : Gh) (s : St) (w : World) (v : AV) (s' : St) (r : Result Next) : Prop := LeftG X σ s.get w v s'.get r

theorem LeftG.same {g : Hp} (hI : Inv X σ g w) {u : Value} {r : Result Next} (hr : r = .ok (.value u) w) (hR : R σ v u) : LeftG X σ g w v g r := ⟨u, w, σ, Step.refl hI, hR, .inl hr⟩
theorem Left.same (hI : Inv X σ s.get w) {u : Value} {r : Result Next} (hr : r = .ok (.value u) w) (hR : R σ v u) : Left X σ s w v s r := ⟨u, w, σ, Step.refl hI, hR, .inl hr⟩

theorem addr_add (b o n : Nat) : Addr.add ⟨b, o, none⟩ n = ⟨b, o + n, none⟩ := Addr.add_lit b o n

/-- The model's values in a run of cells that never change. -/
theorem cells_RC (hG : ∀ b o v, σ.G b o v → w.cell? ⟨b, o, none⟩ = some v) : ∀ (cs : List AV) (b o : Nat), RC σ cs b o → ∃ vs, Rs σ cs vs ∧ ∀ (j : Nat) (v : Value), vs[j]? = some v → w.cell? ⟨b, o + j, none⟩ = some v
  | [], b, o, _ => ⟨[], by simp [Rs], by simp⟩
  | c :: cs, b, o, h => by
    simp only [RC] at h
    obtain ⟨⟨v, h1, h2⟩, h3⟩ := h
    obtain ⟨vs, h4, h5⟩ := cells_RC hG cs b (o + 1) h3
    refine ⟨v :: vs, by simp only [Rs]; exact ⟨v, vs, rfl, h2, h4⟩, fun j u hu => ?_⟩
    cases j with
    | zero => simp at hu; subst hu; simpa using hG b o v h1
    | succ j =>
      simp at hu
      have := h5 j u hu
      rwa [show o + 1 + j = o + (j + 1) by omega] at this

/-- The model's values in a stretch of an object. -/
theorem cells_obj {g : Hp} (hI : Inv X σ g w) {id off n : Nat} {ty : Option TypeId} {cs ds : List AV} (hg : g id = some (.cells ty cs)) (hs : sub cs off n = some ds) : ∃ vs, Rs σ ds vs ∧ ds.length = n ∧ ∀ (j : Nat) (v : Value), vs[j]? = some v → w.cell? ⟨σ.φ id, off + j, none⟩ = some v := by
  obtain ⟨_, ⟨⟨c, E, fr, h1, h2, h3, h4, _⟩, _⟩, _⟩ := hI.obj id _ hg
  simp only [sub] at hs
  split at hs <;> cases hs
  rename_i hq
  refine ⟨((c.toList.take cs.length).drop off).take n, Rs_take (Rs_drop h4 off) n, by simp; omega, fun j u hu => ?_⟩
  rw [cell_of_block h1]
  rw [List.getElem?_take] at hu
  split at hu
  · rw [List.getElem?_drop, List.getElem?_take] at hu
    split at hu
    · simpa using hu
    · cases hu
  · cases hu

theorem run_loadVar {g : Bool} {n : Nat} {t : TypeId} {ds : List AV} {vs : List Value} {b o : Nat} (hg : tagg P t = some g) (hn : tsz P t = some n) (hR : Rs σ ds vs) (hl : ds.length = n) (hc : ∀ (j : Nat) (v : Value), vs[j]? = some v → w.cell? ⟨b, o + j, none⟩ = some v)
    (hv : ofCells g ds = some v) : ∃ u, (loadVar t ⟨b, o, none⟩).run P w = .ok u w ∧ R σ v u := by
  have hlen := Rs_length _ _ hR
  cases g with
  | true =>
    simp only [ofCells, if_true, Option.some.injEq] at hv; subst hv
    have := run_loadCells_list (P := P) w ⟨b, o, none⟩ vs (fun j u hu => by rw [addr_add]; exact hc j u hu)
    refine ⟨.agg vs.toArray, ?_, ?_⟩
    · rw [show vs.length = n by omega] at this
      simp [loadVar, run_tagg hg, run_tsz hn, this]
    · simp only [R]; exact ⟨_, rfl, by simpa using hR⟩
  | false =>
    simp only [ofCells, Bool.false_eq_true, if_false] at hv
    split at hv <;> cases hv
    simp only [Rs] at hR
    obtain ⟨u, rest, rfl, h1, rfl⟩ := hR
    have hcu := hc 0 u rfl
    simp only [Nat.add_zero] at hcu
    exact ⟨u, by simp [loadVar, run_tagg hg, hcu], h1⟩

theorem load_R {h : Hp} (hI : Inv X σ h w) {g : Bool} {n : Nat} {t : TypeId} {x : AV} {u : Value} (hh : ∀ id off, x = .ptr id off → h id = s.get id) (hg : tagg P t = some g) (hn : tsz P t = some n) (hx : R σ x u) (he : loadA s g n x = some v) :
    ∃ b o, u = .pointer (some ⟨b, o, none⟩) ∧ ∃ u', (loadVar t ⟨b, o, none⟩).run P w = .ok u' w ∧ R σ v u' := by
  unfold loadA at he
  split at he
  · rename_i id off
    split at he
    · rename_i cs hcs
      simp only [Option.bind_eq_some_iff] at he; obtain ⟨ds, h1, h2⟩ := he
      simp only [R] at hx; subst hx
      obtain ⟨vs, h3, h4, h5⟩ := cells_obj hI ((hh _ _ rfl).trans hcs) h1
      exact ⟨_, _, rfl, run_loadVar hg hn h3 h4 h5 h2⟩
    · cases he
  · rename_i cs off
    simp only [Option.bind_eq_some_iff] at he; obtain ⟨ds, h1, h2⟩ := he
    simp only [R] at hx; obtain ⟨b, o, rfl, h3⟩ := hx
    simp only [sub] at h1
    split at h1 <;> cases h1
    rename_i hq
    obtain ⟨vs, h4, h5⟩ := cells_RC hI.gh _ _ _ (RC_sub h3 off n)
    exact ⟨_, _, rfl, run_loadVar hg hn h4 (by simp; omega) h5 h2⟩
  · cases he

theorem run_storeCells_free (P : Program) (g o : Nat) (t : TypeId) (fz : Nat × Nat) : ∀ (vs : List Value) (i : Nat) (cur : Array Value) (w : World), w.heap[g]? = some (.cells cur t fz) → (∀ j, o + i ≤ j → j < o + i + vs.length → ¬ (fz.1 ≤ j ∧ j < fz.2)) → o + i + vs.length ≤ cur.size → (∀ v ∈ vs, v.oneCell' = true) →
    (storeCells ⟨g, o, none⟩ vs i).run P w = .ok () (w.setRow g (cur.toList.take (o + i) ++ vs ++ cur.toList.drop (o + i + vs.length)).toArray)
  | [], i, cur, w, hg, _, _, _ => by
    simp only [storeCells, List.append_nil, List.length_nil, Nat.add_zero, List.take_append_drop, Array.toArray_toList]
    rw [setRow_self w g cur t fz hg]
    rfl
  | v :: rest, i, cur, w, hg, hfz, hl, h1 => by
    have hi : o + i < cur.size := by simp at hl; omega
    have hadd : (⟨g, o, none⟩ : Addr).add i = ⟨g, o + i, none⟩ := Addr.add_lit g o i
    have hcell : w.cell? ⟨g, o + i, none⟩ = some cur[o + i] := by simp [World.cell?, hg, hi]
    have hfro : w.frozen? ⟨g, o + i, none⟩ = false := by
      have := hfz (o + i) (Nat.le_refl _) (by simp)
      obtain ⟨lo, hi'⟩ := fz
      simp only [World.frozen?, hg, Bool.and_eq_false_iff, decide_eq_false_iff_not]
      simp only at this
      omega
    have hst : (store ((⟨g, o, none⟩ : Addr).add i) v).run P w = .ok () (w.setRow g (cur.setIfInBounds (o + i) v)) := by
      rw [hadd, run_store P w _ v _ (h1 v (by simp)), hcell]
      simp [hfro, setCell_eq_setRow w g (o + i) cur t fz v hg]
    have ih := run_storeCells_free P g o t fz rest (i + 1) (cur.setIfInBounds (o + i) v) (w.setRow g (cur.setIfInBounds (o + i) v)) (setRow_heap w g cur _ t _ hg) (fun j h2 h3 => hfz j (by omega) (by simp at h3 ⊢; omega)) (by simp at hl ⊢; omega) (fun x hx => h1 x (by simp [hx]))
    simp only [storeCells, Sem.run_bind, hst, Result.andThen_ok, ih, setRow_setRow]
    congr 3
    have e := list_seg_step cur.toList (o + i) v rest (by simp at hl ⊢; omega)
    simpa [Array.toList_setIfInBounds, Nat.add_assoc] using e

theorem Rs_one {as : List AV} {vs : List Value} (h : Rs σ as vs) (h1 : as.all AV.one = true) : ∀ u ∈ vs, u.oneCell' = true := by
  intro u hu
  obtain ⟨j, hj⟩ := List.mem_iff_getElem?.1 hu
  have hlt : j < as.length := by have := (List.getElem?_eq_some_iff.1 hj).1; rw [Rs_length _ _ h] at this; exact this
  obtain ⟨u', h2, h3⟩ := Rs_get _ _ h j as[j] (by simp [hlt])
  rw [hj] at h2; cases h2
  rw [R_one h3]
  exact List.all_eq_true.1 h1 _ (by simp)

/-- Cells of an object are written. -/
theorem store_stepG {g g' : Hp} (hI : Inv X σ g w) {id off : Nat} {ty : Option TypeId} {cs xs ds : List AV} {us : List Value} (hg : g id = some (.cells ty cs)) (hg' : ∀ j, g' j = if j = id then some (.cells ty ds) else g j) (hx : Rs σ xs us) (hal : alAll (dm g) xs = true) (hone : xs.all AV.one = true) (hp : patch cs off xs = some ds) :
    ∃ w', (storeCells ⟨σ.φ id, off, none⟩ us).run P w = .ok () w' ∧ Step X σ g w σ g' w' := by
  obtain ⟨hcal, ⟨⟨c, E, fr, h1, h2, h3, h4, hty⟩, _⟩, _⟩ := hI.obj id _ hg
  have hlen := Rs_length _ _ hx
  have hpr := patch_R h4 hx hp
  have hbnd : off + xs.length ≤ cs.length ∧ ds.length = cs.length ∧ ds = cs.take off ++ xs ++ cs.drop (off + xs.length) := by
    simp only [patch] at hp
    split at hp <;> cases hp
    refine ⟨by assumption, by simp; omega, rfl⟩
  have hst := run_storeCells_free P (σ.φ id) off E fr us 0 c w h1 (fun j _ h6 => h3 j (by omega)) (by omega) (Rs_one hx hone)
  simp only [Nat.add_zero] at hst
  refine ⟨_, hst, Step.setCells hI hg hg' ?_ h1 ?_ ?_ ?_ ?_⟩
  · rw [hbnd.2.2, alAll_append, alAll_append]
    simp only [AObj.al] at hcal
    simp [alAll_take hcal, alAll_drop hcal, hal]
  · rw [hbnd.2.1]; simp; omega
  · intro j hj; exact h3 j (by omega)
  · have e : (c.toList.take off ++ us ++ c.toList.drop (off + us.length)).take ds.length = (c.toList.take cs.length).take off ++ us ++ (c.toList.take cs.length).drop (off + us.length) := by
      have hc : c.toList.length = c.size := by simp
      rw [hbnd.2.1, List.take_append, List.take_append, List.take_take, List.take_take, List.drop_take]
      rw [show min off cs.length = off by omega, show min cs.length off = off by omega]
      rw [List.take_of_length_le (l := us) (by simp; omega)]
      congr 2
      simp; omega
    show Rs σ ds ((c.toList.take off ++ us ++ c.toList.drop (off + us.length)).toArray.toList.take ds.length)
    rw [List.toList_toArray, e]; exact hpr
  · intro t ht
    obtain ⟨e1, e2⟩ := hty t ht
    refine ⟨e1, ?_⟩
    rw [hbnd.2.1]; simp; omega

theorem store_step (hw : Whole s) (hI : Inv X σ s.get w) {id off : Nat} {ty : Option TypeId} {cs xs ds : List AV} {us : List Value} (hg : s.get id = some (.cells ty cs)) (hx : Rs σ xs us) (hal : alAll (below s.next) xs = true) (hone : xs.all AV.one = true) (hp : patch cs off xs = some ds) :
    ∃ w', (storeCells ⟨σ.φ id, off, none⟩ us).run P w = .ok () w' ∧ Step X σ s.get w σ (s.set id (.cells ty ds)).get w' :=
  store_stepG hI hg (fun j => get_set' hw hg j) hx (by rw [dm_get hw]; exact hal) hone hp
end
end Fw


/- The operations that read or change memory, continued: new blocks, maps. -/
namespace Fw
open Go Go.RowKit

section
variable {P : Program} {X : Bs} {cx : Cx} {callee : Callee} {σ : Gh} {ρ : Env} {a : Act} {w w' : World} {s s' : St} {v : AV}

theorem run_nv {x : Sem Value} {u : Value} (h : x.run P w = .ok u w') : (do pure (Next.value (← x)) : Sem Next).run P w = .ok (.value u) w' := by simp [h]
theorem run_nu {x : Sem Unit} (h : x.run P w = .ok () w') : (do x; pure Next.skip : Sem Next).run P w = .ok .skip w' := by simp [h]

theorem new_get (s : St) (o : AObj) : ∀ j, (s.new o).get j = if j = s.next then some o else s.get j := fun j => get_new s o j

theorem Rs_take_all {as : List AV} {vs : List Value} (h : Rs σ as vs) : Rs σ as (vs.take as.length) := by
  rw [List.take_of_length_le (by rw [Rs_length _ _ h]; exact Nat.le_refl _)]; exact h

/-- A variable of its own. -/
theorem new_stepG {g g' : Hp} {n : Nat} (hI : Inv X σ g w) (hn : g n = none) {ty : Option TypeId} {cs : List AV} (hg' : ∀ j, g' j = if j = n then some (.cells ty cs) else g j) {c : Array Value} (E : TypeId) (hal : alAll (dm g) cs = true) (hR : Rs σ cs c.toList) (hty : ∀ t, ty = some t → E = t) :
    Step X σ g w (σ.setφ n w.heap.size) g' (w.alloc (.cells c E)) := by
  have hl := Rs_length _ _ hR
  simp only [Array.length_toList] at hl
  exact Step.newCells hI hn hg' hal E (0, 0) (fun j _ h => by simp at h) (by omega) (Rs_take_all hR) (fun t ht => ⟨hty t ht, hl⟩)

theorem R_newptr (σ : Gh) (n b : Nat) : R (σ.setφ n b) (.ptr n 0) (.pointer (some ⟨b, 0, none⟩)) := by simp [R, Gh.setφ]

theorem alloc_leftG {g g' : Hp} {n : Nat} (hI : Inv X σ g w) (hn : g n = none) {t : TypeId} {z : AV} (hg' : ∀ j, g' j = if j = n then some (.cells (some t) z.cells) else g j) (hz : tzero P t = some z) (hs : alAll (fun _ => false) z.cells = true) :
    LeftG X σ g w (.ptr n 0) g' ((do pure (Next.value (← Instr.alloc t true (.tuple #[]))) : Sem Next).run P w) := by
  obtain ⟨u, i, h1, h2, h3, h4, h5⟩ := run_tzero (w := w) hz
  refine ⟨.pointer (some ⟨w.heap.size, 0, none⟩), w.alloc (.cells u.cells t), _, new_stepG hI hn hg' t (alAll_false hs) (R_cells (ofConst_R h3 σ)) (fun _ e => Option.some.inj e), R_newptr σ _ _, .inl ?_⟩
  apply run_nv
  simp [Instr.alloc, h2, newVar, newRow]

theorem box_leftG {g g' : Hp} {n : Nat} (hI : Inv X σ g w) (hn : g n = none) {t : TypeId} {x : AV} {u : Value} (hg' : ∀ j, g' j = if j = n then some (.cells (some t) x.cells) else g j) (hx : R σ x u) (hal : x.al (dm g) = true) :
    LeftG X σ g w (.ptr n 0) g' ((do pure (Next.value (← Instr.box t u)) : Sem Next).run P w) := by
  refine ⟨.pointer (some ⟨w.heap.size, 0, none⟩), w.alloc (.cells u.cells t), _, new_stepG hI hn hg' t (al_cells hal) (R_cells hx) (fun _ e => Option.some.inj e), R_newptr σ _ _, .inl ?_⟩
  apply run_nv
  simp [Instr.box, newVar, newRow]

theorem load_leftG {h : Hp} (hI : Inv X σ h w) {g : Bool} {n : Nat} {t : TypeId} {x : AV} {u : Value} (hh : ∀ id off, x = .ptr id off → h id = s.get id) (hg : tagg P t = some g) (hn : tsz P t = some n) (hx : R σ x u) (he : loadA s g n x = some v) :
    LeftG X σ h w v h ((do pure (Next.value (← Instr.loadAt t u)) : Sem Next).run P w) := by
  obtain ⟨b, o, rfl, u', h1, h2⟩ := load_R hI hh hg hn hx he
  refine LeftG.same hI (run_nv ?_) h2
  simp [Instr.loadAt, Instr.sureAddr, h1]

theorem store_leftG {g g' : Hp} (hw : Whole s) (hI : Inv X σ g w) {n : Nat} {t : TypeId} {y x : AV} {uy ux : Value} (hh : ∀ id off, y = .ptr id off → g id = s.get id ∧ ∀ j, g' j = if j = id then s'.get id else g j) (hn : tsz P t = some n) (hy : R σ y uy) (hx : R σ x ux) (hal : x.al (dm g) = true) (he : storeA s n y x = some s') :
    LeftG X σ g w AV.undef g' ((do Instr.storeAt t uy ux; pure Next.skip : Sem Next).run P w) := by
  unfold storeA at he
  split at he
  · rename_i id off
    split at he
    · rename_i ty cs hcs
      split at he
      · rename_i hq
        simp only [Option.map_eq_some_iff] at he; obtain ⟨ds, h1, rfl⟩ := he
        simp only [R] at hy; subst hy
        obtain ⟨hg1, hg2⟩ := hh _ _ rfl
        obtain ⟨w', h2, h3⟩ := store_stepG (P := P) (g' := g') hI (hg1.trans hcs) (fun j => by rw [hg2 j, get_set' hw hcs, if_pos rfl]) (R_cells hx) (al_cells hal) hq.2 h1
        refine ⟨undef, w', σ, h3, R_undef σ, .inr ⟨rfl, ?_⟩⟩
        have hl := Rs_length _ _ (R_cells hx)
        simp only [Array.length_toList] at hl
        have hsz : ux.cells.size = n := by omega
        simp [Instr.storeAt, Instr.sureAddr, storeVar, run_tsz hn, hsz, h2]
      · cases he
    · cases he
  · cases he

theorem alloc_left (hw : Whole s) (hI : Inv X σ s.get w) {t : TypeId} {z : AV} (hz : tzero P t = some z) (hs : alAll (fun _ => false) z.cells = true) :
    Left X σ s w (.ptr s.next 0) (s.new (.cells (some t) z.cells)) ((do pure (Next.value (← Instr.alloc t true (.tuple #[]))) : Sem Next).run P w) := alloc_leftG hI (next_none hw) (new_get s _) hz hs
theorem box_left (hw : Whole s) (hI : Inv X σ s.get w) {t : TypeId} {x : AV} {u : Value} (hx : R σ x u) (hal : x.al (below s.next) = true) :
    Left X σ s w (.ptr s.next 0) (s.new (.cells (some t) x.cells)) ((do pure (Next.value (← Instr.box t u)) : Sem Next).run P w) := box_leftG hI (next_none hw) (new_get s _) hx (by rw [dm_get hw]; exact hal)
theorem load_left (hI : Inv X σ s.get w) {g : Bool} {n : Nat} {t : TypeId} {x : AV} {u : Value} (hg : tagg P t = some g) (hn : tsz P t = some n) (hx : R σ x u) (he : loadA s g n x = some v) :
    Left X σ s w v s ((do pure (Next.value (← Instr.loadAt t u)) : Sem Next).run P w) := load_leftG hI (fun _ _ _ => rfl) hg hn hx he
theorem store_left (hw : Whole s) (hI : Inv X σ s.get w) {n : Nat} {t : TypeId} {y x : AV} {uy ux : Value} (hn : tsz P t = some n) (hy : R σ y uy) (hx : R σ x ux) (hal : x.al (below s.next) = true) (he : storeA s n y x = some s') :
    Left X σ s w AV.undef s' ((do Instr.storeAt t uy ux; pure Next.skip : Sem Next).run P w) :=
  store_leftG hw hI (fun id off e => ⟨rfl, fun j => by
    subst e
    simp only [storeA] at he
    split at he
    · rename_i cs hcs
      split at he
      · simp only [Option.map_eq_some_iff] at he; obtain ⟨ds, h1, rfl⟩ := he
        rw [get_set' hw hcs, get_set' hw hcs, if_pos rfl]
      · cases he
    · cases he⟩) hn hy hx (by rw [dm_get hw]; exact hal) he

/- maps -/
theorem keyOk_und {kt : TypeId} {kk : CK} (hk : keyOk P kt = some kk) : ∃ d, P.underlying kt = some d ∧ (∀ (w : World) (e : Bool) (u : Value), (Instr.checkKey e 10000 kt u).run P w = .ok () w) ∧
    (∀ {k j : AV} {u uj : Value} {b : Bool}, cellEqK kk k j = some b → R σ k u → R σ j uj → Instr.sameNow d u uj = some b ∧ (b = true → Instr.sameBits 10000 uj u = true)) := by
  have hb : ∀ x y : List UInt8, ((⟨x.toArray⟩ : ByteArray) == ⟨y.toArray⟩) = (x == y) := by
    intro x y
    show (x.toArray == y.toArray) = _
    simp
  have key : ∀ {k j : AV} {u uj : Value} {b : Bool} {d : TypeDesc}, (match kk with | .int => ∃ q, d = .int q | .str => d = .string | .bool => d = .bool) → cellEqK kk k j = some b → R σ k u → R σ j uj → Instr.sameNow d u uj = some b ∧ (b = true → Instr.sameBits 10000 uj u = true) := by
    intro k j u uj b d hd he h1 h2
    unfold cellEqK at he
    split at he
    · rename_i k1 a k2 c
      by_cases hkk : k1 = k2
      case neg => rw [if_neg hkk] at he; cases he
      rw [if_pos hkk] at he; cases he
      simp only [R] at h1 h2; subst h1 h2; subst hkk
      obtain ⟨q, rfl⟩ := hd
      refine ⟨by simp [Instr.sameNow], fun h => ?_⟩
      simp at h; subst h; simp [Instr.sameBits]
    · cases he
      simp only [R] at h1 h2; subst h1 h2; subst hd
      refine ⟨by simp [Instr.sameNow, hb], fun h => ?_⟩
      simp at h; subst h; simp [Instr.sameBits, hb]
    · cases he
      simp only [R] at h1 h2; subst h1 h2; subst hd
      refine ⟨by simp [Instr.sameNow], fun h => ?_⟩
      simp at h; subst h; simp [Instr.sameBits]
    · cases he
  unfold keyOk at hk
  split at hk <;> cases hk <;> rename_i hu <;> refine ⟨_, hu, ?_, ?_⟩
  · intro w e u; rw [Instr.checkKey]; simp [run_und hu]
  · intro k j u uj b he h1 h2; exact key ⟨_, rfl⟩ he h1 h2
  · intro w e u; rw [Instr.checkKey]; simp [run_und hu]
  · intro k j u uj b he h1 h2; exact key rfl he h1 h2
  · intro w e u; rw [Instr.checkKey]; simp [run_und hu]
  · intro k j u uj b he h1 h2; exact key rfl he h1 h2

theorem mapFind_R {d : TypeDesc} {kk : CK} {k : AV} {u : Value} (hd : ∀ {k j : AV} {u uj : Value} {b : Bool}, cellEqK kk k j = some b → R σ k u → R σ j uj → Instr.sameNow d u uj = some b ∧ (b = true → Instr.sameBits 10000 uj u = true)) (hk : R σ k u) :
    ∀ (es : List (AV × AV)) {ms : List MapEntry} {r : Option AV} (i : Nat), mapFind kk k es = some r → Rs σ (es.map (·.1)) (ms.map (·.key)) → Rs σ (es.map (·.2)) (ms.map (·.val)) →
      ∃ q, Instr.findNow d u ms i = some q ∧ (r = none → q = none) ∧ ∀ x, r = some x → ∃ j uv, q = some (j, uv) ∧ R σ x uv
  | [], ms, r, i, he, h1, _ => by
    have : ms = [] := by simpa [Rs] using h1
    subst this
    simp only [mapFind, Option.some.injEq] at he; subst he
    exact ⟨none, rfl, fun _ => rfl, fun x hx => by cases hx⟩
  | (j, v) :: es, ms, r, i, he, h1, h2 => by
    cases ms with
    | nil => simp [Rs] at h1
    | cons m ms =>
      simp only [List.map_cons, Rs, List.cons.injEq] at h1 h2
      obtain ⟨uj, _, ⟨rfl, rfl⟩, h3, h4⟩ := h1
      obtain ⟨uv, _, ⟨rfl, rfl⟩, h5, h6⟩ := h2
      simp only [mapFind] at he
      split at he
      · rename_i hq
        cases he
        exact ⟨some (i, m.val), by simp [Instr.findNow, (hd hq hk h3).1], by simp, by intro x hx; cases hx; exact ⟨i, _, rfl, h5⟩⟩
      · rename_i hq
        obtain ⟨q, h7, h8⟩ := mapFind_R hd hk es (i + 1) he h4 h6
        exact ⟨q, by simp [Instr.findNow, (hd hq hk h3).1, h7], h8⟩
      · cases he

theorem mapPut_R {d : TypeDesc} {kk : CK} {k : AV} {u : Value} (hd : ∀ {k j : AV} {u uj : Value} {b : Bool}, cellEqK kk k j = some b → R σ k u → R σ j uj → Instr.sameNow d u uj = some b ∧ (b = true → Instr.sameBits 10000 uj u = true)) (hk : R σ k u) (val : AV) {uval : Value} (hv : R σ val uval) :
    ∀ (es : List (AV × AV)) {es' : List (AV × AV)} {ms : List MapEntry} (i : Nat), mapPut kk k val es = some es' → Rs σ (es.map (·.1)) (ms.map (·.key)) → Rs σ (es.map (·.2)) (ms.map (·.val)) →
      (Instr.findNow d u ms i = some none ∧ ∀ born, Rs σ (es'.map (·.1)) ((ms ++ [(⟨u, uval, born⟩ : MapEntry)]).map (·.key)) ∧ Rs σ (es'.map (·.2)) ((ms ++ [(⟨u, uval, born⟩ : MapEntry)]).map (·.val))) ∨
      ∃ j x m, Instr.findNow d u ms i = some (some (i + j, x)) ∧ ms[j]? = some m ∧ Instr.sameBits 10000 m.key u = true ∧
        Rs σ (es'.map (·.1)) ((ms.modify j fun e : MapEntry => { e with key := u, val := uval }).map (·.key)) ∧ Rs σ (es'.map (·.2)) ((ms.modify j fun e : MapEntry => { e with key := u, val := uval }).map (·.val))
  | [], es', ms, i, he, h1, _ => by
    have : ms = [] := by simpa [Rs] using h1
    subst this
    simp only [mapPut, Option.some.injEq] at he; subst he
    exact .inl ⟨rfl, fun born => ⟨by simp [Rs, hk], by simp [Rs, hv]⟩⟩
  | (j, v) :: es, es', ms, i, he, h1, h2 => by
    cases ms with
    | nil => simp [Rs] at h1
    | cons m ms =>
      simp only [List.map_cons, Rs, List.cons.injEq] at h1 h2
      obtain ⟨uj, _, ⟨rfl, rfl⟩, h3, h4⟩ := h1
      obtain ⟨uv, _, ⟨rfl, rfl⟩, h5, h6⟩ := h2
      simp only [mapPut] at he
      split at he
      · rename_i hq
        cases he
        refine .inr ⟨0, m.val, m, by simp [Instr.findNow, (hd hq hk h3).1], rfl, (hd hq hk h3).2 rfl, ?_, ?_⟩
        · simp only [List.modify_cons, List.map_cons, Rs]; exact ⟨_, _, rfl, hk, h4⟩
        · simp only [List.modify_cons, List.map_cons, Rs]; exact ⟨_, _, rfl, hv, h6⟩
      · rename_i hq
        simp only [Option.map_eq_some_iff] at he; obtain ⟨es2, h7, rfl⟩ := he
        rcases mapPut_R hd hk val hv es (i + 1) h7 h4 h6 with ⟨h8, h9⟩ | ⟨j', x, m', h8, h9, h10, h11, h12⟩
        · refine .inl ⟨by simp [Instr.findNow, (hd hq hk h3).1, h8], fun born => ⟨?_, ?_⟩⟩
          · simp only [List.cons_append, List.map_cons, Rs]; exact ⟨_, _, rfl, h3, (h9 born).1⟩
          · simp only [List.cons_append, List.map_cons, Rs]; exact ⟨_, _, rfl, h5, (h9 born).2⟩
        · refine .inr ⟨j' + 1, x, m', ?_, by simpa using h9, h10, ?_, ?_⟩
          · rw [show i + (j' + 1) = i + 1 + j' by omega]
            simp [Instr.findNow, (hd hq hk h3).1, h8]
          · simp only [List.modify_cons, Nat.succ_ne_zero, if_false, Nat.add_one_sub_one, List.map_cons, Rs]; exact ⟨_, _, rfl, h3, h11⟩
          · simp only [List.modify_cons, Nat.succ_ne_zero, if_false, Nat.add_one_sub_one, List.map_cons, Rs]; exact ⟨_, _, rfl, h5, h12⟩
      · cases he

/-- A map's entries. -/
theorem entries_R (hI : Inv X σ s.get w) {m : AV} {u : Value} {es : List (AV × AV)} (hm : R σ m u) (he : entriesOf s m = some es) :
    (u = .map none ∧ es = []) ∨ ∃ r ms ck, u = .map (some r) ∧ w.heap[r]? = some (.map ms ck) ∧ Rs σ (es.map (·.1)) (ms.toList.map (·.key)) ∧ Rs σ (es.map (·.2)) (ms.toList.map (·.val)) := by
  unfold entriesOf at he
  split at he
  · cases he; simp only [R] at hm; exact .inl ⟨hm, rfl⟩
  · rename_i id
    split at he
    · rename_i es' hg
      cases he
      simp only [R] at hm
      obtain ⟨_, ⟨⟨ms, ck, h1, h2, h3, _⟩, _⟩, _⟩ := hI.obj id _ hg
      exact .inr ⟨_, ms, ck, hm, h1, h2, h3⟩
    · cases he
  · cases he

theorem look_left (hI : Inv X σ s.get w) {t kt et : TypeId} {kk : CK} {m k z : AV} {um uk : Value} {ok : Bool} {es : List (AV × AV)} {r : Option AV} (ht : P.underlying t = some (.map kt et)) (hkk : keyOk P kt = some kk) (hz : tzero P et = some z)
    (hm : R σ m um) (hk : R σ k uk) (he : entriesOf s m = some es) (hf : mapFind kk k es = some r) :
    Left X σ s w (if ok then .tuple [r.getD z, .bool r.isSome] else r.getD z) s ((do pure (Next.value (← Instr.lookup t um uk ok)) : Sem Next).run P w) := by
  obtain ⟨d, hd, hck, hcmp⟩ := keyOk_und (P := P) (σ := σ) hkk
  obtain ⟨zu, i, h1, h2, h3, _, _⟩ := run_tzero (w := w) hz
  have hzR := ofConst_R h3 σ
  have key : ∀ (ms : Array MapEntry), Rs σ (es.map (·.1)) (ms.toList.map (·.key)) → Rs σ (es.map (·.2)) (ms.toList.map (·.val)) → ∃ q, (Instr.findKey kt uk ms.toList).run P w = .ok q w ∧ ((q = none ∧ r = none) ∨ ∃ x j uv, r = some x ∧ q = some (j, uv) ∧ R σ x uv) := by
    intro ms h4 h5
    obtain ⟨q, h6, h7, h8⟩ := mapFind_R hcmp hk es 0 hf h4 h5
    refine ⟨q, MapKept.run_findKey hd h6, ?_⟩
    cases r with
    | none => exact .inl ⟨h7 rfl, rfl⟩
    | some x => obtain ⟨j, uv, h9, h10⟩ := h8 x rfl; exact .inr ⟨x, j, uv, rfl, h9, h10⟩
  have fin : ∀ (ms : Array MapEntry), Rs σ (es.map (·.1)) (ms.toList.map (·.key)) → Rs σ (es.map (·.2)) (ms.toList.map (·.val)) →
      ∃ q uv b, (Instr.findKey kt uk ms.toList).run P w = .ok q w ∧ ((q = none ∧ uv = zu ∧ b = false) ∨ ∃ j, q = some (j, uv) ∧ b = true) ∧ R σ (r.getD z) uv ∧ b = r.isSome := by
    intro ms h4 h5
    obtain ⟨q, h6, h7⟩ := key ms h4 h5
    rcases h7 with ⟨rfl, rfl⟩ | ⟨x, j, uv, rfl, rfl, h8⟩
    · exact ⟨none, zu, false, h6, .inl ⟨rfl, rfl, rfl⟩, hzR, rfl⟩
    · exact ⟨_, uv, true, h6, .inr ⟨j, rfl, rfl⟩, h8, rfl⟩
  have post : ∀ (u : Value) (b : Bool), R σ (r.getD z) u → b = r.isSome → R σ (if ok then .tuple [r.getD z, .bool r.isSome] else r.getD z) (if ok then .tuple #[u, .bool b] else u) := by
    intro u b h1 h2
    cases ok with
    | true => simp only [if_true, R]; exact ⟨_, rfl, by simp [Rs, R, h1, h2]⟩
    | false => simpa using h1
  rcases entries_R hI hm he with ⟨rfl, rfl⟩ | ⟨rr, ms, ck, rfl, h4, h5, h6⟩
  · obtain ⟨q, uv, b, h7, h8, h9, h10⟩ := fin #[] (by simp [Rs]) (by simp [Rs])
    refine Left.same hI (run_nv (u := if ok then .tuple #[uv, .bool b] else uv) ?_) (post uv b h9 h10)
    simp only [Instr.lookup, Sem.run_bind, run_und ht, Result.andThen_ok, Sem.run_pure, hck, h7]
    rcases h8 with ⟨rfl, rfl, rfl⟩ | ⟨j, rfl, rfl⟩
    · simp [h2]
    · simp
  · obtain ⟨q, uv, b, h7, h8, h9, h10⟩ := fin ms h5 h6
    refine Left.same hI (run_nv (u := if ok then .tuple #[uv, .bool b] else uv) ?_) (post uv b h9 h10)
    simp only [Instr.lookup, Sem.run_bind, run_und ht, Result.andThen_ok, Sem.run_pure, hck, h7, MapKept.run_getObj_map h4]
    rcases h8 with ⟨rfl, rfl, rfl⟩ | ⟨j, rfl, rfl⟩
    · simp [h2]
    · simp

theorem lenm_left (hI : Inv X σ s.get w) {t kt et ty : TypeId} {ts : Array TypeId} {m : AV} {um : Value} {es : List (AV × AV)} (h0 : ts[0]? = some t) (ht : P.underlying t = some (.map kt et))
    (hm : R σ m um) (he : entriesOf s m = some es) :
    Left X σ s w (.int .i64 es.length) s ((do pure (Next.value (← Builtin.len_ ts ty #[um])) : Sem Next).run P w) := by
  refine Left.same hI (run_nv (u := .int .i64 es.length) ?_) rfl
  rcases entries_R hI hm he with ⟨rfl, rfl⟩ | ⟨rr, ms, ck, rfl, h4, h5, h6⟩
  · simp [Builtin.len_, h0, run_und ht, goInt]
  · have hl := Rs_length _ _ h5
    simp at hl
    simp [Builtin.len_, h0, run_und ht, goInt, MapKept.run_getObj_map h4, hl]

/-- A map changes. -/
theorem Step.setMap {g g' : Hp} (hI : Inv X σ g w) {n : Nat} {es es' : List (AV × AV)} (hn : g n = some (.map es)) (hg : ∀ j, g' j = if j = n then some (.map es') else g j) (hal : (AObj.map es').al (dm g) = true)
    {ms ms' : Array MapEntry} {ck ck' : Nat} (hc : w.heap[σ.φ n]? = some (.map ms ck)) (h1 : Rs σ (es'.map (·.1)) (ms'.toList.map (·.key))) (h2 : Rs σ (es'.map (·.2)) (ms'.toList.map (·.val))) (hbn : BornOk ms' ck') :
    Step X σ g w σ g' { w with heap := w.heap.setIfInBounds (σ.φ n) (.map ms' ck') } := by
  obtain ⟨_, hok, hbase⟩ := hI.obj n _ hn
  have hnoG : ∀ q v, ¬ σ.G (σ.φ n) q v := hok.2
  have hlt := block_lt hc
  have hdd : ∀ i, dm g i = true → dm g' i = true := fun i hi => by simp only [dm, hg]; split <;> simp_all [dm]
  have hother : ∀ b, b ≠ σ.φ n → (w.heap.setIfInBounds (σ.φ n) (.map ms' ck'))[b]? = w.heap[b]? := fun b hb => by
    rw [Array.getElem?_setIfInBounds]; rw [if_neg (Ne.symm hb)]
  have hbl : Below X.B0 X.w0 { w with heap := w.heap.setIfInBounds (σ.φ n) (.map ms' ck') } :=
    hI.below.trans ⟨rfl, rfl, rfl, by simp, fun k hk => hother k (by simp only [blk] at hbase; omega)⟩
  refine Step.change n (fun b => b = σ.φ n) hI hbl (by simp) (Ext.refl _ _) ?_ ?_ ?_ ?_ ?_ ?_ ?_ ?_ ?_
  · intro j p hp hj hb; exact hI.inj j n p _ hp hn hj hb
  · intro b _ hb; exact hother b hb
  · intro b hb _; subst hb; exact ⟨_, hn, rfl⟩
  · intro b q v hv hb; subst hb; exact absurd hv (hnoG q v)
  · intro b q v hv; exact .inl hv
  · intro j hj; rw [hg j, if_neg hj]
  · intro j _; rfl
  · exact hdd n
  · intro p hp
    rw [hg n, if_pos rfl] at hp; cases hp
    refine ⟨AObj.al_mono hdd hal, ⟨⟨ms', ck', ?_, h1, h2, hbn⟩, hnoG⟩, hbase, .inl rfl⟩
    show (w.heap.setIfInBounds (σ.φ n) (.map ms' ck'))[σ.φ n]? = _
    rw [Array.getElem?_setIfInBounds]; simp [hlt]

theorem mupd_left (hw : Whole s) (hI : Inv X σ s.get w) {t kt et : TypeId} {kk : CK} {k x : AV} {um uk ux : Value} {id : Nat} {es es' : List (AV × AV)} (ht : P.underlying t = some (.map kt et)) (hkk : keyOk P kt = some kk)
    (hm : R σ (.map id) um) (hk : R σ k uk) (hx : R σ x ux) (hkal : k.al (below s.next) = true) (hxal : x.al (below s.next) = true) (he : s.get id = some (.map es)) (hf : mapPut kk k x.strip es = some es') :
    Left X σ s w AV.undef (s.set id (.map es')) ((do Instr.mapUpdate t um uk ux; pure Next.skip : Sem Next).run P w) := by
  obtain ⟨d, hd, hck, hcmp⟩ := keyOk_und (P := P) (σ := σ) hkk
  simp only [R] at hm; subst hm
  obtain ⟨hal, ⟨⟨ms, ck, h1, h2, h3, hbn⟩, _⟩, _⟩ := hI.obj id _ he
  have hal' : (AObj.map es').al (dm s.get) = true := by
    rw [dm_get hw] at hal ⊢
    exact mapPut_al hkal (al_strip hxal) es es' hal hf
  rcases mapPut_R hcmp hk x.strip (R_strip hx) es 0 hf h2 h3 with ⟨h4, h5⟩ | ⟨j, y, m, h4, h5, h6, h7, h8⟩
  · refine ⟨undef, _, σ, Step.setMap (ms' := ms.push ⟨uk, ux, ck⟩) (ck' := ck + 1) hI he (fun j => get_set' hw he j) hal' h1 ?_ ?_ (hbn.push _ _), R_undef σ, .inr ⟨rfl, run_nu ?_⟩⟩
    · simpa using (h5 ck).1
    · simpa using (h5 ck).2
    · simp [Instr.mapUpdate, run_und ht, MapKept.run_getObj_map h1, hck, MapKept.run_findKey hd h4, MapKept.run_setObj_map _ h1]
  · rw [Nat.zero_add] at h4
    refine ⟨undef, _, σ, Step.setMap (ms' := ms.modify j fun e => { e with key := uk, val := ux }) (ck' := ck) hI he (fun j => get_set' hw he j) hal' h1 ?_ ?_ (hbn.modify _ _ _), R_undef σ, .inr ⟨rfl, run_nu ?_⟩⟩
    · simpa using h7
    · simpa using h8
    · have h5' : ms[j]? = some m := by simpa using h5
      simp [Instr.mapUpdate, run_und ht, MapKept.run_getObj_map h1, hck, MapKept.run_findKey hd h4, MapKept.run_setObj_map _ h1, h5', Instr.keyThatStays, h6]

theorem mkmap_left (hw : Whole s) (hI : Inv X σ s.get w) {t : TypeId} : Left X σ s w (.map s.next) (s.new (.map [])) ((do pure (Next.value (← Instr.makeMap t none)) : Sem Next).run P w) := by
  refine ⟨.map (some w.heap.size), w.alloc (.map #[] 0), σ.setφ s.next w.heap.size, Step.newObj hI (next_none hw) _ _ (new_get s _) rfl (by simp) ?_, by simp [R, Gh.setφ], .inl (run_nv ?_)⟩
  · simp only [ObjOk]
    have e : (σ.setφ s.next w.heap.size).φ s.next = w.heap.size := by simp [Gh.setφ]
    rw [e]
    exact ⟨⟨#[], 0, heap_alloc_new w _, by simp [Rs], by simp [Rs], by simp [BornOk]⟩, fun q v h => noG_new hI q v h⟩
  · simp [Instr.makeMap]
end
end Fw


/- The operations that read or change memory, continued: rows. -/
namespace Fw
open Go Go.RowKit

section
variable {P : Program} {X : Bs} {cx : Cx} {callee : Callee} {σ : Gh} {ρ : Env} {a : Act} {w w' : World} {s s' : St} {v : AV}

theorem RC_of {cs : List AV} {vs : List Value} {b o : Nat} (h : Rs σ cs vs) (hG : ∀ (j : Nat) (v : Value), vs[j]? = some v → σ.G b (o + j) v) : RC σ cs b o := by
  rw [RC_iff]
  intro j a ha
  obtain ⟨v, h1, h2⟩ := Rs_get _ _ h j a ha
  exact ⟨v, hG j v h1, h2⟩

theorem Rs_flat {zs : List AV} {vs : List Value} (h : Rs σ zs vs) : ∀ n, Rs σ ((List.replicate n zs).flatten) ((List.replicate n vs).flatten)
  | 0 => by simp [Rs]
  | n + 1 => by simp only [List.replicate_succ, List.flatten_cons]; exact Rs_append h (Rs_flat h n)

theorem flat_get (z : Array Value) (n j : Nat) (hz : 0 < z.size) (hj : j < n * z.size) : ((List.replicate n z.toList).flatten)[j]? = some z[j % z.size]! := by
  induction n generalizing j with
  | zero => simp at hj
  | succ n ih =>
    simp only [List.replicate_succ, List.flatten_cons]
    by_cases h : j < z.size
    · rw [List.getElem?_append_left (by simpa using h), Nat.mod_eq_of_lt h]
      simp [h]
    · rw [List.getElem?_append_right (by simp; omega)]
      have := ih (j - z.size) (by rw [Nat.succ_mul] at hj; omega)
      simp only [Array.length_toList]
      rw [this, Nat.mod_eq_sub_mod (a := j) (by omega)]

theorem flat_len (z : Array Value) (n : Nat) : ((List.replicate n z.toList).flatten).length = n * z.size := by simp

theorem made_list (z : Array Value) (n : Nat) : ((Array.range (n * z.size)).map (z[· % z.size]!)).toList = (List.replicate n z.toList).flatten := by
  apply List.ext_getElem?
  intro j
  by_cases hj : j < n * z.size
  · have hz : 0 < z.size := by rcases Nat.eq_zero_or_pos z.size with h | h; (rw [h] at hj; simp at hj); exact h
    rw [flat_get z n j hz hj]
    simp [hj]
  · rw [List.getElem?_eq_none (by simp; omega), List.getElem?_eq_none (by rw [flat_len]; omega)]

theorem bslice_left {g : Hp} (hI : Inv X σ g w) (hG : Gls cx σ) (hE : EnvOk σ ρ a) {t e : TypeId} {len n : Nat} {parts : Array (Nat × Operand)} {z : AV} {ips : List (Nat × Nat × IX)} {cs : List AV} (ht : P.underlying t = some (.slice e)) (hn : tsz P e = some n) (hz : tzero P e = some z) (hlim : ¬ len * n > 2 ^ 24)
    (hp : cParts (fun i => some (i * n, n)) parts.toList = some ips) (he : fillA cx ρ ((List.replicate len z.cells).flatten) ips = some cs) (hal : alAll (dm g) cs = true) :
    LeftG X σ g w (.slice (cs.map AV.strip) len .full) g ((do pure (Next.value (← Instr.buildSlice t len (parts.map fun (i, x) => (i, a.eval x)))) : Sem Next).run P w) := by
  obtain ⟨zu, i, h1, h2, h3, h4, h5⟩ := run_tzero (w := w) hz
  have hi : i.size = n := by simp [tsz, h1] at hn; exact hn
  have hzR := R_cells (ofConst_R h3 σ)
  have hfl : Rs σ ((List.replicate len z.cells).flatten) ((Array.range (len * n)).map (zu.cells[· % zu.cells.size]!)).toList := by
    rw [← hi, ← h5, made_list]; exact Rs_flat hzR len
  obtain ⟨ys, h6, h7⟩ := fill_R hG hE _ _ hp he hfl
  have hl := Rs_length _ _ h7
  simp only [Array.length_toList] at hl
  have hst := Step.newRow hI ys e (0, 0) cs.length
  refine ⟨.slice (some ⟨w.heap.size, 0, none⟩) len len, _, _, hst, ?_, .inl (run_nv ?_)⟩
  · simp only [R]
    exact .inl ⟨_, 0, len, rfl, Nat.le_refl _, rfl, RC_row (p := dm g) (alAll_strip hal) (by simp) (Rs_strip (by simp only [List.length_map]; exact Rs_take_all h7))⟩
  · have hr0 : ∀ f : Nat → Value, (Array.range 0).map f = #[] := fun f => by simp [Array.range_zero']
    have hlim' : ¬ 16777216 < len * n := by simpa using hlim
    by_cases h0 : len * n = 0
    · have h6' : Instr.fill (fun i => some (i * n, n)) #[] (parts.map fun (i, x) => (i, a.eval x)).toList = some ys := by
        rw [map_parts, ← h6, h0, hr0]
      simp only [Instr.buildSlice, Sem.run_bind, run_und ht, run_tsz hn, Result.andThen_ok, hlim, if_false, if_pos h0, Sem.run_ite, Sem.run_pure]
      rw [h0, hr0, h6']
      simp [newRow, Result.andThen]
    · have h6' : Instr.fill (fun i => some (i * n, n)) ((Array.range (len * n)).map (zu.cells[· % zu.cells.size]!)) (parts.map fun (i, x) => (i, a.eval x)).toList = some ys := by
        rw [map_parts]; exact h6
      simp only [Instr.buildSlice, Sem.run_bind, run_und ht, run_tsz hn, Result.andThen_ok, h0, hlim, if_false, Sem.run_ite, h2, Sem.run_pure]
      rw [h6']
      simp [newRow, Result.andThen, hlim']

theorem mkslice_leftG {g g' : Hp} {m : Nat} (hI : Inv X σ g w) (hm0 : g m = none) {t e : TypeId} {n by' : Nat} {z : AV} {l c : Int} {ul uc : Value} (hg' : ∀ j, g' j = if j = m then some (.cells none ((List.replicate c.toNat z.cells).flatten)) else g j) (ht : P.underlying t = some (.slice e)) (hn : tsz P e = some n) (hb : tby P e = some by') (hz : tzero P e = some z)
    (hs : alAll (fun _ => false) z.cells = true) (hl : R σ (.int .i64 l) ul) (hc : R σ (.int .i64 c) uc) (h0 : 0 ≤ l) (hlc : l ≤ c) (hr : c.toNat * by' ≤ room) (hb0 : by' ≠ 0) :
    LeftG X σ g w (.mslice m 0 l.toNat (some c.toNat)) g' ((do pure (Next.value (← Instr.makeSlice t ul uc)) : Sem Next).run P w) := by
  obtain ⟨zu, i, h1, h2, h3, h4, h5⟩ := run_tzero (w := w) hz
  have hi : i.size = n := by simp [tsz, h1] at hn; exact hn
  have hib : i.bytes = by' := by simp [tby, h1] at hb; exact hb
  have hzz : i.zero = some zu := by
    simp only [zeroValue, Sem.run_bind, typeInfo] at h2
    simp only [run_program, Result.andThen_ok, h1, Sem.run_pure] at h2
    cases hq : i.zero with
    | none => simp [hq] at h2
    | some q => simp [hq] at h2; rw [h2]
  simp only [R] at hl hc; subst hl hc
  have hbb : (i.bytes : Int) * c ≤ 281474976710656 := by
    rw [hib]
    have : ((c.toNat * by' : Nat) : Int) ≤ ((2 ^ 47 : Nat) : Int) := by exact_mod_cast hr
    rw [Int.natCast_mul, Int.toNat_of_nonneg (by omega), Int.mul_comm] at this
    have h47 : ((2 ^ 47 : Nat) : Int) = 140737488355328 := by decide
    rw [h47] at this
    exact Int.le_trans this (by decide)
  have h63 : c ≤ 9223372036854775807 := by
    have h1 : c.toNat * 1 ≤ c.toNat * by' := Nat.mul_le_mul_left _ (by omega)
    have h47 : room = 140737488355328 := by decide
    omega
  have hm := run_make (P := P) w t e i zu ht h1 hzz .i64 .i64 l c h0 hlc hbb h63
  have hzR := R_cells (ofConst_R h3 σ)
  have hmade : (madeCells zu.cells (c.toNat * i.size)).toList = (List.replicate c.toNat zu.cells.toList).flatten := by
    rw [← h5]; exact made_list zu.cells c.toNat
  refine ⟨_, _, _, new_stepG hI hm0 hg' (c := madeCells zu.cells (c.toNat * i.size)) e (flat_al (alAll_false hs) _) (by rw [hmade]; exact Rs_flat hzR _) (fun _ e => by cases e), ?_, .inl (run_nv hm)⟩
  simp only [R]
  exact ⟨c.toNat, by simp [Gh.setφ], by omega, fun c' h => by cases h; rfl⟩
theorem mkslice_left (hw : Whole s) (hI : Inv X σ s.get w) {t e : TypeId} {n by' : Nat} {z : AV} {l c : Int} {ul uc : Value} (ht : P.underlying t = some (.slice e)) (hn : tsz P e = some n) (hb : tby P e = some by') (hz : tzero P e = some z)
    (hs : alAll (fun _ => false) z.cells = true) (hl : R σ (.int .i64 l) ul) (hc : R σ (.int .i64 c) uc) (h0 : 0 ≤ l) (hlc : l ≤ c) (hr : c.toNat * by' ≤ room) (hb0 : by' ≠ 0) :
    Left X σ s w (.mslice s.next 0 l.toNat (some c.toNat)) (s.new (.cells none ((List.replicate c.toNat z.cells).flatten))) ((do pure (Next.value (← Instr.makeSlice t ul uc)) : Sem Next).run P w) := mkslice_leftG hI (next_none hw) (new_get s _) ht hn hb hz hs hl hc h0 hlc hr hb0

theorem s2b_left (hw : Whole s) (hI : Inv X σ s.get w) {src dst e : TypeId} {t : List UInt8} {u : Value} (hs : P.underlying src = some .string) (hd : P.underlying dst = some (.slice e)) (he : P.underlying e = some (.int .u8)) (hu : R σ (.str t) u) :
    Left X σ s w (.mslice s.next 0 t.length none) (s.new (.cells none (byteCells t))) ((do pure (Next.value (← convert src dst u)) : Sem Next).run P w) := by
  simp only [R] at hu; subst hu
  have hsz : ByteArray.size ⟨t.toArray⟩ = t.length := by simp [ByteArray.size]
  have hrun := run_bytes_of_string (P := P) w src dst e ⟨t.toArray⟩ hs hd he
  rw [hsz] at hrun
  have hdr : Step X σ s.get w σ s.get w.drew := Step.heap_same hI hI.below.drew rfl
  have hge := grownCap_ge w t.length 0 e
  have hbt : ∀ c, (bytesRow ⟨t.toArray⟩ c).toList.take t.length = t.map fun b => Value.int .u8 b.toNat := by
    intro c; simp [bytesRow]
  have hbs : ∀ c, (bytesRow ⟨t.toArray⟩ c).size = t.length + (c - t.length) := by
    intro c; simp [bytesRow, hsz]
  have hR : Rs σ (byteCells t) (t.map fun b => Value.int .u8 b.toNat) := by
    rw [Rs_iff]
    refine ⟨by simp [byteCells], fun j a ha => ?_⟩
    simp only [byteCells, List.getElem?_map] at ha ⊢
    cases hq : t[j]? with
    | none => simp [hq] at ha
    | some b => simp [hq] at ha; subst ha; exact ⟨_, rfl, rfl⟩
  have hlen : (byteCells t).length = t.length := by simp [byteCells]
  have hst := Step.newCells (g' := (s.new (.cells none (byteCells t))).get) hdr.inv (next_none hw) (new_get s _) (byteCells_al t) (c := bytesRow ⟨t.toArray⟩ (grownCap w t.length 0 e)) e ((bytesRow ⟨t.toArray⟩ (grownCap w t.length 0 e)).size, (bytesRow ⟨t.toArray⟩ (grownCap w t.length 0 e)).size + 1)
    (fun j hj h => by rw [hlen] at hj; rw [hbs] at h; simp only at h; omega) (by rw [hbs, hlen]; omega) (by rw [hlen, hbt]; exact hR) (fun _ e => by cases e)
  refine ⟨_, _, _, hdr.trans hst, ?_, .inl (run_nv hrun)⟩
  simp only [R]
  exact ⟨_, by simp [Gh.setφ], hge, fun c' h => by cases h⟩

/-- What can be copied from: its cells. -/
theorem cellsOf_R (hI : Inv X σ s.get w) {x : AV} {u : Value} {k n : Nat} {cs : List AV} (hx : R σ x u) (he : cellsOf s k x = some cs) (hc : x.count = some n) :
    (Builtin.lenOf u).run P w = .ok n w ∧ cs.length = n * k ∧ ∃ vs, Rs σ cs vs ∧ ∀ (w2 : World) (m : Nat), w2.heap = w.heap → m ≤ n → (Builtin.firstCells k m u).run P w2 = .ok (vs.take (m * k)).toArray w2 := by
  have fin : ∀ (b o cap : Nat) (vs : List Value), Rs σ cs vs → cs.length = n * k → (∀ (j : Nat) (v : Value), vs[j]? = some v → w.cell? ⟨b, o + j, none⟩ = some v) →
      ∀ (w2 : World) (m : Nat), w2.heap = w.heap → m ≤ n → (Builtin.firstCells k m (.slice (some ⟨b, o, none⟩) n cap)).run P w2 = .ok (vs.take (m * k)).toArray w2 := by
    intro b o cap vs h1 h2 h3 w2 m h4 h5
    have hl := Rs_length _ _ h1
    have hmk : m * k ≤ n * k := Nat.mul_le_mul_right _ h5
    refine run_firstCells_some w2 k m ⟨b, o, none⟩ n cap (vs.take (m * k)) (by simp; omega) fun j v hv => ?_
    rw [List.getElem?_take] at hv
    split at hv
    · rw [addr_add, cell_same (w := w) (by rw [h4])]; exact h3 j v hv
    · cases hv
  unfold cellsOf at he
  split at he
  · rename_i b
    split at he <;> cases he
    rename_i hk; subst hk
    simp only [AV.count, Option.some.injEq] at hc; subst hc
    simp only [R] at hx; subst hx
    refine ⟨by simp [Builtin.lenOf, ByteArray.size], by simp [byteCells], b.map fun b => Value.int .u8 b.toNat, ?_, fun w2 m _ hm => ?_⟩
    · rw [Rs_iff]
      refine ⟨by simp [byteCells], fun j a ha => ?_⟩
      simp only [byteCells, List.getElem?_map] at ha ⊢
      cases hq : b[j]? with
      | none => simp [hq] at ha
      | some b => simp [hq] at ha; subst ha; exact ⟨_, rfl, rfl⟩
    · simp only [Builtin.firstCells, Sem.run_pure, Nat.mul_one]
      congr 1
      apply Array.ext'
      simp [ByteArray.data_extract, List.extract, List.map_take]
  · cases he
    simp only [AV.count, Option.some.injEq] at hc; subst hc
    simp only [R] at hx; subst hx
    exact ⟨by simp [Builtin.lenOf], by simp, [], by simp [Rs], fun w2 m _ _ => by simp [Builtin.firstCells]⟩
  · rename_i cs' n' own
    split at he <;> cases he
    rename_i hl
    simp only [AV.count, Option.some.injEq] at hc; subst hc
    simp only [R] at hx
    rcases hx with ⟨b, o, cap, rfl, h1, _, h2⟩ | ⟨rfl, rfl, _, a, rfl⟩
    · obtain ⟨vs, h3, h4⟩ := cells_RC hI.gh _ _ _ h2
      exact ⟨by simp [Builtin.lenOf], hl, vs, h3, fin b o cap vs h3 hl h4⟩
    · refine ⟨by simp [Builtin.lenOf], hl, [], by simp [Rs], fun w2 m _ hm => ?_⟩
      have : m = 0 := by omega
      subst this
      simp [Builtin.firstCells, loadCells, loadCellsFrom]
  · rename_i id off n' cap
    split at he
    · rename_i cs' hg
      simp only [AV.count, Option.some.injEq] at hc; subst hc
      simp only [R] at hx; obtain ⟨c, rfl, h1, _⟩ := hx
      obtain ⟨vs, h3, h4, h5⟩ := cells_obj hI hg he
      exact ⟨by simp [Builtin.lenOf], h4, vs, h3, fin _ _ c vs h3 h4 h5⟩
    · cases he
  · cases he

theorem copy_left (hw : Whole s) (hI : Inv X σ s.get w) {t e ty : TypeId} {ts : Array TypeId} {k : Nat} {d x : AV} {ud ux : Value} (h0 : ts[0]? = some t) (ht : P.underlying t = some (.slice e)) (hn : tsz P e = some k) (hd : R σ d ud) (hx : R σ x ux) (hal : x.al (below s.next) = true)
    (he : copyA s k d x = some (v, s')) : Left X σ s w v s' ((do pure (Next.value (← Builtin.copy_ ts ty #[ud, ux])) : Sem Next).run P w) := by
  unfold copyA at he
  split at he
  · rename_i m hm
    cases he
    simp only [R] at hd; subst hd
    have hf : (Builtin.lenOf ux).run P w = .ok m w ∧ (Builtin.firstCells k 0 ux).run P w = .ok #[] w := by
      cases x <;> simp only [AV.count, Option.some.injEq, reduceCtorEq] at hm <;> subst hm <;> simp only [R] at hx
      · subst hx; exact ⟨by simp [Builtin.lenOf, ByteArray.size], by simp [Builtin.firstCells, ByteArray.data_extract]⟩
      · subst hx; exact ⟨by simp [Builtin.lenOf], by simp [Builtin.firstCells]⟩
      · rcases hx with ⟨b, o, cap, rfl, _⟩ | ⟨_, rfl, _, a, rfl⟩ <;> exact ⟨by simp [Builtin.lenOf], by simp [Builtin.firstCells, loadCells, loadCellsFrom]⟩
      · obtain ⟨c, rfl, _⟩ := hx; exact ⟨by simp [Builtin.lenOf], by simp [Builtin.firstCells, loadCells, loadCellsFrom]⟩
    refine Left.same hI (run_nv (u := .int .i64 0) ?_) rfl
    simp [Builtin.copy_, h0, run_und ht, hf.1, run_tsz hn, hf.2, goInt]
  · rename_i id off n cap m cs hm hcs
    split at he
    · rename_i ty ds hg
      split at he
      · cases he
      · rename_i hone
        simp only [Option.map_eq_some_iff] at he; obtain ⟨ds', h1, h2⟩ := he; cases h2
        simp only [R] at hd; obtain ⟨c, rfl, h3, _⟩ := hd
        obtain ⟨h4, h5, vs, h6, h7⟩ := cellsOf_R (P := P) hI hx hcs hm
        have hmin : min m n ≤ m := Nat.min_le_left _ _
        have hcal := cellsOf_al hw hal hcs
        obtain ⟨w', h8, h9⟩ := store_step (P := P) hw hI hg (Rs_take h6 (min m n * k)) (alAll_take hcal _) (by
          rw [List.all_eq_true]; intro a ha
          have hone' : cs.all AV.one = true := by simpa using hone
          exact List.all_eq_true.1 hone' a (List.mem_of_mem_take ha)) h1
        refine ⟨.int .i64 (min m n : Nat), w', σ, h9, rfl, .inl (run_nv ?_)⟩
        have hf := h7 w (min m n) rfl hmin
        have hmn : Nat.min m n = min m n := rfl
        simp only [Builtin.copy_, h0, Sem.run_bind, run_und ht, Result.andThen_ok, h4, run_tsz hn, hf, hmn, List.toList_toArray, h8, goInt, Sem.run_pure, List.getElem?_toArray, List.getElem?_cons_zero, List.getElem?_cons_succ]
    · cases he
  · cases he
theorem clear_left (hw : Whole s) (hI : Inv X σ s.get w) {t e ty : TypeId} {ts : Array TypeId} {z d : AV} {ud : Value} (h0 : ts[0]? = some t) (ht : P.underlying t = some (.slice e)) (hz : tzero P e = some z) (hs : alAll (fun _ => false) z.cells = true) (hd : R σ d ud)
    (he : clearA s z.cells d = some (v, s')) : Left X σ s w v s' ((do pure (Next.value (← Builtin.clear_ ts ty #[ud])) : Sem Next).run P w) := by
  obtain ⟨zu, i, h1, h2, h3, h4, h5⟩ := run_tzero (w := w) hz
  have hu : R σ AV.undef (.tuple #[]) := by simp [AV.undef, R, Rs]
  unfold clearA at he
  split at he
  · cases he
    simp only [R] at hd; subst hd
    refine Left.same hI (run_nv (u := .tuple #[]) ?_) hu
    simp [Builtin.clear_, h0, run_und ht]
  · rename_i id off n cap
    simp only [R] at hd; obtain ⟨c, rfl, h6, _⟩ := hd
    split at he
    · rename_i hn; subst hn
      cases he
      refine Left.same hI (run_nv (u := .tuple #[]) ?_) hu
      simp [Builtin.clear_, h0, run_und ht]
    · rename_i hn
      split at he
      · rename_i ty' ds hg
        split at he
        · cases he
        · rename_i hone
          simp only [Option.map_eq_some_iff] at he; obtain ⟨ds', h7, h8⟩ := he; cases h8
          have hzR := R_cells (ofConst_R (σ := σ) h3)
          have hone' : z.cells.all AV.one = true := by simpa using hone
          obtain ⟨w', h9, h10⟩ := store_step (P := P) hw hI hg (Rs_flat hzR n) (flat_al (alAll_false hs) _) (by
            rw [List.all_eq_true]; intro a ha
            rw [List.mem_flatten] at ha
            obtain ⟨l, hl, ha⟩ := ha
            rw [(List.mem_replicate.1 hl).2] at ha
            exact List.all_eq_true.1 hone' a ha) h7
          obtain ⟨m, rfl⟩ : ∃ m, n = m + 1 := ⟨n - 1, by omega⟩
          have hmade : (Builtin.zeroCells zu.cells (m + 1)).toList = (List.replicate (m + 1) zu.cells.toList).flatten := made_list zu.cells (m + 1)
          refine ⟨.tuple #[], w', σ, h10, hu, .inl (run_nv ?_)⟩
          simp only [Builtin.clear_, h0, Sem.run_bind, run_und ht, Result.andThen_ok, h2, hmade, h9, Sem.run_pure, List.getElem?_toArray, List.getElem?_cons_zero]
      · cases he
  · cases he
end
end Fw


/- Append. -/
namespace Fw
open Go Go.RowKit

section
variable {P : Program} {X : Bs} {cx : Cx} {callee : Callee} {σ : Gh} {ρ : Env} {a : Act} {w w' : World} {s s' : St} {v : AV}

structure AppT (P : Program) (ts : Array TypeId) (e : TypeId) (k by' : Nat) : Prop where
  t1 : ∃ t, ts[0]? = some t ∧ P.underlying t = some (.slice e)
  t2 : ∃ t d, ts[1]? = some t ∧ P.underlying t = some d ∧ ∀ i, d ≠ .int i
  sz : tsz P e = some k
  bys : tby P e = some by'
  z : ∃ z, tzero P e = some z
  k0 : k ≠ 0
  b0 : by' ≠ 0

theorem append_fit {ts : Array TypeId} {e ty : TypeId} {k by' m sLen sCap : Nat} {base : Option Addr} {uy : Value} {news : Array Value} (h : AppT P ts e k by') (hl : (Builtin.lenOf uy).run P w = .ok m w)
    (hf : (Builtin.firstCells k m uy).run P w = .ok news w) (hroom : sLen + m ≤ sCap) :
    (Builtin.append_ ts ty #[.slice base sLen sCap, uy]).run P w = ((match base with | some a => storeCells (a.add (sLen * k)) news.toList | none => pure () : Sem Unit).run P w).andThen fun _ w' => .ok (.slice base (sLen + m) sCap) w' := by
  obtain ⟨t, h1, h2⟩ := h.t1
  obtain ⟨t', d, h3, h4, h5⟩ := h.t2
  cases base <;> simp [Builtin.append_, h1, run_und h2, h3, run_und h4, run_tsz h.sz, hl, hroom, hf]

theorem append_more {ts : Array TypeId} {e ty : TypeId} {k by' m sLen sCap : Nat} {base : Option Addr} {uy zu : Value} {olds news : Array Value} (h : AppT P ts e k by') (hl : (Builtin.lenOf uy).run P w = .ok m w)
    (hz : ∀ w : World, (zeroValue e).run P w = .ok zu w)
    (hfo : (Builtin.firstCells k sLen (.slice base sLen sCap)).run P w.drew = .ok olds w.drew) (hf : (Builtin.firstCells k m uy).run P w.drew = .ok news w.drew) (hroom : sCap < sLen + m) (hb : (sLen + m) * by' ≤ room) :
    (Builtin.append_ ts ty #[.slice base sLen sCap, uy]).run P w = .ok (.slice (some ⟨w.heap.size, 0, none⟩) (sLen + m) (grownCap w (sLen + m) sCap e))
      (w.drew.alloc (.cells (olds ++ news ++ Builtin.zeroCells zu.cells (grownCap w (sLen + m) sCap e - (sLen + m))) e)) := by
  obtain ⟨t, h1, h2⟩ := h.t1
  obtain ⟨t', d, h3, h4, h5⟩ := h.t2
  obtain ⟨i, hi, hib⟩ : ∃ i, P.info? e = some i ∧ i.bytes = by' := by
    have := h.bys; simp only [tby, Option.map_eq_some_iff] at this; exact this
  have hfit := growslice_fits (bytes := by') hroom hb
  have h48 : ¬ (281474976710656 < Builtin.nextslicecap (sLen + m) sCap * i.bytes) := by rw [hib]; omega
  have hbz : i.bytes ≠ 0 := by rw [hib]; exact h.b0
  have hn : ¬ (sLen + m ≤ sCap) := by omega
  simp [Builtin.append_, h1, run_und h2, h3, run_und h4, run_tsz h.sz, hl, hn, typeInfo, hi, hbz, h48, Question.forced, hf, hfo, hz, newRow, grownCap]


theorem zeroRun {t : TypeId} {z : AV} (h : tzero P t = some z) : ∃ u i, P.info? t = some i ∧ (∀ w : World, (zeroValue t).run P w = .ok u w) ∧ u.cells.size = i.size := by
  simp only [tzero, Option.bind_eq_some_iff] at h
  obtain ⟨i, h1, u, h2, b, h3, h4⟩ := h
  split at h4 <;> cases h4
  rename_i hq
  exact ⟨u, i, h1, fun w => by simp [zeroValue, typeInfo, h1, h2], hq.2⟩

/-- A new row is laid, and t owns it. -/
theorem grow_left (hI : Inv X σ s.get w) {t e' : Nat} {k by' m n sCap : Nat} {ts : Array TypeId} {e ty : TypeId} {base : Option Addr} {uy : Value} {old new : List AV} {vo vn : List Value} (h : AppT P ts e k by')
    (hg : ∀ j, s'.get j = if j = t then some (.tok e e' k) else s.get j) (hold : s.get t = none ∨ ∃ t0 e0 z0, s.get t = some (.tok t0 e0 z0)) (hT : ∀ e'', e' ≤ e'' → σ.T t e'' = none)
    (halo : alAll (dm s.get) old = true) (haln : alAll (dm s.get) new = true)
    (hlo : old.length = n * k) (hln : new.length = m * k) (hRo : Rs σ old vo) (hRn : Rs σ new vn)
    (hl : (Builtin.lenOf uy).run P w = .ok m w)
    (hfo : (Builtin.firstCells k n (.slice base n sCap)).run P w.drew = .ok vo.toArray w.drew) (hf : (Builtin.firstCells k m uy).run P w.drew = .ok vn.toArray w.drew) (hroom : sCap < n + m) (hb : (n + m) * by' ≤ room) (hne : n + m = e') :
    Left X σ s w (.slice (old ++ new) (n + m) (.tok t e')) s' ((do pure (Next.value (← Builtin.append_ ts ty #[.slice base n sCap, uy])) : Sem Next).run P w) := by
  obtain ⟨z, hz⟩ := h.z
  obtain ⟨zu, i, hi, hzr, hzs⟩ := zeroRun hz
  have hik : i.size = k := by have := h.sz; simp [tsz, hi] at this; exact this
  have hrun := append_more (ty := ty) h hl hzr hfo hf hroom hb
  have hlvo := Rs_length _ _ hRo
  have hlvn := Rs_length _ _ hRn
  have hge := grownCap_ge w (n + m) sCap e
  have hdr : Step X σ s.get w σ s.get w.drew := Step.heap_same hI hI.below.drew rfl
  have hst := Step.newTok (g' := s'.get) (slack := grownCap w (n + m) sCap e - (n + m)) hdr.inv (vo.toArray ++ vn.toArray ++ Builtin.zeroCells zu.cells (grownCap w (n + m) sCap e - (n + m))) e hg hold ((n + m) * k) hT
    (by simp only [Array.size_append, List.size_toArray, size_zeroCells, hzs, hik, Nat.add_mul]; omega) (by rw [hne])
  refine ⟨_, _, _, hdr.trans hst, ?_, .inl (run_nv hrun)⟩
  simp only [R]
  refine .inl ⟨w.heap.size, 0, grownCap w (n + m) sCap e, rfl, hge, ⟨grownCap w (n + m) sCap e - (n + m), k, ?_, by omega⟩, ?_⟩
  · simp only [Gh.tok, List.length_append, hlo, hln, ← Nat.add_mul, Nat.zero_add, and_self, if_true]
    rfl
  · have hR : Rs σ (old ++ new) (vo ++ vn) := Rs_append hRo hRn
    have hal : alAll (dm s.get) (old ++ new) = true := by rw [alAll_append, halo, haln]; rfl
    refine RC_of (vs := vo ++ vn) (Rs_mono hst.ext _ _ hal hR) fun j v hv => ?_
    have hj : j < vo.length + vn.length := by have := (List.getElem?_eq_some_iff.1 hv).1; simpa using this
    refine .inr ⟨rfl, by omega, by rw [Nat.add_mul]; omega, ?_⟩
    rw [Nat.zero_add, Array.getElem?_append_left (by simp; omega)]
    simpa using hv

theorem app_left (hw : Whole s) (hI : Inv X σ s.get w) {k by' : Nat} {ts : Array TypeId} {e ty : TypeId} {x y : AV} {ux uy : Value} (h : AppT P ts e k by') (hx : R σ x ux) (hy : R σ y uy) (hax : x.al (below s.next) = true) (hay : y.al (below s.next) = true)
    (he : appendA s e k by' x y = some (v, s')) : Left X σ s w v s' ((do pure (Next.value (← Builtin.append_ ts ty #[ux, uy])) : Sem Next).run P w) := by
  unfold appendA at he
  split at he
  case h_2 => cases he
  rename_i new m hnew hm
  split at he
  · cases he
  rename_i hone
  have hone' : new.all AV.one = true := by simpa using hone
  obtain ⟨hl, hln, vn, hRn, hf⟩ := cellsOf_R (P := P) hI hy hnew hm
  have haln : alAll (below s.next) new = true := cellsOf_al hw hay hnew
  have hlvn := Rs_length _ _ hRn
  have hfm : ∀ w2 : World, w2.heap = w.heap → (Builtin.firstCells k m uy).run P w2 = .ok vn.toArray w2 := fun w2 h2 => by
    rw [hf w2 m h2 (Nat.le_refl _), List.take_of_length_le (by omega)]
  -- nothing to be laid
  have none_left : ∀ {base : Option Addr} {n sCap : Nat} {x' : AV}, ux = .slice base n sCap → n ≤ sCap → m = 0 → R σ x' ux → Left X σ s w x' s ((do pure (Next.value (← Builtin.append_ ts ty #[ux, uy])) : Sem Next).run P w) := by
    intro base n sCap x' hu hn hm0 hR
    subst hu
    have hvn : vn = [] := List.eq_nil_of_length_eq_zero (by rw [hlvn, hln, hm0]; simp)
    subst hvn
    refine Left.same hI (run_nv (u := .slice base n sCap) ?_) hR
    rw [append_fit h hl (hfm w rfl) (by omega)]
    cases base <;> simp [storeCells, hm0]
  -- a token that is new
  have fresh : ∀ {old : List AV} {vo : List Value} {base : Option Addr} {n sCap : Nat}, ux = .slice base n sCap → alAll (below s.next) old = true → old.length = n * k → Rs σ old vo →
      (∀ w2 : World, w2.heap = w.heap → (Builtin.firstCells k n (.slice base n sCap)).run P w2 = .ok vo.toArray w2) → sCap < n + m → (n + m) * by' ≤ room →
      Left X σ s w (.slice (old ++ new.map AV.strip) (n + m) (.tok s.next (n + m))) (s.new (.tok e (n + m) k)) ((do pure (Next.value (← Builtin.append_ ts ty #[ux, uy])) : Sem Next).run P w) := by
    intro old vo base n sCap hu hao hlo hRo hfo hroom hb
    subst hu
    have hcl := Step.clear hI (next_none hw)
    have hxt : Ext (below s.next) σ (σ.clear s.next) := by rw [← dm_get hw]; exact hcl.ext
    obtain ⟨u, w', σ', h1, h2, h3⟩ := grow_left (s' := s.new (.tok e (n + m) k)) (ty := ty) hcl.inv h (new_get s _) (.inl (next_none hw)) (fun e'' _ => by simp [Gh.clear]) (by rw [dm_get hw]; exact hao) (by rw [dm_get hw]; exact alAll_strip haln) hlo (by simpa using hln)
      (Rs_mono hxt _ _ hao hRo) (Rs_strip (Rs_mono hxt _ _ haln hRn)) hl (hfo w.drew rfl) (hfm w.drew rfl) hroom hb rfl
    exact ⟨u, w', σ', hcl.trans h1, h2, h3⟩
  dsimp only at he
  split at he
  · simp only [R] at hx
    split at he
    · rename_i hm0; cases he; exact none_left hx (Nat.le_refl _) hm0 (by simpa only [R] using hx)
    · rename_i hm0
      split at he <;> cases he
      rename_i hb
      have := fresh (old := []) (vo := []) hx rfl (by simp) (by simp [Rs]) (fun w2 _ => by simp [Builtin.firstCells]) (by omega) (by simpa using hb)
      simpa using this
  · rename_i cs n own
    split at he
    case isFalse => cases he
    rename_i hcl
    have hx0 := hx
    simp only [R] at hx
    simp only [AV.al, Bool.and_eq_true] at hax
    rcases hx with ⟨b, o, cap, hu, hnc, hown, hRC⟩ | ⟨rfl, rfl, hno, ad, hu⟩
    case inr =>
      split at he
      · rename_i hm0; cases he; exact none_left hu (Nat.le_refl _) hm0 hx0
      · rename_i hm0
        split at he
        case isFalse => cases he
        rename_i hb
        split at he
        · cases he
          exact fresh (old := []) (vo := []) hu rfl (by simp) (by simp [Rs]) (fun w2 _ => by simp [Builtin.firstCells, loadCells, loadCellsFrom]) (by omega) hb
        · rename_i t e0; exact absurd rfl (hno t e0)
        · cases he
    obtain ⟨vo, hRo, hvo⟩ := cells_RC hI.gh _ _ _ hRC
    have hlvo := Rs_length _ _ hRo
    have hfo : ∀ w2 : World, w2.heap = w.heap → (Builtin.firstCells k n (.slice (some ⟨b, o, none⟩) n cap)).run P w2 = .ok vo.toArray w2 := fun w2 h2 =>
      run_firstCells_some w2 k n ⟨b, o, none⟩ n cap vo (by omega) fun j v hv => by rw [addr_add, cell_same (w := w) (by rw [h2])]; exact hvo j v hv
    split at he
    · rename_i hm0; cases he; exact none_left hu hnc hm0 hx0
    rename_i hm0
    split at he
    case isFalse => cases he
    rename_i hb
    split at he
    · -- full
      cases he
      simp only [OwnOk] at hown
      exact fresh hu hax.2 hcl hRo hfo (by omega) hb
    · -- owned
      rename_i t e0
      split at he
      case h_2 => cases he
      rename_i ty1 e1 z1 htok
      split at he
      case isFalse => cases he
      rename_i heq
      obtain ⟨hty1, he1, hz1, hne⟩ := heq
      have hty1' := hty1.symm
      subst hty1'
      have hz1' := hz1.symm
      have he1' := he1.symm
      subst hz1'; subst he1'
      cases he
      obtain ⟨slack, z2, hT, hcap⟩ := hown
      obtain ⟨_, ⟨b', eo', slack', hT', ⟨c, fr, hblk, hsz, hfr⟩, hnoG, hlater⟩, _⟩ := hI.obj t _ htok
      have hTT := hT.symm.trans hT'
      simp only [Option.some.injEq, Prod.mk.injEq] at hTT
      obtain ⟨hT1, hT2, hT3, hT4⟩ := hTT
      have hT4' := hT4.symm
      subst hT1 hT2 hT3 hT4'

      by_cases hroom : n + m ≤ cap
      · -- in place
        have hml : (m + (slack - m)) * k = slack * k := by congr 1; omega
        rw [Nat.add_mul] at hml
        have hst := run_storeCells_free P b (o + cs.length) e fr vn 0 c w hblk (fun j h1 _ => by omega) (by omega) (Rs_one hRn hone')
        simp only [Nat.add_zero] at hst
        have hsame : ∀ j, j < o + cs.length → (c.toList.take (o + cs.length) ++ vn ++ c.toList.drop (o + cs.length + vn.length)).toArray[j]? = c[j]? := fun j hj => by
          simp only [List.getElem?_toArray]
          rw [List.append_assoc, List.getElem?_append_left (by simp; omega), List.getElem?_take, if_pos hj]
          simp
        have hnew' : ∀ (j : Nat) (v : Value), vn[j]? = some v → (c.toList.take (o + cs.length) ++ vn ++ c.toList.drop (o + cs.length + vn.length)).toArray[o + cs.length + j]? = some v := fun j v hv => by
          have hj := (List.getElem?_eq_some_iff.1 hv).1
          simp only [List.getElem?_toArray]
          rw [List.append_assoc, List.getElem?_append_right (by simp; omega), List.getElem?_append_left (by simp; omega)]
          rw [← hv]; congr 1; simp; omega
        have hstep := Step.growTok (g' := (s.set t (.tok e (e0 + m) k)).get) (slack' := slack - m) hI htok (fun j => get_set' hw htok j) hT (by omega) hblk (o + cs.length + m * k) hsame (by simp; omega) (by omega) (by have := hfr.2.1; rw [Nat.add_mul]; omega)
        refine ⟨.slice (some ⟨b, o, none⟩) (n + m) cap, _, _, hstep, ?_, .inl (run_nv ?_)⟩
        · simp only [R]
          refine .inl ⟨b, o, cap, rfl, hroom, ⟨slack - m, k, ?_, by omega⟩, RC_append (RC_mono hstep.ext _ _ _ (by rw [dm_get hw]; exact hax.2) hRC) (RC_of (Rs_mono hstep.ext _ _ (by rw [dm_get hw]; exact alAll_strip haln) (Rs_strip hRn)) fun j v hv => ?_)⟩
          · simp only [Gh.tok, List.length_append, List.length_map, hln, and_self, if_true, Nat.add_assoc]
          · have hj := (List.getElem?_eq_some_iff.1 hv).1
            exact .inr ⟨rfl, by omega, by omega, hnew' j v hv⟩
        · rw [hu, append_fit h hl (hfm w rfl) hroom]
          simp only [addr_add, ← hcl, List.toList_toArray, hst, Result.andThen_ok]
      · -- a new row for the same token
        rw [hu]
        exact grow_left (old := cs) (new := new.map AV.strip) (s' := s.set t (.tok e (e0 + m) k)) (ty := ty) hI h (fun j => get_set' hw htok j) (.inr ⟨_, _, _, htok⟩) (fun e'' he'' => hlater e'' (by omega)) (by rw [dm_get hw]; exact hax.2) (by rw [dm_get hw]; exact alAll_strip haln) hcl (by simpa using hln) hRo (Rs_strip hRn) hl (hfo w.drew rfl) (hfm w.drew rfl) (by omega) hb (by omega)
    · cases he
  · rename_i id off n cap
    have hx0 := hx
    simp only [R] at hx; obtain ⟨c, hu, hnc, hcap⟩ := hx
    split at he
    · rename_i hm0; cases he; exact none_left hu hnc hm0 hx0
    · rename_i hm0
      split at he
      case h_2 => cases he
      rename_i c' old hold
      split at he
      case isFalse => cases he
      rename_i hcn
      split at he <;> cases he
      rename_i hb
      have hc' := hcap c' rfl
      obtain ⟨_, hlo, vo, hRo, hfo⟩ := cellsOf_R (P := P) hI hx0 hold rfl
      have hlvo := Rs_length _ _ hRo
      refine fresh (old := old.map AV.strip) hu (alAll_strip (cellsOf_al hw hax hold)) (by simpa using hlo) (Rs_strip hRo) (fun w2 h2 => ?_) (by omega) hb
      have := hfo w2 n h2 (Nat.le_refl _)
      rw [List.take_of_length_le (by omega)] at this
      rw [← hu]; exact this
  · cases he
end
end Fw


/- Every operation. -/
namespace Fw
open Go Go.RowKit

section
variable {P : Program} {X : Bs} {cx : Cx} {callee : Callee} {σ : Gh} {ρ : Env} {a : Act} {w w' : World} {s s' : St} {v : AV} {K : Act → World → Prop} {Q : Exit → Act → World → Prop}

theorem LeftG.wp {g g' : Hp} {ob : Oper} (h : LeftG X σ g w v g' ((execOp a.eval ob).run P w)) {a' : Act} (hK : ∀ σ' u w', Step X σ g w σ' g' w' → R σ' v u → K (a'.put ob.dst u) w') : ob.upon P a' K Q ((execOp a.eval ob).run P w) := by
  obtain ⟨u, w', σ', h1, h2, h3 | ⟨rfl, h3⟩⟩ := h
  · rw [h3]; exact hK σ' u w' h1 h2
  · rw [h3]; exact hK σ' _ w' h1 h2

theorem call_sound (hX : cx.gl = X.gl) (hGl : cx.GlOk) (hc : CallOk P X callee) (hw : Whole s) (hρ : alAll (below s.next) ρ = true) (hI : Inv X σ s.get w) (hE : EnvOk σ ρ a) {d : Option Tmp} {ty : TypeId} {ps : String} {af : Array Edge} {gd : Option (Nat × Bool)} {c : Call} {f : Operand} (hf : c.callee = .value f) {fx : IX} {xs : List IX}
    (h1 : cX f = some fx) (h2 : cXs c.args.toList = some xs) (hs1 : fx.shut = true) (hs2 : xs.all IX.shut = true) (he : evOp cx callee ρ s (.call fx xs) = some (v, s'))
    {a' : Act} (hK : ∀ σ' u w', Step X σ s.get w σ' s'.get w' → R σ' v u → K (a'.put d u) w') : Oper.upon P ⟨d, .call c, ty, ps, af, gd⟩ a' K Q ((execOp a.eval ⟨d, .call c, ty, ps, af, gd⟩).run P w) := by
  have hG := hI.Gls hX
  simp only [evOp] at he
  split at he
  · rename_i g p q hfe
    simp only [Option.bind_eq_some_iff] at he; obtain ⟨vs, h3, h4⟩ := he
    have hfR := ev_R hG hE h1 hfe
    simp only [R] at hfR; obtain ⟨xp, xq, hfu, hp, hq⟩ := hfR
    have hargs := evs_R hG hE _ h2 h3
    have hal : alAll (below s.next) (p ++ vs ++ q) = true := by
      have ha := ev_al hGl hρ hs1 hfe
      simp only [AV.al, Bool.and_eq_true] at ha
      rw [alAll_append, alAll_append, ha.1, ha.2, evs_al hGl hρ xs hs2 h3]; rfl
    have hR : Rs σ (p ++ vs ++ q) (xp.toList ++ c.args.toList.map a.eval ++ xq.toList) := Rs_append (Rs_append hp hargs) hq
    have hdo := hc g _ s v s' hw hal h4 σ w _ hI hR
    have hrun : (execOp a.eval ⟨d, .call c, ty, ps, af, gd⟩).run P w = (callFunc g (xp.toList ++ c.args.toList.map a.eval ++ xq.toList).toArray).run P w := by
      simp only [execOp, resolve, hf, hfu, Deferred.ofValue, Sem.run_bind, Sem.run_pure, Result.andThen_ok, invoke]
      congr 2
      apply Array.ext'
      simp
    rw [hrun]
    exact hdo _ a' K Q fun u w' hA => by obtain ⟨σ', h5, h6⟩ := hA; exact hK σ' u w' h5 h6
  · cases he

theorem cXs_one {xs : Array Operand} {x : IX} (h : cXs xs.toList = some [x]) : ∃ x0, xs = #[x0] ∧ cX x0 = some x := by
  obtain ⟨l⟩ := xs
  match l, h with
  | [], h => simp [cXs] at h
  | [a], h => simp [cXs, Option.bind_eq_some_iff] at h; exact ⟨a, rfl, h⟩
  | a :: b :: l, h => simp [cXs, Option.bind_eq_some_iff] at h
theorem cXs_two {xs : Array Operand} {x y : IX} (h : cXs xs.toList = some [x, y]) : ∃ x0 y0, xs = #[x0, y0] ∧ cX x0 = some x ∧ cX y0 = some y := by
  obtain ⟨l⟩ := xs
  match l, h with
  | [], h => simp [cXs] at h
  | [a], h => simp [cXs, Option.bind_eq_some_iff] at h
  | [a, b], h => simp [cXs, Option.bind_eq_some_iff] at h; exact ⟨a, b, rfl, h⟩
  | a :: b :: c :: l, h => simp [cXs, Option.bind_eq_some_iff] at h

theorem bytesOf_R : ∀ (cs : List AV) {b : List UInt8} {vs : List Value}, bytesOf cs = some b → Rs σ cs vs → ∃ ns : List Int, vs = ns.map (Value.int .u8) ∧ b = ns.map fun n => UInt8.ofNat n.toNat
  | [], b, vs, h, hR => by
    simp only [bytesOf, Option.some.injEq] at h; subst h
    simp only [Rs] at hR; subst hR
    exact ⟨[], rfl, rfl⟩
  | c :: cs, b, vs, h, hR => by
    unfold bytesOf at h
    split at h
    · rename_i h0; cases h0
    · rename_i n cs' h0
      cases h0
      simp only [Option.map_eq_some_iff] at h; obtain ⟨b', h1, rfl⟩ := h
      simp only [Rs, R] at hR; obtain ⟨_, rest, rfl, rfl, h2⟩ := hR
      obtain ⟨ns, rfl, rfl⟩ := bytesOf_R cs h1 h2
      exact ⟨n :: ns, rfl, rfl⟩
    · cases h

theorem fold_bytes : ∀ (ns : List Int) (r : ByteArray), ns.foldl (fun r n => r.push (UInt8.ofNat n.toNat)) r = ⟨r.data ++ (ns.map fun n => UInt8.ofNat n.toNat).toArray⟩
  | [], r => by simp
  | n :: ns, r => by
    simp only [List.foldl_cons]
    rw [fold_bytes ns]
    simp [ByteArray.push]

theorem b2s_left (hI : Inv X σ s.get w) {src dst e : TypeId} {x : AV} {u : Value} {b : List UInt8} (hs : P.underlying src = some (.slice e)) (hd : P.underlying dst = some .string) (he : P.underlying e = some (.int .u8)) (hx : R σ x u)
    (hc : x = .nilslice ∧ b = [] ∨ (∀ t, x ≠ .str t) ∧ x ≠ .nilslice ∧ ∃ cs, cellsOf s 1 x = some cs ∧ bytesOf cs = some b) :
    Left X σ s w (.str b) s ((do pure (Next.value (← convert src dst u)) : Sem Next).run P w) := by
  rcases hc with ⟨rfl, rfl⟩ | ⟨h1, h2, cs, h3, h4⟩
  · simp only [R] at hx; subst hx
    refine Left.same hI (run_nv (u := .string .empty) ?_) rfl
    rw [run_convert_bytes_string w src dst e _ _ _ hs he hd]; rfl
  · obtain ⟨n, hn⟩ : ∃ n, x.count = some n := by
      cases x <;> simp [cellsOf] at h3 <;> exact ⟨_, rfl⟩
    obtain ⟨h5, h6, vs, h7, h8⟩ := cellsOf_R (P := P) hI hx h3 hn
    obtain ⟨ns, rfl, rfl⟩ := bytesOf_R cs h4 h7
    have hl := Rs_length _ _ h7
    have h9 := h8 w n rfl (Nat.le_refl _)
    rw [List.take_of_length_le (by omega)] at h9
    obtain ⟨a, cap, hu⟩ : ∃ a cap, u = .slice (some a) n cap := by
      cases x <;> simp [cellsOf] at h3
      · exact absurd rfl (h1 _)
      · exact absurd rfl h2
      · simp only [R] at hx; simp only [AV.count, Option.some.injEq] at hn; subst hn
        rcases hx with ⟨b, o, cap, rfl, _⟩ | ⟨_, rfl, _, a, rfl⟩ <;> exact ⟨_, _, rfl⟩
      · simp only [R] at hx; obtain ⟨c, rfl, _⟩ := hx; simp only [AV.count, Option.some.injEq] at hn; subst hn; exact ⟨_, _, rfl⟩
    subst hu
    simp only [Builtin.firstCells, Nat.mul_one] at h9
    have h10 := run_bytesToString w a n cap ns h9
    rw [fold_bytes] at h10
    refine Left.same hI (run_nv (u := .string ⟨(ns.map fun n : Int => UInt8.ofNat n.toNat).toArray⟩) ?_) rfl
    rw [run_convert_bytes_string w src dst e _ _ _ hs he hd, h10]
    congr 3
    simp

theorem op_sound (hX : cx.gl = X.gl) (hGl : cx.GlOk) (hc : CallOk P X callee) (hw : Whole s) (hρ : alAll (below s.next) ρ = true) (hI : Inv X σ s.get w) (hE : EnvOk σ ρ a) {ob : Oper} {io : IOp} (hcO : cOp P ob.op = some io) (hsh : io.shut = true)
    (he : evOp cx callee ρ s io = some (v, s')) {a' : Act} (hK : ∀ σ' u w', Step X σ s.get w σ' s'.get w' → R σ' v u → K (a'.put ob.dst u) w') : ob.upon P a' K Q ((execOp a.eval ob).run P w) := by
  have hG := hI.Gls hX
  by_cases hpl : io.plain = true ∧ ∀ z n ps, io ≠ .bslice z n ps
  · obtain ⟨u, h1, h2⟩ := plain_R hG hE hcO hpl.1 hpl.2 he w
    have := evOp_plain_state hpl.1 he; subst this
    rw [h1]; exact hK σ u w (Step.refl hI) h2
  have hnp : ∀ (h : io.plain = true), ∃ z n ps, io = .bslice z n ps := fun h => by
    by_cases hh : ∃ z n ps, io = .bslice z n ps
    · exact hh
    · exact absurd ⟨h, fun z n ps e => hh ⟨z, n, ps, e⟩⟩ hpl
  obtain ⟨d, o, ty, ps, af, gd⟩ := ob
  dsimp only at hcO
  cases o
  case makeFunc fn first cap =>
    cases fn <;> simp only [cOp] at hcO <;> try (cases hcO; done)
    simp only [Option.bind_eq_some_iff, Option.map_eq_some_iff] at hcO; obtain ⟨x, h1, y, h2, rfl⟩ := hcO
    obtain ⟨z, n, ps, h⟩ := hnp rfl; cases h
  case makeMap t r =>
    cases r <;> simp only [cOp] at hcO <;> cases hcO
    cases he
    exact (mkmap_left hw hI (t := t)).wp hK
  case alloc t =>
    simp only [cOp, Option.map_eq_some_iff] at hcO; obtain ⟨z, h1, rfl⟩ := hcO
    cases he
    exact (alloc_left hw hI h1 hsh).wp hK
  case box t x =>
    simp only [cOp, Option.map_eq_some_iff] at hcO; obtain ⟨ix, h1, rfl⟩ := hcO
    simp only [evOp, Option.map_eq_some_iff] at he; obtain ⟨b, h2, h3⟩ := he; cases h3
    exact (box_left hw hI (ev_R hG hE h1 h2) (ev_al hGl hρ hsh h2)).wp hK
  case buildSlice t len parts =>
    simp only [cOp] at hcO
    split at hcO
    · rename_i e ht
      simp only [Option.bind_eq_some_iff] at hcO; obtain ⟨n, h1, z, h2, h3⟩ := hcO
      split at h3
      · cases h3
      · rename_i hlim
        simp only [Option.map_eq_some_iff] at h3; obtain ⟨ips, h4, rfl⟩ := h3
        simp only [evOp, Option.map_eq_some_iff] at he; obtain ⟨cs, h5, h6⟩ := he; cases h6
        simp only [IOp.shut, Bool.and_eq_true] at hsh
        exact (bslice_left hI hG hE ht h1 h2 hlim h4 h5 (by rw [dm_get hw]; exact fillA_al hGl hρ ips _ _ hsh.2 (alAll_false hsh.1) h5)).wp hK
    · cases hcO
  case load t x =>
    simp only [cOp, Option.bind_eq_some_iff, Option.map_eq_some_iff] at hcO; obtain ⟨ix, h1, g, h2, n, h3, rfl⟩ := hcO
    simp only [evOp, Option.bind_eq_some_iff, Option.map_eq_some_iff] at he; obtain ⟨r, ⟨b, h4, h5⟩, h6⟩ := he; cases h6
    exact (load_left hI h2 h3 (ev_R hG hE h1 h4) h5).wp hK
  case store t x y =>
    simp only [cOp, Option.bind_eq_some_iff, Option.map_eq_some_iff] at hcO; obtain ⟨ix, h1, iy, h2, n, h3, rfl⟩ := hcO
    simp only [evOp, Option.bind_eq_some_iff, Option.map_eq_some_iff] at he; obtain ⟨b, h4, c, h5, t', h6, h7⟩ := he; cases h7
    simp only [IOp.shut, Bool.and_eq_true] at hsh
    exact (store_left hw hI h3 (ev_R hG hE h1 h4) (ev_R hG hE h2 h5) (ev_al hGl hρ hsh.2 h5) h6).wp hK
  case lookup t m k ok =>
    simp only [cOp] at hcO
    split at hcO
    · rename_i kt et ht
      simp only [Option.bind_eq_some_iff, Option.map_eq_some_iff] at hcO; obtain ⟨kk, h1, z, h2, im, h3, ik, h4, rfl⟩ := hcO
      simp only [evOp, Option.bind_eq_some_iff, Option.map_eq_some_iff] at he; obtain ⟨m', h5, k', h6, es, h7, r, h8, h9⟩ := he; cases h9
      exact (look_left hI ht h1 h2 (ev_R hG hE h3 h5) (ev_R hG hE h4 h6) h7 h8).wp hK
    · cases hcO
  case mapUpdate t m k x =>
    simp only [cOp] at hcO
    split at hcO
    · rename_i kt et ht
      simp only [Option.bind_eq_some_iff, Option.map_eq_some_iff] at hcO; obtain ⟨kk, h1, im, h3, ik, h4, ix, h5, rfl⟩ := hcO
      simp only [evOp, Option.bind_eq_some_iff] at he; obtain ⟨m', h6, k', h7, x', h8, h9⟩ := he
      simp only [IOp.shut, Bool.and_eq_true] at hsh
      split at h9
      · rename_i id
        split at h9
        · rename_i es hes
          simp only [Option.map_eq_some_iff] at h9; obtain ⟨es', h10, h11⟩ := h9; cases h11
          exact (mupd_left hw hI ht h1 (ev_R hG hE h3 h6) (ev_R hG hE h4 h7) (ev_R hG hE h5 h8) (ev_al hGl hρ hsh.1.2 h7) (ev_al hGl hρ hsh.2 h8) hes h10).wp hK
        · cases h9
      · cases h9
    · cases hcO
  case insert t m k x =>
    simp only [cOp] at hcO
    split at hcO
    · rename_i kt et ht
      simp only [Option.bind_eq_some_iff, Option.map_eq_some_iff] at hcO; obtain ⟨kk, h1, im, h3, ik, h4, ix, h5, rfl⟩ := hcO
      simp only [evOp, Option.bind_eq_some_iff] at he; obtain ⟨m', h6, k', h7, x', h8, h9⟩ := he
      simp only [IOp.shut, Bool.and_eq_true] at hsh
      split at h9
      · rename_i id
        split at h9
        · rename_i es hes
          simp only [Option.map_eq_some_iff] at h9; obtain ⟨es', h10, h11⟩ := h9; cases h11
          exact (mupd_left hw hI ht h1 (ev_R hG hE h3 h6) (ev_R hG hE h4 h7) (ev_R hG hE h5 h8) (ev_al hGl hρ hsh.1.2 h7) (ev_al hGl hρ hsh.2 h8) hes h10).wp hK
        · cases h9
      · cases h9
    · cases hcO
  case makeSlice t l c =>
    simp only [cOp] at hcO
    split at hcO
    · rename_i e ht
      simp only [Option.bind_eq_some_iff] at hcO; obtain ⟨z, h1, n, h2, by', h3, h4⟩ := hcO
      split at h4
      · cases h4
      · rename_i h0
        simp only [Option.bind_eq_some_iff, Option.map_eq_some_iff] at h4; obtain ⟨il, h5, ic, h6, rfl⟩ := h4
        simp only [evOp, Option.bind_eq_some_iff] at he; obtain ⟨l', h7, c', h8, h9⟩ := he
        simp only [IOp.shut, Bool.and_eq_true] at hsh
        split at h9
        · rename_i l0 c0
          split at h9
          · rename_i hq
            cases h9
            exact (mkslice_left hw hI ht h2 h3 h1 hsh.1.1 (ev_R hG hE h5 h7) (ev_R hG hE h6 h8) hq.1 hq.2.1 hq.2.2 (by omega)).wp hK
          · cases h9
        · cases h9
    · cases hcO
  case convert src dst x =>
    simp only [cOp, cConv, Option.bind_eq_some_iff] at hcO; obtain ⟨ix, h1, h2⟩ := hcO
    split at h2
    · cases h2; obtain ⟨z, n, ps, h⟩ := hnp rfl; cases h
    · cases h2; obtain ⟨z, n, ps, h⟩ := hnp rfl; cases h
    · rename_i e hs hd
      split at h2
      · rename_i heu
        cases h2
        simp only [evOp] at he
        split at he
        · rename_i ht; cases he
          exact (b2s_left hI hs hd heu (ev_R hG hE h1 ht) (.inl ⟨rfl, rfl⟩)).wp hK
        · cases he
        · rename_i x' hn1 hn2 ht
          simp only [Option.map_eq_some_iff, Option.bind_eq_some_iff] at he; obtain ⟨b, ⟨cs, h3, h4⟩, h5⟩ := he; cases h5
          exact (b2s_left hI hs hd heu (ev_R hG hE h1 ht) (.inr ⟨fun t e => hn2 t (e ▸ rfl), fun e => hn1 (e ▸ rfl), cs, h3, h4⟩)).wp hK
        · cases he
      · cases h2
    · rename_i e hs hd
      split at h2
      · rename_i heu
        cases h2
        simp only [evOp] at he
        split at he
        · rename_i t ht
          cases he
          exact (s2b_left hw hI hs hd heu (ev_R hG hE h1 ht)).wp hK
        · cases he
      · cases h2
    · cases h2; obtain ⟨z, n, ps, h⟩ := hnp rfl; cases h
    · cases h2
  case call c =>
    simp only [cOp] at hcO
    split at hcO
    · rename_i f hf
      simp only [Option.bind_eq_some_iff, Option.map_eq_some_iff] at hcO; obtain ⟨fx, h1, xs, h2, rfl⟩ := hcO
      simp only [IOp.shut, Bool.and_eq_true] at hsh
      exact call_sound hX hGl hc hw hρ hI hE hf h1 h2 hsh.1 hsh.2 he hK
    · rename_i b hb
      simp only [cBuiltin, Option.bind_eq_some_iff] at hcO; obtain ⟨xs, h1, h2⟩ := hcO
      obtain ⟨cal, args, ats⟩ := c
      dsimp only at hb h1 h2
      subst hb
      have hrun : ∀ (x : Sem Value), (∀ cs, builtin b ats ty cs (args.map a.eval) = (do pure (Next.value (← x)) : Sem Next)) →
          (execOp a.eval ⟨d, .call ⟨.builtin b, args, ats⟩, ty, ps, af, gd⟩).run P w = (do pure (Next.value (← x)) : Sem Next).run P w := fun x hx => by
        simp only [execOp, resolve, Sem.run_bind, Sem.run_pure, Result.andThen_ok, invoke]
        rw [hx]
        simp only [Sem.run_bind, Sem.run_pure]
      split at h2
      · rename_i x
        have hargs := cXs_one h1
        obtain ⟨x0, rfl, hx0⟩ := hargs
        split at h2
        · cases h2; obtain ⟨z, n, ps, h⟩ := hnp rfl; cases h
        · cases h2; obtain ⟨z, n, ps, h⟩ := hnp rfl; cases h
        · rename_i kt et ht
          cases h2
          simp only [evOp, Option.bind_eq_some_iff, Option.map_eq_some_iff] at he; obtain ⟨es, ⟨m, h3, h4⟩, h5⟩ := he; cases h5
          simp only [Option.bind_eq_some_iff] at ht; obtain ⟨t, ht1, ht2⟩ := ht
          refine LeftG.wp ?_ hK
          rw [hrun (Builtin.len_ ats ty #[a.eval x0]) (fun cs => by simp [builtin])]
          exact lenm_left hI ht1 ht2 (ev_R hG hE hx0 h3) h4
        · cases h2; obtain ⟨z, n, ps, h⟩ := hnp rfl; cases h
        · cases h2
      · cases h2; obtain ⟨z, n, ps, h⟩ := hnp rfl; cases h
      · cases h2; obtain ⟨z, n, ps, h⟩ := hnp rfl; cases h
      · rename_i x y
        have hargs := cXs_two h1
        obtain ⟨x0, y0, rfl, hx0, hy0⟩ := hargs
        split at h2
        · rename_i e dd ht1 ht2
          split at h2
          · cases h2
          · rename_i hni
            simp only [Option.bind_eq_some_iff] at h2 ht1 ht2; obtain ⟨n, h3, k, h4, z, h5, h6⟩ := h2
            split at h6 <;> cases h6
            rename_i h0
            simp only [evOp, Option.bind_eq_some_iff] at he; obtain ⟨a', h7, b', h8, h9⟩ := he
            simp only [IOp.shut, Bool.and_eq_true] at hsh
            obtain ⟨t1, h10, h11⟩ := ht1
            obtain ⟨t2, h12, h13⟩ := ht2
            refine LeftG.wp ?_ hK
            rw [hrun (Builtin.append_ ats ty #[a.eval x0, a.eval y0]) (fun cs => by simp [builtin])]
            exact app_left hw hI ⟨⟨t1, h10, h11⟩, ⟨t2, dd, h12, h13, fun i e => hni i e⟩, h3, h4, ⟨z, h5⟩, fun e => h0 (.inl e), fun e => h0 (.inr e)⟩ (ev_R hG hE hx0 h7) (ev_R hG hE hy0 h8) (ev_al hGl hρ hsh.1 h7) (ev_al hGl hρ hsh.2 h8) h9
        · cases h2
      · rename_i x y
        have hargs := cXs_two h1
        obtain ⟨x0, y0, rfl, hx0, hy0⟩ := hargs
        split at h2
        · rename_i e ht
          simp only [Option.map_eq_some_iff] at h2; obtain ⟨n, h3, rfl⟩ := h2
          simp only [Option.bind_eq_some_iff] at ht; obtain ⟨t, ht1, ht2⟩ := ht
          simp only [evOp, Option.bind_eq_some_iff] at he; obtain ⟨a', h7, b', h8, h9⟩ := he
          simp only [IOp.shut, Bool.and_eq_true] at hsh
          refine LeftG.wp ?_ hK
          rw [hrun (Builtin.copy_ ats ty #[a.eval x0, a.eval y0]) (fun cs => by simp [builtin])]
          exact copy_left hw hI ht1 ht2 h3 (ev_R hG hE hx0 h7) (ev_R hG hE hy0 h8) (ev_al hGl hρ hsh.2 h8) h9
        · cases h2
      · rename_i x
        have hargs := cXs_one h1
        obtain ⟨x0, rfl, hx0⟩ := hargs
        split at h2
        · rename_i e ht
          simp only [Option.map_eq_some_iff] at h2; obtain ⟨n, h3, rfl⟩ := h2
          simp only [Option.bind_eq_some_iff] at ht; obtain ⟨t, ht1, ht2⟩ := ht
          simp only [evOp, Option.bind_eq_some_iff] at he; obtain ⟨a', h7, h9⟩ := he
          simp only [IOp.shut, Bool.and_eq_true] at hsh
          refine LeftG.wp ?_ hK
          rw [hrun (Builtin.clear_ ats ty #[a.eval x0]) (fun cs => by simp [builtin])]
          exact clear_left hw hI ht1 ht2 h3 hsh.1 (ev_R hG hE hx0 h7) h9
        · cases h2
      · cases h2
    · cases hcO
  all_goals simp only [cOp] at hcO
  all_goals try (cases hcO; done)
  case move x => simp only [Option.map_eq_some_iff] at hcO; obtain ⟨_, _, rfl⟩ := hcO; obtain ⟨z, n, ps, h⟩ := hnp rfl; cases h
  case assign x => simp only [Option.map_eq_some_iff] at hcO; obtain ⟨_, _, rfl⟩ := hcO; obtain ⟨z, n, ps, h⟩ := hnp rfl; cases h
  case nilCheck x => simp only [Option.map_eq_some_iff] at hcO; obtain ⟨_, _, rfl⟩ := hcO; obtain ⟨z, n, ps, h⟩ := hnp rfl; cases h
  case unOp x => simp only [Option.map_eq_some_iff] at hcO; obtain ⟨_, _, rfl⟩ := hcO; obtain ⟨z, n, ps, h⟩ := hnp rfl; cases h
  case extract x => simp only [Option.map_eq_some_iff] at hcO; obtain ⟨_, _, rfl⟩ := hcO; obtain ⟨z, n, ps, h⟩ := hnp rfl; cases h
  case pick x => simp only [Option.bind_eq_some_iff, Option.map_eq_some_iff] at hcO; obtain ⟨_, _, _, _, _, _, rfl⟩ := hcO; obtain ⟨z, n, ps, h⟩ := hnp rfl; cases h
  case build x =>
    simp only [Option.bind_eq_some_iff] at hcO; obtain ⟨_, _, h2⟩ := hcO
    split at h2
    · simp only [Option.bind_eq_some_iff, Option.map_eq_some_iff] at h2; obtain ⟨_, _, _, _, rfl⟩ := h2; obtain ⟨z, n, ps, h⟩ := hnp rfl; cases h
    · simp only [Option.bind_eq_some_iff, Option.map_eq_some_iff] at h2; obtain ⟨_, _, _, _, rfl⟩ := h2; obtain ⟨z, n, ps, h⟩ := hnp rfl; cases h
    · cases h2
  case binOp op t x y z =>
    simp only [cBin, Option.bind_eq_some_iff] at hcO; obtain ⟨_, _, _, _, h2⟩ := hcO
    split at h2
    · split at h2
      all_goals first
        | (cases h2; done)
        | (cases h2; obtain ⟨z, n, ps, h⟩ := hnp rfl; cases h; done)
        | (split at h2 <;> first | (cases h2; done) | (cases h2; obtain ⟨z, n, ps, h⟩ := hnp rfl; cases h; done) | (simp only [Option.map_eq_some_iff] at h2; obtain ⟨_, _, rfl⟩ := h2; obtain ⟨z, n, ps, h⟩ := hnp rfl; cases h; done))
    · cases h2; obtain ⟨z, n, ps, h⟩ := hnp rfl; cases h
  case slice t x lo hi m3 =>
    simp only [cSlice, Option.bind_eq_some_iff] at hcO; obtain ⟨_, _, _, _, _, _, _, _, h2⟩ := hcO
    split at h2
    · split at h2 <;> cases h2; obtain ⟨z, n, ps, h⟩ := hnp rfl; cases h
    · simp only [Option.map_eq_some_iff] at h2; obtain ⟨_, _, rfl⟩ := h2; obtain ⟨z, n, ps, h⟩ := hnp rfl; cases h
    · simp only [Option.map_eq_some_iff] at h2; obtain ⟨_, _, rfl⟩ := h2; obtain ⟨z, n, ps, h⟩ := hnp rfl; cases h
    · split at h2
      · simp only [Option.map_eq_some_iff] at h2; obtain ⟨_, _, rfl⟩ := h2; obtain ⟨z, n, ps, h⟩ := hnp rfl; cases h
      · cases h2
    · cases h2
  case fieldAddr t x i =>
    split at hcO
    · simp only [Option.bind_eq_some_iff] at hcO; obtain ⟨_, _, _, _, h2⟩ := hcO
      split at h2
      · cases h2
      · simp only [Option.map_eq_some_iff] at h2; obtain ⟨_, _, rfl⟩ := h2; obtain ⟨z, n, ps, h⟩ := hnp rfl; cases h
    · cases hcO
  case field t x i =>
    split at hcO
    · simp only [Option.bind_eq_some_iff, Option.map_eq_some_iff] at hcO; obtain ⟨_, _, _, _, _, _, _, _, rfl⟩ := hcO; obtain ⟨z, n, ps, h⟩ := hnp rfl; cases h
    · cases hcO
  case indexAddr t x i =>
    simp only [Option.bind_eq_some_iff] at hcO; obtain ⟨_, _, _, _, h2⟩ := hcO
    split at h2
    · simp only [Option.map_eq_some_iff] at h2; obtain ⟨_, _, rfl⟩ := h2; obtain ⟨z, n, ps, h⟩ := hnp rfl; cases h
    · simp only [Option.map_eq_some_iff] at h2; obtain ⟨_, _, rfl⟩ := h2; obtain ⟨z, n, ps, h⟩ := hnp rfl; cases h
    · cases h2
  case index t x i =>
    simp only [Option.bind_eq_some_iff] at hcO; obtain ⟨_, _, _, _, h2⟩ := hcO
    split at h2
    · simp only [Option.bind_eq_some_iff, Option.map_eq_some_iff] at h2; obtain ⟨_, _, _, _, rfl⟩ := h2; obtain ⟨z, n, ps, h⟩ := hnp rfl; cases h
    · cases h2; obtain ⟨z, n, ps, h⟩ := hnp rfl; cases h
    · cases h2
  case makeInterface t x =>
    split at hcO
    · cases hcO
    · simp only [Option.map_eq_some_iff] at hcO; obtain ⟨_, _, rfl⟩ := hcO; obtain ⟨z, n, ps, h⟩ := hnp rfl; cases h
    · cases hcO
end
end Fw


/- Whole functions: what the evaluator finds, the model does. The regions that draw their order come as a hypothesis. -/
namespace Fw
open Go Go.RowKit

section
variable {P : Program} {X : Bs} {cx : Cx} {callee : Callee} {σ σ' : Gh} {ρ ρ' : Env} {a : Act} {w w' : World} {s s' : St} {v : AV} {K : Act → World → Prop} {Q : Exit → Act → World → Prop}

structure Good (X : Bs) (σ : Gh) (s : St) (ρ : Env) (w : World) (a : Act) : Prop where
  whole : Whole s
  al : alAll (below s.next) ρ = true
  inv : Inv X σ s.get w
  env : EnvOk σ ρ a

theorem Rs_set {as : List AV} {vs : List Value} (h : Rs σ as vs) {u : Value} (hu : R σ v u) (d : Nat) : Rs σ (as.set d v) (vs.set d u) := by
  rw [Rs_iff] at h ⊢
  refine ⟨by simp [h.1], fun j x hx => ?_⟩
  rw [List.getElem?_set] at hx ⊢
  split at hx
  · rename_i hd
    subst hd
    split at hx
    · rename_i hl
      cases hx
      rw [if_pos rfl, if_pos (by rw [h.1]; exact hl)]
      exact ⟨u, rfl, hu⟩
    · cases hx
  · rename_i hd
    rw [if_neg hd]
    exact h.2 j x hx

theorem EnvOk.put (h : EnvOk σ ρ a) {u : Value} (hu : R σ v u) (d : Option Nat) : EnvOk σ (ρ.put d v) (a.put d u) := by
  cases d with
  | none => exact h
  | some d => exact ⟨by simpa [Env.put, Act.put] using Rs_set h.tmps hu d, h.defers⟩

theorem EnvOk.ext (h : EnvOk σ ρ a) {p : Nat → Bool} (hx : Ext p σ σ') (hal : alAll p ρ = true) : EnvOk σ' ρ a := ⟨Rs_mono hx _ _ hal h.tmps, h.defers⟩

theorem wants_R (hE : EnvOk σ ρ a) {ops : Array Oper} {o : Oper} {g : Option (Nat × Bool)} (hg : cGuard ops o.guard = some g) : Region.wanted o (yielded ops a.tmps) = wants ρ g := by
  unfold Region.wanted
  cases hgd : o.guard with
  | none => rw [hgd] at hg; simp only [cGuard, Option.some.injEq] at hg; subst hg; rfl
  | some jw =>
    obtain ⟨j, want⟩ := jw
    rw [hgd] at hg
    simp only [cGuard, Option.map_eq_some_iff] at hg; obtain ⟨t, h1, rfl⟩ := hg
    have hr := get_R hE t
    dsimp only
    simp only [wants, yielded, h1, Option.bind_some]
    have hl := Rs_length _ _ hE.tmps
    cases hx : a.tmps[t]? with
    | none =>
      have : ρ.get t = AV.undef := by
        rw [Array.getElem?_eq_none_iff] at hx
        simp only [Env.get, List.getD]
        rw [List.getElem?_eq_none (by simp at hl; omega)]; rfl
      rw [this]
      simp [AV.undef]
    | some u =>
      have : a.tmps.getD t undef = u := by simp [Array.getD_eq_getD_getElem?, hx]
      rw [this] at hr
      cases hb : ρ.get t <;> rw [hb] at hr <;> simp only [R] at hr
      case bool b => subst hr; cases b <;> cases want <;> rfl
      case int | str | nilptr | ptr | nilslice | nilmap | map | nilfunc | niliface => subst hr; rfl
      case vptr => obtain ⟨b, o, rfl, _⟩ := hr; rfl
      case slice => rcases hr with ⟨b, o, cap, rfl, _⟩ | ⟨_, _, _, a, rfl⟩ <;> rfl
      case mslice => obtain ⟨c, rfl, _⟩ := hr; rfl
      case func => obtain ⟨x, y, rfl, _⟩ := hr; rfl
      case iface => obtain ⟨u, rfl, _⟩ := hr; rfl
      case anyiface => obtain ⟨t, u, rfl⟩ := hr; rfl
      case agg => obtain ⟨x, rfl, _⟩ := hr; rfl
      case tuple => obtain ⟨x, rfl, _⟩ := hr; rfl

theorem oper_sound (hX : cx.gl = X.gl) (hGl : cx.GlOk) (hk : CalleeOk callee) (hc : CallOk P X callee) (hg : Good X σ s ρ w a) {ops : Array Oper} {o : Oper} {io : IOper} (hcO : cOper P ops o = some io) (hsh : io.op.shut = true)
    (he : evOper cx callee io ρ s = some (ρ', s')) (hK : ∀ σ' w' a', Step X σ s.get w σ' s'.get w' → Good X σ' s' ρ' w' a' → K a' w') :
    if Region.wanted o (yielded ops a.tmps) then o.wp P a w K Q ∨ (o.asks P a w ∧ LetsOut Q) else K (a.put o.dst undef) w := by
  simp only [cOper, Option.bind_eq_some_iff, Option.map_eq_some_iff] at hcO
  obtain ⟨op, h1, g, h2, rfl⟩ := hcO
  have hkept := evOper_kept hGl hk hg.whole hg.al hsh he
  rw [wants_R hg.env h2]
  unfold evOper at he
  dsimp only at he hsh
  split at he
  · rename_i hq
    rw [if_pos hq]
    simp only [Option.map_eq_some_iff] at he; obtain ⟨⟨v, t⟩, h3, h4⟩ := he; cases h4
    rcases cOpB_cases h1 with h1 | rfl
    case inr => simp [evOp] at h3
    refine .inl (op_sound hX hGl hc hg.whole hg.al hg.inv hg.env h1 hsh h3 fun σ' u w' hst hR => hK σ' w' _ hst ⟨hkept.1.whole, hkept.2, hst.inv, EnvOk.put (hg.env.ext hst.ext (by rw [dm_get hg.whole]; exact hg.al)) hR _⟩)
  · rename_i hq
    rw [if_neg hq]
    cases he
    exact hK σ w _ (Step.refl hg.inv) ⟨hg.whole, hkept.2, hg.inv, hg.env.put (R_undef σ) _⟩

theorem ops_sound (hX : cx.gl = X.gl) (hGl : cx.GlOk) (hk : CalleeOk callee) (hc : CallOk P X callee) {ops : Array Oper} : ∀ (os : List Oper) (k : Nat) {is : List IOper} {σ : Gh} {s : St} {ρ : Env} {w : World} {a : Act}, ops.toList.drop k = os → cOpers P ops os = some is → (is.all (·.op.shut)) = true →
    evOps cx callee is ρ s = some (ρ', s') → Good X σ s ρ w a → (∀ σ' w' a', Step X σ s.get w σ' s'.get w' → Good X σ' s' ρ' w' a' → Q .normal a' w') → wpOps P ops Q (List.range' k os.length) a w
  | [], k, is, σ, s, ρ, w, a, _, hc1, _, he, hg, hQ => by
    simp only [cOpers, Option.some.injEq] at hc1; subst hc1
    simp only [evOps, Option.some.injEq] at he; cases he
    exact hQ σ w a (Step.refl hg.inv) hg
  | o :: os, k, is, σ, s, ρ, w, a, hd, hc1, hsh, he, hg, hQ => by
    simp only [cOpers, Option.bind_eq_some_iff, Option.map_eq_some_iff] at hc1; obtain ⟨i, h1, is', h2, rfl⟩ := hc1
    simp only [evOps, Option.bind_eq_some_iff] at he; obtain ⟨⟨ρ1, s1⟩, h3, h4⟩ := he
    simp only [List.all_cons, Bool.and_eq_true] at hsh
    have hok : ops[k]? = some o := by
      have : (ops.toList.drop k)[0]? = some o := by rw [hd]; rfl
      rw [List.getElem?_drop] at this; simpa using this
    have hd' : ops.toList.drop (k + 1) = os := by
      have : (ops.toList.drop k).drop 1 = os := by rw [hd]; rfl
      rw [List.drop_drop] at this; exact this
    simp only [List.length_cons, List.range'_succ, wpOps, hok]
    refine oper_sound hX hGl hk hc hg h1 hsh.1 h3 fun σ1 w1 a1 hst1 hg1 => ?_
    exact ops_sound hX hGl hk hc os (k + 1) hd' h2 hsh.2 h4 hg1 fun σ2 w2 a2 hst2 hg2 => hQ σ2 w2 a2 (hst1.trans hst2) hg2

def Sig.toExit : Sig → Exit
  | .normal => .normal
  | .exit id => .exit id
  | .ret => .ret

/-- What is asked of a region that draws its order. -/
def DrawOk (P : Program) (X : Bs) (cx : Cx) : Prop := ∀ callee, CalleeOk callee → CallOk P X callee → ∀ id ops is s ρ s' ρ', cCode P (.region id ops true) = some (.dregion is) → (is.all (·.1.op.shut)) = true → evDraw cx callee is 0 [] ρ s = some (ρ', s') →
  ∀ σ w a Q, Good X σ s ρ w a → (∀ σ' w' a', Step X σ s.get w σ' s'.get w' → Good X σ' s' ρ' w' a' → Q .normal a' w') → (Code.region id ops true).wp P Q a w

def ExSound (P : Program) (X : Bs) (ex : Ex) : Prop := ∀ c ic ρ s g ρ' s', cCode P c = some ic → ic.shut = true → ex ic ρ s = some (g, ρ', s') →
  ∀ σ w a Q, Good X σ s ρ w a → (∀ σ' w' a', Step X σ s.get w σ' s'.get w' → Good X σ' s' ρ' w' a' → Q (Sig.toExit g) a' w') → c.wp P Q a w

def LoopSound (P : Program) (X : Bs) (ex : Ex) (k : Nat) : Prop := ∀ c ic ρ s g ρ' s', cCode P c = some ic → ic.shut = true → ex (.loop ic) ρ s = some (g, ρ', s') →
  ∀ σ w a Q, Good X σ s ρ w a → (∀ σ' w' a', Step X σ s.get w σ' s'.get w' → Good X σ' s' ρ' w' a' → Q (Sig.toExit g) a' w') → Code.rounds P c Q k a w

/-- The functions are the program's. -/
structure CxP (P : Program) (X : Bs) (cx : Cx) : Prop where
  ok : cx.Ok
  gl : cx.gl = X.gl
  fns : ∀ f ifn, cx.fns f = some ifn → ∃ fn, P.funcs[f]? = some fn ∧ cFunc P fn = some ifn
  ext : ∀ f g, cx.ext f = some g → ∀ args s v s', Whole s → alAll (below s.next) args = true → g args s = some (v, s') → ∀ σ w vs, Inv X σ s.get w → Rs σ args vs → Does P f vs.toArray w (Answer X σ s w v s')
  draw : DrawOk P X cx

theorem Step.part {g g' g'' : Hp} (h : Step X σ g w σ' g' w') (hg : ∀ id o, g'' id = some o → g' id = some o) (hs : ∀ id o, g'' id = some o → o.al (dm g'') = true) (hd : ∀ id, dm g id = true → dm g'' id = true) : Step X σ g w σ' g'' w' :=
  ⟨h.inv.part hg hs, h.ext, hd, h.size, h.frame, fun id o ho => h.own id o (hg id o ho), h.gnew⟩

theorem R_drop0 (n : Nat) {u : Value} (h : R σ v u) : R σ (v.drop0 n) u := by
  unfold AV.drop0
  split
  · rename_i cs k t e
    split
    · exact h
    · simp only [R] at h ⊢
      rcases h with ⟨b, o, cap, h1, h2, _, h4⟩ | ⟨_, _, h3, _⟩
      · exact .inl ⟨b, o, cap, h1, h2, trivial, h4⟩
      · exact absurd rfl (h3 t e)
  · exact h

theorem Rs_map {f : AV → AV} (hf : ∀ {v : AV} {u : Value}, R σ v u → R σ (f v) u) {as : List AV} {vs : List Value} (h : Rs σ as vs) : Rs σ (as.map f) vs := by
  rw [Rs_iff] at h ⊢
  refine ⟨by simp [h.1], fun j a ha => ?_⟩
  rw [List.getElem?_map] at ha
  cases hx : as[j]? with
  | none => simp [hx] at ha
  | some x =>
    simp [hx] at ha; subst ha
    obtain ⟨v, hv, hr⟩ := h.2 j x hx
    exact ⟨v, hv, hf hr⟩

theorem R_drop1 (n : Nat) {v : AV} {u : Value} (h : R σ v u) : R σ (v.drop1 n) u := by
  unfold AV.drop1
  split
  · simp only [R] at h ⊢
    obtain ⟨x, h1, h2⟩ := h
    exact ⟨x, h1, Rs_map (R_drop0 n) h2⟩
  · exact R_drop0 n h

theorem R_drop2 (n : Nat) {v : AV} {u : Value} (h : R σ v u) : R σ (v.drop2 n) u := by
  unfold AV.drop2
  split
  · simp only [R] at h ⊢
    obtain ⟨x, h1, h2⟩ := h
    exact ⟨x, h1, Rs_map (R_drop1 n) h2⟩
  · exact R_drop1 n h

theorem results_R (hI : Inv X σ s.get w) (hE : EnvOk σ ρ a) : ∀ (rs : List ResultVar) {irs : List IRes} {vs : List AV}, cRess P rs = some irs → results s ρ irs = some vs →
    ∃ us, (rs.mapM fun
      | .tmp t => pure (a.tmps.getD t undef)
      | .cell c t => do loadVar t (← asAddr (a.tmps.getD c undef)) : Sem (List Value)).run P w = .ok us w ∧ Rs σ vs us
  | [], irs, vs, hc, hr => by
    simp only [cRess, Option.some.injEq] at hc; subst hc
    simp only [results, Option.some.injEq] at hr; subst hr
    exact ⟨[], by simp, by simp [Rs]⟩
  | r :: rs, irs, vs, hc, hr => by
    simp only [cRess, Option.bind_eq_some_iff, Option.map_eq_some_iff] at hc; obtain ⟨ir, h1, irs', h2, rfl⟩ := hc
    cases r with
    | tmp t =>
      simp only [cRes, Option.some.injEq] at h1; subst h1
      simp only [results, Option.map_eq_some_iff] at hr; obtain ⟨vs', h3, rfl⟩ := hr
      obtain ⟨us, h4, h5⟩ := results_R hI hE rs h2 h3
      refine ⟨_ :: us, ?_, by simp only [Rs]; exact ⟨_, us, rfl, get_R hE t, h5⟩⟩
      simp only [List.mapM_cons, Sem.run_bind, Sem.run_pure, Result.andThen_ok]
      rw [h4]; rfl
    | cell c t =>
      simp only [cRes, Option.bind_eq_some_iff, Option.map_eq_some_iff] at h1; obtain ⟨g, h6, n, h7, rfl⟩ := h1
      simp only [results, Option.bind_eq_some_iff, Option.map_eq_some_iff] at hr; obtain ⟨x, h8, vs', h3, rfl⟩ := hr
      obtain ⟨us, h4, h5⟩ := results_R hI hE rs h2 h3
      obtain ⟨b, o, hu, u, h9, h10⟩ := load_R hI (fun _ _ _ => rfl) h6 h7 (get_R hE c) h8
      refine ⟨u :: us, ?_, by simp only [Rs]; exact ⟨_, us, rfl, h10, h5⟩⟩
      have hasA : (asAddr (a.tmps.getD c undef)).run P w = .ok ⟨b, o, none⟩ w := by rw [hu]; rfl
      simp only [List.mapM_cons, Sem.run_bind, Sem.run_pure, Result.andThen_ok, hasA, h9]
      rw [h4]; rfl

theorem tupled_R {vs : List AV} {us : List Value} (h : Rs σ vs us) : R σ (tupled vs) (if h : us.toArray.size = 1 then us.toArray[0] else .tuple us.toArray) := by
  have hl := Rs_length _ _ h
  unfold tupled
  split
  · rename_i v
    simp only [Rs] at h
    obtain ⟨u, _, rfl, h1, rfl⟩ := h
    simpa using h1
  · rename_i hne
    have : us.toArray.size ≠ 1 := fun e => by
      simp at e
      rw [hl] at e
      match vs, e with
      | [v], _ => exact hne v rfl
    rw [dif_neg this]
    simp only [R]; exact ⟨_, rfl, by simpa using h⟩

def firstGh (W : World) : Gh := { G := fun b o v => W.cell? ⟨b, o, none⟩ = some v, φ := fun _ => 0, T := fun _ _ => none }
def bs0 (W : World) (gl : Nat → Option (List AV)) : Bs := { B0 := W.heap.size, w0 := W, gl, hB := Nat.le_refl _ }

theorem raw_calls (hx : CxP P X cx) {ex : Ex} (he : ExOk ex) (hs : ExSound P X ex) {f : Nat} {ifn : IFunc} (h1 : cx.fns f = some ifn) {args : List AV} {s : St} {v : AV} {s' : St} (hw : Whole s) (hal : alAll (below s.next) args = true) (h : runFn ex ifn args s = some (v, s'))
    {σ : Gh} {w : World} {vs : List Value} (hI : Inv X σ s.get w) (hR : Rs σ args vs) : ∃ fn, P.funcs[f]? = some fn ∧ fn.name ≠ "runtime.NumGoroutine" ∧ fn.body.isSome = true ∧ Calls P f vs.toArray w fun e w' => ∃ u σ', e = .returned u ∧ Step X σ s.get w σ' s'.get w' ∧ R σ' v u := by
  unfold runFn at h
  simp only [Option.bind_eq_some_iff] at h
  obtain ⟨⟨sig, ρ, t⟩, h2, h3⟩ := h
  obtain ⟨fn, hf, hcf⟩ := hx.fns f ifn h1
  have hsh := hx.ok.fns f ifn h1
  simp only [cFunc] at hcf
  split at hcf
  · cases hcf
  rename_i hname
  simp only [Option.bind_eq_some_iff, Option.map_eq_some_iff] at hcf
  obtain ⟨c, hbody, ic, hcc, rs, hrs, rfl⟩ := hcf
  dsimp only at h2 h3 hsh
  have hu : alAll (below s.next) (args ++ List.replicate (fn.ntmps - args.length) AV.undef) = true := by
    rw [alAll_append, hal, Bool.true_and, alAll_iff]
    intro a hm; rw [(List.mem_replicate.1 hm).2]; rfl
  have hlen := Rs_length _ _ hR
  have hE : EnvOk σ (args ++ List.replicate (fn.ntmps - args.length) AV.undef) { tmps := vs.toArray ++ Array.replicate (fn.ntmps - vs.toArray.size) undef, defers := [] } := by
    refine ⟨?_, rfl⟩
    simp only [Array.toList_append, List.toList_toArray, Array.toList_replicate, List.size_toArray, hlen]
    refine Rs_append hR ?_
    rw [Rs_iff]
    refine ⟨by simp, fun j a ha => ?_⟩
    rw [List.getElem?_replicate] at ha ⊢
    split at ha
    · rename_i hj; cases ha; rw [if_pos hj]; exact ⟨_, rfl, R_undef σ⟩
    · cases ha
  have hgood : Good X σ { s with low := s.next } (args ++ List.replicate (fn.ntmps - args.length) AV.undef) w { tmps := vs.toArray ++ Array.replicate (fn.ntmps - vs.toArray.size) undef, defers := [] } := ⟨hw.low _, hu, hI, hE⟩
  refine ⟨fn, hf, hname, by rw [hbody]; rfl, calls_of_wp hf hbody ?_⟩
  refine hs c ic _ _ sig ρ t hcc hsh h2 σ w _ _ hgood fun σ' w' a' hst hg' => ?_
  have key : ∀ {us : List AV}, results t ρ rs = some us → (tupled us, t) = (v, s') → a'.defers = [] ∧ ∃ u, (Go.results fn a'.tmps).run P w' = .ok u w' ∧ ∃ u' σ', Ending.returned u = .returned u' ∧ Step X σ s.get w σ' s'.get w' ∧ R σ' v u' := by
    intro us h4 h5
    cases h5
    obtain ⟨vs', h6, h7⟩ := results_R (P := P) hg'.inv hg'.env fn.results.toList hrs h4
    refine ⟨hg'.env.defers, (if h : vs'.toArray.size = 1 then vs'.toArray[0] else .tuple vs'.toArray), ?_, _, σ', rfl, hst, tupled_R h7⟩
    simp only [Go.results, Sem.run_bind]
    rw [Array.mapM_eq_mapM_toList]
    have h8 := congrArg (fun r => r.andThen fun (l : List Value) w => Result.ok l.toArray w) h6
    rw [map_eq_pure_bind, Sem.run_bind]
    refine (congrArg (fun r : Result (Array Value) => r.andThen fun vs w => Sem.run P (pure (if h : vs.size = 1 then vs[0] else .tuple vs)) w) (?_ : _ = Result.ok vs'.toArray w')).trans rfl
    exact h8
  split at h3
  · cases h3
  · rename_i hne
    simp only [Option.map_eq_some_iff] at h3
    obtain ⟨us, h4, h5⟩ := h3
    cases sig with
    | normal => exact key h4 h5
    | ret => exact key h4 h5
    | exit id => exact absurd rfl (hne id)

theorem cell_in {b o : Nat} {v : Value} (h : w.cell? ⟨b, o, none⟩ = some v) : b < w.heap.size := by
  rcases Nat.lt_or_ge b w.heap.size with hl | hl
  · exact hl
  · simp [World.cell?, Array.getElem?_eq_none hl] at h

/-- Whatever comes beside what lies there changes nothing of an invariant. -/
theorem Inv.grown {g : Hp} (hI : Inv X σ g w) (hb : Below w.heap.size w w') : Step X σ g w σ g w' := by
  have hB : X.B0 ≤ w.heap.size := Nat.le_trans X.hB hI.below.size
  refine ⟨⟨hI.below.trans (hb.mono hB), hI.gls, fun b o v h => ?_, fun id o h => ?_, hI.inj⟩, Ext.refl _ _, fun _ h => h, hb.size, fun b hl _ => hb.block b hl, fun id o h => .inl ⟨id, o, h, rfl⟩, fun _ _ _ h => .inl h⟩
  · have := hI.gh b o v h
    rw [hb.cell (p := ⟨b, o, none⟩) (cell_in this)]; exact this
  · obtain ⟨h1, h2, h3⟩ := hI.obj id o h
    exact ⟨h1, h2.mono (Ext.refl _ _) (dm_some h) h1 (hb.block _ h2.block) (fun _ _ h => h) rfl, h3⟩

/-- Facts on cells that nothing changes any more. -/
def Gh.more (σ : Gh) (F : Nat → Nat → Value → Prop) : Gh := { σ with G := fun b o x => σ.G b o x ∨ F b o x }
theorem Ext.more {p : Nat → Bool} (σ : Gh) (F : Nat → Nat → Value → Prop) : Ext p σ (σ.more F) := ⟨fun _ _ _ h => .inl h, fun _ _ => rfl, fun _ _ _ _ h => h⟩
theorem Step.facts {g g' : Hp} {F : Nat → Nat → Value → Prop} (h : Step X σ g w σ' g' w') (hF : ∀ b o x, F b o x → w'.cell? ⟨b, o, none⟩ = some x) (hno : ∀ b o x, F b o x → ∀ id ob, g' id = some ob → blk σ' id ob ≠ b)
    (hnew : ∀ b o x, F b o x → (∃ i p, g i = some p ∧ blk σ i p = b) ∨ w.heap.size ≤ b) : Step X σ g w (σ'.more F) g' w' := by
  have hblk : ∀ id o, g' id = some o → blk (σ'.more F) id o = blk σ' id o := fun id o ho => blk_mono (Ext.more σ' F) (dm_some ho) (h.inv.obj id o ho).2.1
  refine ⟨⟨h.inv.below, fun n cs hn => ⟨(h.inv.gls n cs hn).1, RC_mono (Ext.more σ' F) cs n 0 (alAll_false (p := dm g') (h.inv.gls n cs hn).1) (h.inv.gls n cs hn).2⟩, fun b o v hv => hv.elim (h.inv.gh b o v) (hF b o v), fun id o ho => ?_, fun i j oi oj hi hj hij => ?_⟩,
    h.ext.trans (Ext.more σ' F) (fun _ h => h), h.dom, h.size, h.frame, fun id o ho => ?_, fun b q v hv => hv.elim (h.gnew b q v) fun hf => .inr (hnew b q v hf)⟩
  · obtain ⟨h1, h2, h3⟩ := h.inv.obj id o ho
    refine ⟨h1, h2.mono (Ext.more σ' F) (dm_some ho) h1 rfl (fun q v hv => hv.elim (fun h => h) fun hf => absurd rfl (hno _ q v hf id o ho)) rfl, ?_⟩
    rw [hblk id o ho]; exact h3
  · rw [hblk i oi hi, hblk j oj hj]; exact h.inv.inj i j oi oj hi hj hij
  · rw [hblk id o ho]; exact h.own id o ho

/-- A part of the state whose objects are the same. -/
theorem Step.back (hw : Whole s) {t : St} (k : Kept { s with low := s.next } t) (hl : s.next ≤ t.low) (hst : Step X σ s.get w σ' t.get w') : Step X σ s.get w σ' s.get w' :=
  hst.part (fun id o ho => by rw [k.same id (hw.lt ho) (by have := hw.lt ho; omega)]; exact ho) (fun id o ho => by rw [dm_get hw]; exact hw.shut id o ho) (fun id h => h)

theorem sc_R {σ' : Gh} {a : AV} {u : Value} (h : a.sc = true) (hr : R σ a u) : R σ' a u := by
  cases a <;> first | exact hr | (simp [AV.sc] at h)
theorem Rs_sc {σ' : Gh} {as : List AV} {us : List Value} (h : as.all AV.sc = true) (hr : Rs σ as us) : Rs σ' as us := by
  rw [Rs_iff] at hr ⊢
  refine ⟨hr.1, fun j a ha => ?_⟩
  obtain ⟨v, h1, h2⟩ := hr.2 j a ha
  exact ⟨v, h1, sc_R (List.all_eq_true.1 h a (List.mem_of_getElem? ha)) h2⟩

theorem first_ext (hI : Inv X σ s.get w) : Ext (fun _ => false) σ (firstGh w) := ⟨fun b o v h => hI.gh b o v h, fun _ h => (by cases h), fun _ h => (by cases h)⟩
theorem frzA_R (hI : Inv X σ s.get w) {z : Nat} {a b : AV} {v : Value} (h : frzA s z a = some b) (hR : R σ a v) : R (firstGh w) b v := by
  unfold frzA at h
  split at h
  · rename_i id off n cap
    split at h
    · rename_i ty cs hg
      simp only [Option.bind_eq_some_iff] at h
      obtain ⟨ds, h1, h2⟩ := h
      split at h2 <;> cases h2
      rename_i hal
      simp only [R] at hR ⊢
      obtain ⟨c, rfl, hnc, _⟩ := hR
      refine .inl ⟨_, _, _, rfl, hnc, trivial, ?_⟩
      obtain ⟨us, h3, h4, h5⟩ := cells_obj hI hg h1
      exact RC_of (Rs_mono (first_ext hI) _ _ hal h3) fun j u hu => h5 j u hu
    · cases h
  · split at h <;> cases h
    rename_i hq
    exact R_mono (first_ext hI) _ _ hq (R_strip hR)
theorem frzArgs_R (hI : Inv X σ s.get w) : ∀ {zs : List Nat} {as bs : List AV} {vs : List Value}, frzArgs s zs as = some bs → Rs σ as vs → Rs (firstGh w) bs vs
  | [], [], bs, vs, h, hR => by simp only [frzArgs, Option.some.injEq] at h; subst h; simpa only [Rs] using hR
  | z :: zs, a :: as, bs, vs, h, hR => by
    simp only [frzArgs, Option.bind_eq_some_iff, Option.map_eq_some_iff] at h
    obtain ⟨b, h1, cs, h2, rfl⟩ := h
    simp only [Rs] at hR ⊢
    obtain ⟨v, rest, rfl, h3, h4⟩ := hR
    exact ⟨v, rest, rfl, frzA_R hI h1 h3, frzArgs_R hI h2 h4⟩
  | [], _ :: _, bs, _, h, _ => by simp [frzArgs] at h
  | _ :: _, [], bs, _, h, _ => by simp [frzArgs] at h

theorem first_inv (hI : Inv X σ s.get w) : Inv (bs0 w X.gl) (firstGh w) st0.get w :=
  ⟨Below.refl _ _, fun n cs h => ⟨(hI.gls n cs h).1, RC_mono (first_ext hI) cs n 0 (hI.gls n cs h).1 (hI.gls n cs h).2⟩, fun _ _ _ h => h, fun id o h => by simp [st0, St.get, look] at h, fun i j oi oj h => by simp [st0, St.get, look] at h⟩

/-- Part by part. -/
theorem comps_R {f : AV → Option AV} {σ' : Gh} (hf : ∀ a b u, f a = some b → R σ a u → R σ' b u) {v : AV} {vs : List AV} (h : mapO f (compsOf v) = some vs) {u : Value} (hR : R σ v u) : R σ' (toComps v vs) u := by
  have many : ∀ {as bs : List AV} {us : List Value}, mapO f as = some bs → Rs σ as us → Rs σ' bs us := fun {as bs us} h hR => by
    obtain ⟨h1, h2⟩ := mapO_mem h
    rw [Rs_iff] at hR ⊢
    refine ⟨by rw [hR.1, h1], fun j b hb => ?_⟩
    have hj := (List.getElem?_eq_some_iff.1 hb).1
    have ha := List.getElem?_eq_getElem (l := as) (i := j) (by omega)
    obtain ⟨c, h3, h4⟩ := h2 j _ ha
    obtain ⟨u, h5, h6⟩ := hR.2 j _ ha
    rw [hb] at h3; cases h3
    exact ⟨u, h5, hf _ _ _ h4 h6⟩
  have one : ∀ a, compsOf a = [a] → (∀ vs, toComps a vs = vs.headD AV.undef) → mapO f (compsOf a) = some vs → R σ a u → R σ' (toComps a vs) u := by
    intro a h1 h2 h hR
    rw [h1] at h
    simp only [mapO, Option.bind_eq_some_iff, Option.map_eq_some_iff] at h
    obtain ⟨b, h3, cs, h4, rfl⟩ := h
    rw [h2]; exact hf _ _ _ h3 hR
  cases v
  case tuple as =>
    simp only [compsOf] at h
    simp only [toComps, R] at hR ⊢
    obtain ⟨x, rfl, h2⟩ := hR
    exact ⟨x, rfl, many h h2⟩
  all_goals exact one _ rfl (fun _ => rfl) h hR

/-- An answer that lies by itself, plain. -/
theorem bor_answer {s' : St} {v v' : AV} {u : Value} {σ' : Gh} (hI : Inv X σ s.get w) (hst : Step (bs0 w X.gl) (firstGh w) st0.get w σ' s'.get w') (hR : R σ' v u) (hb : borV s' v = some v') : Answer X σ s w v' s u w' := by
  have hB : Below w.heap.size w w' := hst.inv.below
  refine ⟨σ.more fun b o x => w.heap.size ≤ b ∧ σ'.G b o x, (hI.grown hB).facts (fun b o x h => hst.inv.gh b o x h.2) (fun b o x h id ob ho e => ?_) (fun b o x h => .inr h.1), ?_⟩
  · have := (hI.obj id ob ho).2.1.block; omega
  · unfold borV at hb
    simp only [Option.map_eq_some_iff] at hb
    obtain ⟨vs, h1, rfl⟩ := hb
    refine comps_R (fun a b u h hr => ?_) h1 hR
    unfold borC at h
    split at h
    · rename_i cs n t e
      split at h
      · rename_i ty e' esz hg
        split at h <;> cases h
        rename_i hq
        obtain ⟨rfl, hsc⟩ := hq
        simp only [R] at hr ⊢
        rcases hr with ⟨b, o, cap, rfl, h2, ⟨slack, z, h3, _⟩, h5⟩ | ⟨_, _, h3, _⟩
        · refine .inl ⟨b, o, cap, rfl, h2, trivial, ?_⟩
          have hbb := (hst.inv.obj t _ hg).2.2
          simp only [blk, h3] at hbb
          rw [RC_iff] at h5 ⊢
          intro j a ha
          obtain ⟨x, h6, h7⟩ := h5 j a ha
          exact ⟨x, .inr ⟨hbb, h6⟩, sc_R (List.all_eq_true.1 hsc a (List.mem_of_getElem? ha)) h7⟩
        · exact absurd rfl (h3 t e')
      · cases h
    · split at h <;> cases h
      rename_i hq
      simp only [R] at hr ⊢
      obtain ⟨x, rfl, h2⟩ := hr
      exact ⟨x, rfl, Rs_sc hq h2⟩
    · split at h <;> cases h
      rename_i hq
      exact sc_R hq hr

/-- Where the inner call's objects lie. -/
def ownφ (σ σ' : Gh) (b : Nat) (s' : St) : Gh := { σ with φ := fun id => if id < b then σ.φ id else match s'.get (id - b) with
  | some o => blk σ' (id - b) o
  | none => 0 }
theorem ownφ_new {σ σ' : Gh} {b : Nat} {s' : St} {i : Nat} {o : AObj} (h : s'.get i = some o) : (ownφ σ σ' b s').φ (b + i) = blk σ' i o := by
  simp only [ownφ]
  rw [if_neg (by omega), show b + i - b = i by omega, h]
theorem ownC_R {s' : St} {σ' : Gh} {X' : Bs} (hI' : Inv X' σ' s'.get w') {b : Nat} {a c : AV} {u : Value} (h : ownC b s' a = some c) (hR : R σ' a u) : R (ownφ σ σ' b s') c u := by
  unfold ownC at h
  split at h
  · rename_i cs n t e
    split at h
    · rename_i ty e' esz hg
      split at h <;> cases h
      rename_i hq
      obtain ⟨rfl, rfl, h2, h3, h4⟩ := hq
      simp only [R] at hR ⊢
      rw [ownφ_new hg]
      rcases hR with ⟨b', o, cap, rfl, h5, ⟨slack, z, h6, _⟩, h8⟩ | ⟨_, _, h3, _⟩
      · obtain ⟨_, ⟨b2, eo, sl, h9, ⟨c, fr, h10, h11, h12, h13, h14⟩, h15, h16⟩, _⟩ := hI'.obj t _ hg
        have hbl : blk σ' t (.tok ty n esz) = b' := by simp only [blk, h6]
        rw [h6] at h9; cases h9
        refine ⟨cap, ?_, h5, fun c' hc => by cases hc⟩
        rw [hbl, show o = 0 by omega]
      · exact absurd rfl (h3 t n)
    · cases h
  · rename_i id o
    split at h
    · rename_i ty cs hg
      cases h
      simp only [R] at hR ⊢
      rw [ownφ_new hg, hR]; rfl
    · cases h
  · split at h <;> cases h
    rename_i hq
    exact sc_R hq hR

theorem rowOf_spec {t : Nat} : ∀ (vs : List AV), rowOf t vs = [] ∨ ∃ n e, AV.slice (rowOf t vs) n (.tok t e) ∈ vs
  | [] => .inl rfl
  | v :: vs => by
    have ih := rowOf_spec (t := t) vs
    have go : rowOf t vs = [] ∨ ∃ n e, AV.slice (rowOf t vs) n (.tok t e) ∈ v :: vs := ih.imp id fun ⟨n, e, h⟩ => ⟨n, e, List.mem_cons_of_mem _ h⟩
    cases v with
    | slice cs n o =>
      cases o with
      | tok t' e =>
        simp only [rowOf]
        split
        · rename_i ht; subst ht; exact .inr ⟨n, e, List.mem_cons_self ..⟩
        · exact go
      | no => exact go
      | full => exact go
    | _ => exact go

theorem cellsAll_R {s' : St} {σ' : Gh} {X' : Bs} (hI' : Inv X' σ' s'.get w') : ∀ (n : Nat) (a : AV), a ∈ cellsAll s' n → ∃ u, R σ' a u
  | 0, a, h => by simp [cellsAll] at h
  | n + 1, a, h => by
    simp only [cellsAll, List.mem_append] at h
    rcases h with h | h
    · cases hg : s'.get n with
      | none => rw [hg] at h; simp at h
      | some o =>
        rw [hg] at h
        cases o with
        | cells ty cs =>
          obtain ⟨_, ⟨⟨c, E, fr, _, _, _, h5, _⟩, _⟩, _⟩ := hI'.obj n _ hg
          obtain ⟨j, hj⟩ := List.mem_iff_getElem?.1 h
          obtain ⟨u, _, h7⟩ := Rs_get _ _ h5 j a hj
          exact ⟨u, h7⟩
        | _ => simp at h
    · exact cellsAll_R hI' n a h

theorem own_answer {s' t : St} {v v' : AV} {u : Value} {σ' : Gh} (hw : Whole s) (hw' : Whole s') (hI : Inv X σ s.get w) (hst : Step (bs0 w X.gl) (firstGh w) st0.get w σ' s'.get w') (hR : R σ' v u) (hb : ownV s s' v = some (v', t)) : Answer X σ s w v' t u w' := by
  have hB : Below w.heap.size w w' := hst.inv.below
  have hgr := hI.grown hB
  have hkept := ownV_kept hw hw' hb
  unfold ownV at hb
  simp only [Option.bind_eq_some_iff, Option.map_eq_some_iff] at hb
  obtain ⟨vs, h1, hp, h2, h3⟩ := hb
  cases h3
  obtain ⟨a1, a2, a3⟩ := ownH_look (r := s.heap) h2
  have hallR : ∀ a ∈ compsOf v ++ cellsAll s' s'.next, (∃ c, ownC s.next s' a = some c) ∧ ∃ u, R σ' a u := by
    intro a ha
    rcases List.mem_append.1 ha with ha | ha
    · obtain ⟨j, hj⟩ := List.mem_iff_getElem?.1 ha
      obtain ⟨c, _, h6⟩ := (mapO_mem h1).2 j a hj
      refine ⟨⟨c, h6⟩, ?_⟩
      cases v
      case tuple as =>
        simp only [R] at hR
        obtain ⟨x, _, h7⟩ := hR
        obtain ⟨u, _, h8⟩ := Rs_get _ _ h7 j a hj
        exact ⟨u, h8⟩
      all_goals
        simp only [compsOf, List.mem_singleton] at ha
        subst ha
        exact ⟨u, hR⟩
    · exact ⟨ownH_all h2 a ha, cellsAll_R hst.inv _ a ha⟩
  have hext : Ext (dm s.get) σ (ownφ σ σ' s.next s') := ⟨fun _ _ _ h => h, fun id hid => by
    rw [dm_get hw] at hid
    simp only [below, decide_eq_true_eq] at hid
    simp only [ownφ]; rw [if_pos hid], fun _ _ _ _ h => h⟩
  -- what lies in the new state
  have hget : ∀ id o, look id (hp ++ s.heap) = some o → (id < s.next ∧ s.get id = some o) ∨ ∃ i oo, id = s.next + i ∧ s'.get i = some oo ∧ ownO s.next s' (compsOf v ++ cellsAll s' s'.next) i oo = some o := by
    intro id o ho
    by_cases c1 : id < s.next
    · exact .inl ⟨c1, by rw [a1 id c1] at ho; exact ho⟩
    · by_cases c2 : id < s.next + s'.next
      · obtain ⟨x, y, h5, h6, h7⟩ := a2 (id - s.next) (by omega)
        rw [show s.next + (id - s.next) = id by omega] at h7
        rw [h7] at ho; cases ho
        exact .inr ⟨id - s.next, x, by omega, h5, h6⟩
      · rw [a3 id (by omega)] at ho
        have := hw.lt (s := s) (id := id) ho; omega
  have hcells : ∀ i oo o, ownO s.next s' (compsOf v ++ cellsAll s' s'.next) i oo = some o → ∃ ty cs, o = .cells ty cs := by
    intro i oo o h
    cases oo with
    | cells ty cs => simp only [ownO, Option.map_eq_some_iff] at h; obtain ⟨ds, _, rfl⟩ := h; exact ⟨_, _, rfl⟩
    | tok ty e z => simp only [ownO, Option.some.injEq] at h; subst h; exact ⟨_, _, rfl⟩
    | map es => simp [ownO] at h
  have hblk : ∀ i oo o, s'.get i = some oo → ownO s.next s' (compsOf v ++ cellsAll s' s'.next) i oo = some o → blk (ownφ σ σ' s.next s') (s.next + i) o = blk σ' i oo := by
    intro i oo o h5 h6
    obtain ⟨ty, cs, rfl⟩ := hcells i oo o h6
    simp only [blk]; exact ownφ_new h5
  have hnew : ∀ i oo, s'.get i = some oo → w.heap.size ≤ blk σ' i oo := fun i oo h => (hst.inv.obj i oo h).2.2
  have hold : ∀ id o, s.get id = some o → blk (ownφ σ σ' s.next s') id o = blk σ id o ∧ blk σ id o < w.heap.size := fun id o h => ⟨blk_mono hext (dm_some h) (hI.obj id o h).2.1, (hI.obj id o h).2.1.block⟩
  have hG : ∀ b o x, σ.G b o x → b < w.heap.size := fun b o x h => cell_in (hI.gh b o x h)
  refine ⟨ownφ σ σ' s.next s', ⟨⟨hgr.inv.below, fun n cs hn => ⟨(hI.gls n cs hn).1, RC_mono hext cs n 0 (alAll_false (p := dm s.get) (hI.gls n cs hn).1) (hI.gls n cs hn).2⟩, fun b o x h => hgr.inv.gh b o x h, fun id o ho => ?_, fun i j oi oj hi hj hij => ?_⟩,
    hext, fun id hid => ?_, hB.size, hgr.frame, fun id o ho => ?_, fun b q x h => .inl h⟩, comps_R (fun a b u h hr => ownC_R hst.inv h hr) h1 hR⟩
  · have hal : o.al (dm (fun id => look id (hp ++ s.heap))) = true := by
      have := hkept.1.whole.shut id o ho
      rw [← dm_get hkept.1.whole] at this
      exact this
    refine ⟨hal, ?_⟩
    rcases hget id o ho with ⟨c1, hs⟩ | ⟨i, oo, rfl, h5, h6⟩
    · obtain ⟨h7, h8, h9⟩ := hgr.inv.obj id o hs
      refine ⟨h8.mono hext (dm_some hs) h7 rfl (fun _ _ h => h) rfl, ?_⟩
      rw [(hold id o hs).1]; exact h9
    · refine ⟨?_, by rw [hblk i oo o h5 h6]; exact Nat.le_trans (Nat.le_trans X.hB hI.below.size) (hnew i oo h5)⟩
      have hnoG : ∀ q x, ¬ (ownφ σ σ' s.next s').G (blk σ' i oo) q x := fun q x h => by
        have := hG _ q x h; have := hnew i oo h5; omega
      cases oo with
      | cells ty cs =>
        simp only [ownO, Option.map_eq_some_iff] at h6
        obtain ⟨ds, h7, rfl⟩ := h6
        obtain ⟨_, ⟨⟨c, E, fr, h8, h9, h10, h11, h12⟩, _⟩, _⟩ := hst.inv.obj i _ h5
        obtain ⟨hl, hds⟩ := mapO_mem h7
        simp only [ObjOk]
        rw [ownφ_new h5]
        refine ⟨⟨c, E, fr, h8, by omega, fun j hj => h10 j (by omega), ?_, fun t ht => by rw [hl]; exact h12 t ht⟩, hnoG⟩
        rw [Rs_iff] at h11 ⊢
        rw [hl]
        refine ⟨by rw [h11.1], fun j b hb => ?_⟩
        have hj := (List.getElem?_eq_some_iff.1 hb).1
        have ha := List.getElem?_eq_getElem (l := cs) (i := j) (by omega)
        obtain ⟨c2, h13, h14⟩ := hds j _ ha
        obtain ⟨u2, h15, h16⟩ := h11.2 j _ ha
        rw [hb] at h13; cases h13
        exact ⟨u2, h15, ownC_R hst.inv h14 h16⟩
      | tok ty e esz =>
        simp only [ownO, Option.some.injEq] at h6; subst h6
        obtain ⟨_, ⟨b2, eo, sl, h9, ⟨c, fr, h10, h11, h12, h13, h14⟩, h15, h16⟩, _⟩ := hst.inv.obj i _ h5
        have hbl : blk σ' i (.tok ty e esz) = b2 := by simp only [blk, h9]
        simp only [ObjOk]
        rw [ownφ_new h5, hbl]
        rw [hbl] at hnoG
        refine ⟨?_, hnoG⟩
        rcases rowOf_spec (t := i) (compsOf v ++ cellsAll s' s'.next) with h0 | ⟨n, e0, hm⟩
        · rw [h0]
          exact ⟨c, ty, fr, h10, Nat.zero_le _, fun j hj => absurd hj (Nat.not_lt_zero j), by simp [Rs], fun t ht => by cases ht⟩
        · obtain ⟨⟨cc, hcc⟩, ux, hux⟩ := hallR _ hm
          generalize rowOf i (compsOf v ++ cellsAll s' s'.next) = cs at hux hcc ⊢
          obtain ⟨ty', esz', g1, g2, g3, g4, g5, _⟩ := ownC_slice hcc
          rw [h5] at g1; cases g1
          subst g2
          simp only [R] at hux
          rcases hux with ⟨b', o, cap, rfl, k1, ⟨slack, z, k2, k3⟩, k4⟩ | ⟨_, _, k3, _⟩
          · rw [h9] at k2; cases k2
            have ho : o = 0 := by omega
            subst ho
            obtain ⟨us, k5, k6⟩ := cells_RC hst.inv.gh _ _ _ k4
            have hlu := Rs_length _ _ k5
            have hlc : cs.length ≤ c.size := by omega
            have hus : ∀ j x, us[j]? = some x → c[j]? = some x := fun j x hx => by
              have := k6 j x hx
              rw [cell_of_block h10] at this
              simpa using this
            refine ⟨c, ty, fr, h10, hlc, fun j hj hfz => ?_, ?_, fun t ht => by cases ht⟩
            · have hju : us[j]? = some us[j] := List.getElem?_eq_getElem (by omega)
              obtain ⟨q, hq⟩ := h14 j _ hfz.1 hfz.2 (hus j _ hju)
              have hja := List.getElem?_eq_getElem (l := cs) (i := j) hj
              obtain ⟨y, k7, k8⟩ := Rs_get _ _ k5 j _ hja
              rw [hju] at k7; cases k7
              rw [hq] at k8
              have hs := List.all_eq_true.1 g4 _ (List.mem_of_getElem? hja)
              have hbt : (cs[j]).byte = true := by
                cases hc : cs[j] <;> rw [hc] at k8 hs <;> simp only [R, AV.sc] at k8 hs <;> first | (cases hs; done) | (cases k8; done) | skip
                cases k8; rfl
              have : cs.any AV.byte = true := List.any_eq_true.2 ⟨_, List.mem_of_getElem? hja, hbt⟩
              rw [this] at g5; cases g5
            · have : c.toList.take cs.length = us := by
                apply List.ext_getElem?
                intro j
                rw [List.getElem?_take]
                split
                · rename_i hj
                  have hju : us[j]? = some us[j] := List.getElem?_eq_getElem (by omega)
                  rw [hju, Array.getElem?_toList]; exact hus j _ hju
                · rw [List.getElem?_eq_none (by omega)]
              rw [this]; exact Rs_sc g4 k5
          · exact absurd rfl (k3 _ _)
      | map es => simp [ownO] at h6
  · rcases hget i oi hi with ⟨c1, hs1⟩ | ⟨i1, o1, rfl, h5, h6⟩ <;> rcases hget j oj hj with ⟨c2, hs2⟩ | ⟨j1, o2, rfl, h7, h8⟩
    · rw [(hold i oi hs1).1, (hold j oj hs2).1]; exact hI.inj i j oi oj hs1 hs2 hij
    · rw [(hold i oi hs1).1, hblk j1 o2 oj h7 h8]
      have := (hold i oi hs1).2; have := hnew j1 o2 h7; omega
    · rw [(hold j oj hs2).1, hblk i1 o1 oi h5 h6]
      have := (hold j oj hs2).2; have := hnew i1 o1 h5; omega
    · rw [hblk i1 o1 oi h5 h6, hblk j1 o2 oj h7 h8]
      exact hst.inv.inj i1 j1 o1 o2 h5 h7 fun e => hij (by rw [e])
  · have := hkept.1.whole.full id
    simp only [dm] at hid ⊢
    have h9 := hw.full id
    rw [show (s.get id).isSome = true from hid] at h9
    have h10 : id < s.next := by simpa [below] using h9.symm
    show (look id (hp ++ s.heap)).isSome = true
    rw [a1 id h10]; exact hid
  · rcases hget id o ho with ⟨c1, hs⟩ | ⟨i, oo, rfl, h5, h6⟩
    · exact .inl ⟨id, o, hs, (hold id o hs).1.symm⟩
    · exact .inr (by rw [hblk i oo o h5 h6]; exact hnew i oo h5)

/- What a call lays, made immutable. -/
mutual
theorem al_top : ∀ (a : AV), a.al (fun _ => true) = true
  | .bool _ | .int _ _ | .str _ | .nilptr | .nilslice | .nilmap | .nilfunc | .niliface | .anyiface => by simp [AV.al]
  | .ptr _ _ | .mslice _ _ _ _ | .map _ => by simp [AV.al]
  | .vptr cs _ => by simp only [AV.al]; exact alAll_top cs
  | .slice cs _ own => by simp only [AV.al, alAll_top cs, Bool.and_true]; cases own <;> rfl
  | .func _ a b => by simp only [AV.al, alAll_top a, alAll_top b, Bool.and_self]
  | .iface _ a => by simp only [AV.al]; exact al_top a
  | .agg cs => by simp only [AV.al]; exact alAll_top cs
  | .tuple cs => by simp only [AV.al]; exact alAll_top cs
theorem alAll_top : ∀ (as : List AV), alAll (fun _ => true) as = true
  | [] => by simp [alAll]
  | a :: as => by simp only [alAll, al_top a, alAll_top as, Bool.and_self]
end
section
variable {t : St}
mutual
theorem frzD_R {z b : Nat} {σ0 : Gh} {F : Nat → Nat → Value → Prop} (hF : ∀ id ty cs, b ≤ id → t.get id = some (.cells ty cs) → ∀ off n ds, sub cs off n = some ds → alAll (fun _ => false) ds = true → RC (σ0.more F) ds (σ0.φ id) off) :
    ∀ (a : AV) (u : Value), R σ0 a u → R (σ0.more F) (a.frzD z t b) u
  | .mslice id off n c, u, hR => by
    have same : R (σ0.more F) (.mslice id off n c) u := hR
    simp only [AV.frzD]
    split
    · rename_i hb
      split
      · rename_i ty cs hg
        split
        · rename_i ds hs
          split
          · rename_i hal
            simp only [R] at hR ⊢
            obtain ⟨c', rfl, h1, _⟩ := hR
            exact .inl ⟨_, _, _, rfl, h1, trivial, hF id ty cs hb hg off (n * z) ds hs hal⟩
          · exact same
        · exact same
      · exact same
    · exact same
  | .slice cs n own, u, hR => by
    simp only [AV.frzD, R] at hR ⊢
    rcases hR with ⟨b', o, cap, h1, h2, h3, h4⟩ | ⟨h1, h2, h3, h4⟩
    · refine .inl ⟨b', o, cap, h1, h2, ?_, frzDs_RC hF cs b' o h4⟩
      cases own with
      | tok _ _ => trivial
      | no => trivial
      | full => exact h3
    · subst h1
      refine .inr ⟨rfl, h2, ?_, h4⟩
      cases own with
      | tok t e => intro _ _ h; cases h
      | no => intro _ _ h; cases h
      | full => intro _ _ h; cases h
  | .agg cs, u, hR => by
    simp only [AV.frzD, R] at hR ⊢
    obtain ⟨x, rfl, h2⟩ := hR
    exact ⟨x, rfl, frzDs_R hF cs _ h2⟩
  | .tuple cs, u, hR => by
    simp only [AV.frzD, R] at hR ⊢
    obtain ⟨x, rfl, h2⟩ := hR
    exact ⟨x, rfl, frzDs_R hF cs _ h2⟩
  | .vptr cs off, u, hR => R_mono (Ext.more (p := fun _ => true) σ0 F) _ _ (al_top _) hR
  | .func f x y, u, hR => R_mono (Ext.more (p := fun _ => true) σ0 F) _ _ (al_top _) hR
  | .iface ty v, u, hR => R_mono (Ext.more (p := fun _ => true) σ0 F) _ _ (al_top _) hR
  | .bool _, _, hR | .int _ _, _, hR | .str _, _, hR | .nilptr, _, hR | .ptr _ _, _, hR | .nilslice, _, hR | .nilmap, _, hR | .map _, _, hR | .nilfunc, _, hR | .niliface, _, hR | .anyiface, _, hR => hR
theorem frzDs_R {z b : Nat} {σ0 : Gh} {F : Nat → Nat → Value → Prop} (hF : ∀ id ty cs, b ≤ id → t.get id = some (.cells ty cs) → ∀ off n ds, sub cs off n = some ds → alAll (fun _ => false) ds = true → RC (σ0.more F) ds (σ0.φ id) off) :
    ∀ (as : List AV) (us : List Value), Rs σ0 as us → Rs (σ0.more F) (frzDs z t b as) us
  | [], us, hR => hR
  | a :: as, us, hR => by
    simp only [frzDs, Rs] at hR ⊢
    obtain ⟨v, rest, rfl, h1, h2⟩ := hR
    exact ⟨v, rest, rfl, frzD_R hF a v h1, frzDs_R hF as rest h2⟩
theorem frzDs_RC {z b : Nat} {σ0 : Gh} {F : Nat → Nat → Value → Prop} (hF : ∀ id ty cs, b ≤ id → t.get id = some (.cells ty cs) → ∀ off n ds, sub cs off n = some ds → alAll (fun _ => false) ds = true → RC (σ0.more F) ds (σ0.φ id) off) :
    ∀ (as : List AV) (b' o : Nat), RC σ0 as b' o → RC (σ0.more F) (frzDs z t b as) b' o
  | [], _, _, _ => by simp only [frzDs, RC]
  | a :: as, b', o, hR => by
    simp only [frzDs, RC] at hR ⊢
    obtain ⟨⟨v, h1, h2⟩, h3⟩ := hR
    exact ⟨⟨v, .inl h1, frzD_R hF a v h2⟩, frzDs_RC hF as b' (o + 1) h3⟩
end
end

theorem frz_answer {s t : St} {z : Nat} {v v' : AV} {u : Value} {σ' : Gh} {s2 : St} (hw : Whole s) (k : Kept { s with low := s.next } t) (hst : Step X σ s.get w σ' t.get w') (hR : R σ' v u) (hb : leaveF z s t v = some (v', s2)) : Answer X σ s w v' s2 u w' := by
  unfold leaveF at hb
  split at hb <;> cases hb
  rename_i hq
  have hback := Step.back hw k hq.1 hst
  have hlive : ∀ id o, s.get id = some o → id < s.next ∧ t.get id = some o := fun id o ho => ⟨hw.lt ho, by rw [k.same id (hw.lt ho) (by have := hw.lt ho; omega)]; exact ho⟩
  refine ⟨σ'.more fun b o x => w'.cell? ⟨b, o, none⟩ = some x ∧ ∃ id ty cs, s.next ≤ id ∧ t.get id = some (.cells ty cs) ∧ b = σ'.φ id, hback.facts (fun b o x h => h.1) ?_ ?_, ?_⟩
  · rintro b o x ⟨_, id, ty, cs, h1, h2, rfl⟩ id2 ob ho e
    obtain ⟨h3, h4⟩ := hlive id2 ob ho
    exact hst.inv.inj id2 id ob (.cells ty cs) h4 h2 (by omega) e
  · rintro b o x ⟨_, id, ty, cs, h1, h2, rfl⟩
    exact hst.own id (.cells ty cs) h2
  · refine frzD_R (fun id ty cs hid hg off n ds hs hal => ?_) v u hR
    obtain ⟨us, h3, h4, h5⟩ := cells_obj hst.inv hg hs
    exact RC_of (Rs_mono (Ext.more (p := fun _ => false) σ' _) _ _ hal h3) fun j x hx => .inr ⟨h5 j x hx, id, ty, cs, hid, hg, rfl⟩

theorem call_calls (hx : ∀ X : Bs, X.gl = cx.gl → CxP P X cx) (hX : X.gl = cx.gl) {ex : Ex} (he : ExOk ex) (hs : ∀ X : Bs, X.gl = cx.gl → ExSound P X ex) {f : Nat} {args : List AV} {s : St} {v : AV} {s' : St} (hw : Whole s) (hal : alAll (below s.next) args = true) (hf0 : cx.ext f = none) (h : callWith cx ex f args s = some (v, s'))
    {σ : Gh} {w : World} {vs : List Value} (hI : Inv X σ s.get w) (hR : Rs σ args vs) : ∃ fn, P.funcs[f]? = some fn ∧ fn.name ≠ "runtime.NumGoroutine" ∧ fn.body.isSome = true ∧ Calls P f vs.toArray w fun e w' => ∃ u, e = .returned u ∧ Answer X σ s w v s' u w' := by
  unfold callWith at h
  split at h
  · rename_i g hg; rw [hf0] at hg; cases hg
  · simp only [Option.bind_eq_some_iff] at h
    obtain ⟨ifn, h1, h2⟩ := h
    have hsh := (hx X hX).ok.fns f ifn h1
    have alone : ∀ {as0 : List AV} {zs : List Nat} {u0 : AV} {t : St}, frzArgs s zs args = some as0 → runFn ex ifn as0 st0 = some (u0, t) → Kept { st0 with low := st0.next } t ∧
        ∃ fn, P.funcs[f]? = some fn ∧ fn.name ≠ "runtime.NumGoroutine" ∧ fn.body.isSome = true ∧ Calls P f vs.toArray w fun e w' => ∃ u σ', e = .returned u ∧ Step (bs0 w X.gl) (firstGh w) st0.get w σ' t.get w' ∧ R σ' u0 u := by
      intro as0 zs u0 t h3 h4
      have hal0 : alAll (below st0.next) as0 = true := alAll_false (frzArgs_al h3)
      exact ⟨(runFn_ok he hsh whole0 hal0 h4).1, raw_calls (hx (bs0 w X.gl) hX) he (hs (bs0 w X.gl) hX) h1 whole0 hal0 h4 (first_inv hI) (frzArgs_R hI h3 hR)⟩
    split at h2
    · simp only [Option.map_eq_some_iff] at h2
      obtain ⟨⟨u0, t⟩, h3, h5⟩ := h2
      obtain ⟨kept, _⟩ := runFn_ok he hsh hw hal h3
      obtain ⟨fn, g1, g2, g3, g4⟩ := raw_calls (hx X hX) he (hs X hX) h1 hw hal h3 hI hR
      refine ⟨fn, g1, g2, g3, g4.mono ?_⟩
      rintro e w' ⟨u, σ', rfl, hst, hR'⟩
      refine ⟨u, rfl, ?_⟩
      dsimp only at h5
      unfold leave at h5
      split at h5
      · rename_i hq
        cases h5
        exact ⟨σ', Step.back hw kept hq.1 hst, R_drop2 _ hR'⟩
      · cases h5
        exact ⟨σ', hst, hR'⟩
    · simp only [Option.bind_eq_some_iff] at h2
      obtain ⟨⟨u0, t⟩, h3, h5⟩ := h2
      obtain ⟨kept, _⟩ := runFn_ok he hsh hw hal h3
      obtain ⟨fn, g1, g2, g3, g4⟩ := raw_calls (hx X hX) he (hs X hX) h1 hw hal h3 hI hR
      refine ⟨fn, g1, g2, g3, g4.mono ?_⟩
      rintro e w' ⟨u, σ', rfl, hst, hR'⟩
      exact ⟨u, rfl, frz_answer hw kept hst hR' h5⟩
    · simp only [Option.bind_eq_some_iff, Option.map_eq_some_iff] at h2
      obtain ⟨as0, h3, ⟨u0, t⟩, h4, x, h5, h6⟩ := h2
      cases h6
      obtain ⟨_, fn, g1, g2, g3, g4⟩ := alone h3 h4
      refine ⟨fn, g1, g2, g3, g4.mono ?_⟩
      rintro e w' ⟨u, σ', rfl, hst, hR'⟩
      exact ⟨u, rfl, bor_answer hI hst hR' h5⟩
    · simp only [Option.bind_eq_some_iff] at h2
      obtain ⟨as0, h3, ⟨u0, t⟩, h4, h5⟩ := h2
      obtain ⟨kept, fn, g1, g2, g3, g4⟩ := alone h3 h4
      refine ⟨fn, g1, g2, g3, g4.mono ?_⟩
      rintro e w' ⟨u, σ', rfl, hst, hR'⟩
      exact ⟨u, rfl, own_answer hw kept.whole hI hst hR' h5⟩
    · simp only [Option.map_eq_some_iff] at h2
      obtain ⟨⟨u0, t⟩, h3, h5⟩ := h2
      obtain ⟨fn, g1, g2, g3, g4⟩ := raw_calls (hx X hX) he (hs X hX) h1 hw hal h3 hI hR
      refine ⟨fn, g1, g2, g3, g4.mono ?_⟩
      rintro e w' ⟨u, σ', rfl, hst, hR'⟩
      cases h5
      exact ⟨u, rfl, σ', hst, hR'⟩

theorem call_ok (hx : ∀ X : Bs, X.gl = cx.gl → CxP P X cx) (hX : X.gl = cx.gl) {ex : Ex} (he : ExOk ex) (hs : ∀ X : Bs, X.gl = cx.gl → ExSound P X ex) : CallOk P X (callWith cx ex) := by
  intro f args s v s' hw hal h σ w vs hI hR
  cases hf : cx.ext f with
  | some g =>
    have h' := h
    unfold callWith at h'
    rw [hf] at h'
    exact (hx X hX).ext f g hf args s v s' hw hal h' σ w vs hI hR
  | none =>
    obtain ⟨fn, h1, h2, h3, h4⟩ := call_calls hx hX he hs hw hal hf h hI hR
    exact Does.of_calls h1 h2 h3 h4

theorem exec_sound (hx : ∀ X : Bs, X.gl = cx.gl → CxP P X cx) : ∀ k (X : Bs), X.gl = cx.gl → ExSound P X (exec cx k) ∧ LoopSound P X (exec cx k) k
  | 0, X, _ => ⟨fun _ _ _ _ _ _ _ _ _ h => by simp [exec] at h, fun _ _ _ _ _ _ _ _ _ h => by simp [exec] at h⟩
  | k + 1, X, hX => by
    have hsX := fun X hX => (exec_sound hx k X hX).1
    obtain ⟨ih, ihl⟩ := exec_sound hx k X hX
    have hxx := hx
    replace hx := hxx X hX
    have hek := exec_ok hx.ok k
    have hkc := callWith_ok hx.ok hek
    have hcc := call_ok hxx hX hek hsX
    have loop : LoopSound P X (exec cx (k + 1)) (k + 1) := by
      intro c ic ρ s g ρ' s' hc hsh h σ w a Q hg hQ
      simp only [exec, Option.bind_eq_some_iff] at h; obtain ⟨⟨g1, ρ1, s1⟩, h1, h2⟩ := h
      dsimp only at h2
      simp only [Code.rounds]
      refine ih c ic ρ s g1 ρ1 s1 hc hsh h1 σ w a _ hg fun σ1 w1 a1 hst1 hg1 => ?_
      split at h2
      · exact ihl c ic ρ1 s1 g ρ' s' hc hsh h2 σ1 w1 a1 Q hg1 fun σ2 w2 a2 hst2 hg2 => hQ σ2 w2 a2 (hst1.trans hst2) hg2
      · cases h2
        rename_i hne
        have := hQ σ1 w1 a1 hst1 hg1
        cases g <;> first | exact this | exact absurd rfl hne
    refine ⟨?_, loop⟩
    intro c ic ρ s g ρ' s' hc hsh h σ w a Q hg hQ
    cases c <;> simp only [cCode] at hc <;> try (cases hc; done)
    case skip => cases hc; simp only [exec, Option.some.injEq] at h; cases h; exact wp_skip (hQ σ w a (Step.refl hg.inv) hg)
    case label => cases hc; simp only [exec, Option.some.injEq] at h; cases h; exact wp_label (hQ σ w a (Step.refl hg.inv) hg)
    case exit id => cases hc; simp only [exec, Option.some.injEq] at h; cases h; exact wp_exit (hQ σ w a (Step.refl hg.inv) hg)
    case ret => cases hc; simp only [exec, Option.some.injEq] at h; cases h; exact wp_ret (hQ σ w a (Step.refl hg.inv) hg)
    case region id ops draw =>
      have hc0 : cCode P (.region id ops draw) = some ic := by simp only [cCode]; exact hc
      simp only [Option.bind_eq_some_iff] at hc; obtain ⟨is, h1, h2⟩ := hc
      cases draw with
      | true =>
        simp only [if_true] at h2
        split at h2 <;> cases h2
        simp only [exec, Option.map_eq_some_iff] at h; obtain ⟨⟨ρ1, s1⟩, h3, h4⟩ := h; cases h4
        exact hx.draw _ hkc hcc id ops _ s ρ _ _ hc0 hsh h3 σ w a Q hg hQ
      | false =>
        simp only [Bool.false_eq_true, if_false, Option.some.injEq] at h2
        subst h2
        simp only [exec, Option.map_eq_some_iff] at h; obtain ⟨⟨ρ1, s1⟩, h3, h4⟩ := h; cases h4
        refine wp_region ?_
        rw [List.range_eq_range']
        have := ops_sound (Q := Q) hx.gl hx.ok.gl hkc hcc ops.toList 0 (ops := ops) rfl h1 hsh h3 hg hQ
        simpa using this
    case seq x y =>
      simp only [Option.bind_eq_some_iff, Option.map_eq_some_iff] at hc; obtain ⟨ix, h1, iy, h2, rfl⟩ := hc
      simp only [ICode.shut, Bool.and_eq_true] at hsh
      simp only [exec, Option.bind_eq_some_iff] at h; obtain ⟨⟨g1, ρ1, s1⟩, h3, h4⟩ := h
      dsimp only at h4
      refine wp_seq (ih x ix ρ s g1 ρ1 s1 h1 hsh.1 h3 σ w a _ hg fun σ1 w1 a1 hst1 hg1 => ?_)
      split at h4
      · exact ih y iy ρ1 s1 g ρ' s' h2 hsh.2 h4 σ1 w1 a1 Q hg1 fun σ2 w2 a2 hst2 hg2 => hQ σ2 w2 a2 (hst1.trans hst2) hg2
      · cases h4
        rename_i hne
        have := hQ σ1 w1 a1 hst1 hg1
        cases g <;> first | exact this | exact absurd rfl hne
    case cond x y z =>
      simp only [Option.bind_eq_some_iff, Option.map_eq_some_iff] at hc; obtain ⟨ix, h1, iy, h2, iz, h3, rfl⟩ := hc
      simp only [ICode.shut, Bool.and_eq_true] at hsh
      simp only [exec] at h
      split at h
      · rename_i t ht
        have hr := ev_R (hg.inv.Gls hx.gl) hg.env h1 ht
        simp only [R] at hr
        refine wp_cond hr ?_
        cases t
        · exact ih z iz ρ s g ρ' s' h3 hsh.2 h σ w a Q hg hQ
        · exact ih y iy ρ s g ρ' s' h2 hsh.1.2 h σ w a Q hg hQ
      · cases h
    case block id b =>
      simp only [Option.map_eq_some_iff] at hc; obtain ⟨ib, h1, rfl⟩ := hc
      simp only [exec, Option.map_eq_some_iff] at h; obtain ⟨⟨g1, ρ1, s1⟩, h3, h4⟩ := h; cases h4
      refine wp_block (ih b ib ρ s g1 _ _ h1 hsh h3 σ w a _ hg fun σ1 w1 a1 hst1 hg1 => ?_)
      have := hQ σ1 w1 a1 hst1 hg1
      cases g1 with
      | normal => simpa [Sig.toExit, Exit.inBlock] using this
      | ret => simpa [Sig.toExit, Exit.inBlock] using this
      | exit j =>
        by_cases hj : j = id
        · subst hj; simpa [Sig.toExit, Exit.inBlock] using this
        · have hne : ¬ Sig.exit j = Sig.exit id := fun e => hj (by cases e; rfl)
          rw [if_neg hne] at this
          simpa [Sig.toExit, Exit.inBlock, hj] using this
    case loop b =>
      simp only [Option.map_eq_some_iff] at hc; obtain ⟨ib, h1, rfl⟩ := hc
      exact wp_loop_rounds (k + 1) (loop b ib ρ s g ρ' s' h1 hsh h σ w a Q hg hQ)
    case scope b =>
      simp only [Option.map_eq_some_iff] at hc; obtain ⟨ib, h1, rfl⟩ := hc
      simp only [exec] at h
      refine wp_scope_straight (ih b ib ρ s g ρ' s' h1 hsh h σ w a _ hg fun σ1 w1 a1 hst1 hg1 => ?_)
      have := hQ σ1 w1 a1 hst1 hg1
      cases g <;> exact this

theorem callF_calls (hx : ∀ X : Bs, X.gl = cx.gl → CxP P X cx) (hX : X.gl = cx.gl) (k : Nat) {f : Nat} {args : List AV} {s : St} {v : AV} {s' : St} (hw : Whole s) (hal : alAll (below s.next) args = true) (hf0 : cx.ext f = none) (h : callF cx k f args s = some (v, s'))
    {σ : Gh} {w : World} {vs : List Value} (hI : Inv X σ s.get w) (hR : Rs σ args vs) : Calls P f vs.toArray w fun e w' => ∃ u, e = .returned u ∧ Answer X σ s w v s' u w' := by
  obtain ⟨_, _, _, _, h⟩ := call_calls hx hX (exec_ok (hx X hX).ok k) (fun X hX => (exec_sound hx k X hX).1) hw hal hf0 h hI hR
  exact h
end
end Fw
