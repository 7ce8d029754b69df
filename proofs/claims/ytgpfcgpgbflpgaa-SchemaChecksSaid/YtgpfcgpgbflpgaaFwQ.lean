/- The steps that change memory: a new block, a store, what an append does. -/
import Derived.Test.YtgpfcgpgbflpgaaFwP5
import Derived.Laws.CopyRow
import Derived.Laws.Append
import Derived.Lib.AppendStr
namespace Fw
open Go Go.RowKit

section
variable {P : Program} {X : Bs} {σ : Gh} {g g' : Hp} {w w' : World}

theorem Inv.base (h : Inv X σ g w) : X.B0 ≤ w.heap.size := Nat.le_trans X.hB h.below.size

theorem heap_alloc_old (w : World) (o : Obj) {b : Nat} (h : b < w.heap.size) : (w.alloc o).heap[b]? = w.heap[b]? := Below.heap_alloc w o b h
theorem heap_alloc_new (w : World) (o : Obj) : (w.alloc o).heap[w.heap.size]? = some o := by
  show (w.heap.push o)[w.heap.size]? = _
  rw [Array.getElem?_push, if_pos rfl]
theorem size_alloc (w : World) (o : Obj) : (w.alloc o).heap.size = w.heap.size + 1 := by show (w.heap.push o).size = _; simp

def Gh.setφ (σ : Gh) (n b : Nat) : Gh := { σ with φ := fun i => if i = n then b else σ.φ i }

theorem Ext.setφ {p : Nat → Bool} (σ : Gh) {n b : Nat} (hn : p n = false) : Ext p σ (σ.setφ n b) :=
  ⟨fun _ _ _ h => h, fun id hid => by simp only [Gh.setφ]; rw [if_neg (fun e => by subst e; rw [hn] at hid; cases hid)], fun _ _ _ _ h => h⟩

/-- A new object with a block for itself. -/
theorem Step.newObj (hI : Inv X σ g w) {n : Nat} (hn : g n = none) (obj : Obj) (o : AObj) (hg : ∀ j, g' j = if j = n then some o else g j) (hal : o.al (dm g') = true)
    (hkind : ∀ t e z, o ≠ .tok t e z)
    (hok : ObjOk (σ.setφ n w.heap.size) (w.alloc obj) n o) : Step X σ g w (σ.setφ n w.heap.size) g' (w.alloc obj) := by
  have hblk : blk (σ.setφ n w.heap.size) n o = w.heap.size := by
    cases o with
    | tok t e z => exact absurd rfl (hkind t e z)
    | cells => simp [blk, Gh.setφ]
    | map => simp [blk, Gh.setφ]
  have hdn : dm g n = false := by simp [dm, hn]
  refine Step.change n (fun b => w.heap.size ≤ b) hI (hI.below.alloc hI.base obj) (by rw [size_alloc]; omega) (Ext.setφ σ hdn) ?_ ?_ ?_ ?_ ?_ ?_ ?_ ?_ ?_
  · intro j p hp _ hb; have := (hI.obj j p hp).2.1.block; omega
  · intro b hb _; exact heap_alloc_old w obj hb
  · intro b hb hlt; omega
  · intro b q v hv hb; have hc := hI.gh b q v hv; obtain ⟨c, E, fr, h1, _⟩ := cell_block hc; have := block_lt h1; omega
  · intro b q v hv; exact .inl hv
  · intro j hj; rw [hg j, if_neg hj]
  · intro j _; rfl
  · intro h; rw [hdn] at h; cases h
  · intro p hp
    rw [hg n, if_pos rfl] at hp; cases hp
    exact ⟨hal, hok, by rw [hblk]; exact hI.base, .inl (by rw [hblk]; exact Nat.le_refl _)⟩

theorem noG_new (hI : Inv X σ g w) : ∀ q v, ¬ σ.G w.heap.size q v := fun q v hv => by
  have hc := hI.gh _ q v hv; obtain ⟨c, E, fr, h1, _⟩ := cell_block hc; have := block_lt h1; omega

theorem Step.newCells (hI : Inv X σ g w) {n : Nat} (hn : g n = none) {ty : Option TypeId} {cs : List AV} (hg : ∀ j, g' j = if j = n then some (.cells ty cs) else g j) (hal : alAll (dm g) cs = true) {c : Array Value} (E : TypeId) (fr : Nat × Nat)
    (hfr : ∀ j, j < cs.length → ¬ (fr.1 ≤ j ∧ j < fr.2)) (hl : cs.length ≤ c.size) (hR : Rs σ cs (c.toList.take cs.length)) (hty : ∀ t, ty = some t → E = t ∧ c.size = cs.length) : Step X σ g w (σ.setφ n w.heap.size) g' (w.alloc (.cells c E fr)) := by
  have hdn : dm g n = false := by simp [dm, hn]
  have hext : Ext (dm g) σ (σ.setφ n w.heap.size) := Ext.setφ σ hdn
  refine Step.newObj hI hn _ _ hg ?_ (by simp) ?_
  · simp only [AObj.al]
    refine alAll_mono (fun i hi => ?_) _ hal
    simp only [dm, hg]; split <;> simp_all [dm]
  · simp only [ObjOk]
    have e : (σ.setφ n w.heap.size).φ n = w.heap.size := by simp [Gh.setφ]
    rw [e]
    exact ⟨⟨c, E, fr, heap_alloc_new w _, hl, hfr, Rs_mono hext _ _ hal hR, hty⟩, fun q v h => noG_new hI q v h⟩

/-- A new row that never changes: facts on its first cells. -/
def Gh.row (σ : Gh) (b : Nat) (c : Array Value) (lo m : Nat) : Gh := { σ with G := fun b' o v => σ.G b' o v ∨ (b' = b ∧ lo ≤ o ∧ o < m ∧ c[o]? = some v) }

theorem Ext.row {p : Nat → Bool} (σ : Gh) (b : Nat) (c : Array Value) (lo m : Nat) : Ext p σ (σ.row b c lo m) := ⟨fun _ _ _ h => .inl h, fun _ _ => rfl, fun _ _ _ _ h => h⟩

theorem RC_row {p : Nat → Bool} {b : Nat} {c : Array Value} {cs : List AV} {m : Nat} (hal : alAll p cs = true) (hm : cs.length ≤ m) (hR : Rs σ cs (c.toList.take cs.length)) : RC (σ.row b c 0 m) cs b 0 := by
  rw [RC_iff]
  intro j a ha
  obtain ⟨v, hv, hr⟩ := Rs_get _ _ (Rs_mono (Ext.row (p := p) σ b c 0 m) _ _ hal hR) j a ha
  have hj : j < cs.length := (List.getElem?_eq_some_iff.1 ha).1
  rw [List.getElem?_take, if_pos hj] at hv
  exact ⟨v, .inr ⟨rfl, by omega, by omega, by simpa using hv⟩, hr⟩

theorem Step.newRow (hI : Inv X σ g w) (c : Array Value) (E : TypeId) (fr : Nat × Nat) (m : Nat) : Step X σ g w (σ.row w.heap.size c 0 m) g (w.alloc (.cells c E fr)) := by
  -- no object changes: the number is one that no object has
  obtain ⟨n, hn⟩ : ∃ n, g n = none ∨ True := ⟨0, .inr trivial⟩
  refine ⟨⟨hI.below.alloc hI.base _, fun k cs hk => ⟨(hI.gls k cs hk).1, RC_mono (Ext.row σ _ c 0 m) cs k 0 (alAll_false (p := dm g) (hI.gls k cs hk).1) (hI.gls k cs hk).2⟩, ?_, ?_, ?_⟩, Ext.row σ _ c 0 m, fun _ h => h, by rw [size_alloc]; omega,
    fun b hb _ => heap_alloc_old w _ hb, ?_, fun b q v hv => hv.elim .inl fun h => .inr (.inr (by rw [h.1]; exact Nat.le_refl _))⟩
  · intro b q v hv
    rcases hv with hv | ⟨rfl, _, _, hv⟩
    · have hc := hI.gh b q v hv
      obtain ⟨c', E', fr', h1, _⟩ := cell_block hc
      rw [cell_same (heap_alloc_old w _ (block_lt h1))]; exact hc
    · rw [cell_of_block (heap_alloc_new w _)]; exact hv
  · intro id o ho
    obtain ⟨h1, h2, h3⟩ := hI.obj id o ho
    refine ⟨h1, h2.mono (Ext.row σ _ c 0 m) (dm_some ho) h1 (heap_alloc_old w _ h2.block) (fun q v hq => ?_) rfl, ?_⟩
    · rcases hq with hq | ⟨hq, _⟩
      · exact hq
      · have := h2.block; omega
    · rw [blk_mono (Ext.row σ _ c 0 m) (dm_some ho) h2]; exact h3
  · intro i j oi oj hi hj hne
    rw [blk_mono (Ext.row σ _ c 0 m) (dm_some hi) (hI.obj i oi hi).2.1, blk_mono (Ext.row σ _ c 0 m) (dm_some hj) (hI.obj j oj hj).2.1]
    exact hI.inj i j oi oj hi hj hne
  · intro id o ho
    exact .inl ⟨id, o, ho, (blk_mono (Ext.row σ _ c 0 m) (dm_some ho) (hI.obj id o ho).2.1).symm⟩

def Gh.tok (σ : Gh) (t e : Nat) (x : Nat × Nat × Nat × Nat) : Gh := { σ with T := fun t' e' => if t' = t ∧ e' = e then some x else σ.T t' e' }
def Gh.clear (σ : Gh) (t : Nat) : Gh := { σ with T := fun t' e' => if t' = t then none else σ.T t' e' }
theorem Ext.clear {p : Nat → Bool} (σ : Gh) {t : Nat} (hn : p t = false) : Ext p σ (σ.clear t) :=
  ⟨fun _ _ _ h => h, fun _ _ => rfl, fun t' ht e x h => by simp only [Gh.clear]; rw [if_neg (fun e => by subst e; rw [hn] at ht; cases ht)]; exact h⟩

/-- What is said of a token's ends by no object may be forgotten. -/
theorem Step.clear (hI : Inv X σ g w) {t : Nat} (hn : g t = none) : Step X σ g w (σ.clear t) g w := by
  have hdn : dm g t = false := by simp [dm, hn]
  have hx := Ext.clear (p := dm g) σ hdn
  have hne : ∀ id o, g id = some o → id ≠ t := fun id o h e => by subst e; rw [hn] at h; cases h
  refine ⟨⟨hI.below, fun k cs hk => ⟨(hI.gls k cs hk).1, RC_mono hx cs k 0 (alAll_false (hI.gls k cs hk).1) (hI.gls k cs hk).2⟩, hI.gh, fun id o ho => ?_, fun i j oi oj hi hj hij => ?_⟩, hx, fun _ h => h, Nat.le_refl _, fun _ _ _ => rfl, fun id o ho => ?_, fun _ _ _ h => .inl h⟩
  · obtain ⟨h1, h2, h3⟩ := hI.obj id o ho
    refine ⟨h1, h2.mono hx (dm_some ho) h1 rfl (fun _ _ h => h) ?_, ?_⟩
    · funext e; simp only [Gh.clear]; rw [if_neg (hne id o ho)]
    · rw [blk_mono hx (dm_some ho) h2]; exact h3
  · rw [blk_mono hx (dm_some hi) (hI.obj i oi hi).2.1, blk_mono hx (dm_some hj) (hI.obj j oj hj).2.1]; exact hI.inj i j oi oj hi hj hij
  · exact .inl ⟨id, o, ho, (blk_mono hx (dm_some ho) (hI.obj id o ho).2.1).symm⟩

/-- A new row with room behind it, which a token owns: a new one, or one whose row has been given up. -/
theorem Step.newTok (hI : Inv X σ g w) {t e slack esz : Nat} (c : Array Value) (E : TypeId) (hg : ∀ j, g' j = if j = t then some (.tok E e esz) else g j) (hold : g t = none ∨ ∃ t0 e0 z0, g t = some (.tok t0 e0 z0)) (m : Nat)
    (hT : ∀ e', e ≤ e' → σ.T t e' = none) (hsz : m + slack * esz ≤ c.size) :
    Step X σ g w ((σ.row w.heap.size c 0 m).tok t e (w.heap.size, m, slack, esz)) g' (w.alloc (.cells c E)) := by
  have hext : Ext (dm g) σ ((σ.row w.heap.size c 0 m).tok t e (w.heap.size, m, slack, esz)) := by
    refine ⟨fun _ _ _ h => .inl h, fun _ _ => rfl, fun t' ht' e' x hx => ?_⟩
    simp only [Gh.tok, Gh.row]
    split
    · rename_i hq; obtain ⟨rfl, rfl⟩ := hq; rw [hT e' (Nat.le_refl _)] at hx; cases hx
    · exact hx
  have hTt : ((σ.row w.heap.size c 0 m).tok t e (w.heap.size, m, slack, esz)).T t e = some (w.heap.size, m, slack, esz) := by simp [Gh.tok]
  refine Step.change t (fun b => w.heap.size ≤ b) hI (hI.below.alloc hI.base _) (by rw [size_alloc]; omega) hext ?_ ?_ ?_ ?_ ?_ ?_ ?_ ?_ ?_
  · intro j p hp _ hb; have := (hI.obj j p hp).2.1.block; omega
  · intro b hb _; exact heap_alloc_old w _ hb
  · intro b hb hlt; omega
  · intro b q v hv hb; have hc := hI.gh b q v hv; obtain ⟨c', E', fr', h1, _⟩ := cell_block hc; have := block_lt h1; omega
  · intro b q v hv
    rcases hv with hv | ⟨rfl, _, _, hv⟩
    · exact .inl hv
    · exact .inr ⟨Nat.le_refl _, by rw [cell_of_block (heap_alloc_new w _)]; exact hv⟩
  · intro j hj; rw [hg j, if_neg hj]
  · intro j hj; funext e'; simp [Gh.tok, Gh.row, hj]
  · intro _; simp [dm, hg]
  · intro p hp
    rw [hg t, if_pos rfl] at hp; cases hp
    refine ⟨rfl, ⟨w.heap.size, m, slack, hTt, ⟨c, (0, 0), heap_alloc_new w _, hsz, Nat.zero_le _⟩, fun q v hq hv => ?_, fun e' he' => ?_⟩, ?_, .inl ?_⟩
    · rcases hv with hv | ⟨_, _, h, _⟩
      · exact noG_new hI q v hv
      · omega
    · simp only [Gh.tok, Gh.row]; rw [if_neg (by omega)]; exact hT e' (by omega)
    · simp only [blk, hTt]; exact hI.base
    · simp only [blk, hTt]; exact Nat.le_refl _

/-- Cells of a block are written. -/
theorem Below.setRow {B : Nat} {w0 : World} (h : Below B w0 w) {b : Nat} (hb : B ≤ b) (c : Array Value) : Below B w0 (w.setRow b c) :=
  h.trans ⟨rfl, rfl, rfl, by simp, fun k hk => setRow_other w b k c (by omega)⟩

theorem Step.setCells (hI : Inv X σ g w) {n : Nat} {ty : Option TypeId} {cs ds : List AV} (hn : g n = some (.cells ty cs)) (hg : ∀ j, g' j = if j = n then some (.cells ty ds) else g j) (hal : alAll (dm g) ds = true)
    {c c' : Array Value} {E : TypeId} {fr : Nat × Nat} (hc : w.heap[σ.φ n]? = some (.cells c E fr)) (hl : ds.length ≤ c'.size) (hfr : ∀ j, j < ds.length → ¬ (fr.1 ≤ j ∧ j < fr.2)) (hR : Rs σ ds (c'.toList.take ds.length)) (hty : ∀ t, ty = some t → E = t ∧ c'.size = ds.length) :
    Step X σ g w σ g' (w.setRow (σ.φ n) c') := by
  obtain ⟨_, hok, hbase⟩ := hI.obj n _ hn
  have hnoG : ∀ q v, ¬ σ.G (σ.φ n) q v := hok.2
  have hdd : ∀ i, dm g i = true → dm g' i = true := fun i hi => by simp only [dm, hg]; split <;> simp_all [dm]
  refine Step.change n (fun b => b = σ.φ n) hI (Below.setRow hI.below hbase _) (by simp) (Ext.refl _ _) ?_ ?_ ?_ ?_ ?_ ?_ ?_ ?_ ?_
  · intro j p hp hj hb; exact hI.inj j n p _ hp hn hj hb
  · intro b _ hb; exact setRow_other w _ b c' hb
  · intro b hb _; subst hb; exact ⟨_, hn, rfl⟩
  · intro b q v hv hb; subst hb; exact absurd hv (hnoG q v)
  · intro b q v hv; exact .inl hv
  · intro j hj; rw [hg j, if_neg hj]
  · intro j _; rfl
  · exact hdd n
  · intro p hp
    rw [hg n, if_pos rfl] at hp; cases hp
    exact ⟨alAll_mono hdd _ hal, ⟨⟨c', E, fr, setRow_heap w _ c c' E fr hc, hl, hfr, hR, hty⟩, hnoG⟩, hbase, .inl rfl⟩

/-- Cells behind a row's end are written: the token's row grows in its place. -/
theorem Step.growTok (hI : Inv X σ g w) {t e e' b eo slack slack' esz : Nat} {E : TypeId} (hn : g t = some (.tok E e esz)) (hg : ∀ j, g' j = if j = t then some (.tok E e' esz) else g j) (hT : σ.T t e = some (b, eo, slack, esz)) (he : e < e')
    {c c' : Array Value} {fr : Nat × Nat} (hc : w.heap[b]? = some (.cells c E fr)) (m : Nat) (hsame : ∀ j, j < eo → c'[j]? = c[j]?) (hm : m + slack' * esz ≤ c'.size) (hle : eo ≤ m) :
    Step X σ g w ((σ.row b c' eo m).tok t e' (b, m, slack', esz)) g' (w.setRow b c') := by
  obtain ⟨_, hok, hbase⟩ := hI.obj t _ hn
  obtain ⟨b', eo', slack0, h1, ⟨c0, fr0, h2, h3, h4⟩, h5, h6⟩ := hok
  have hT' := h6 e' he
  rw [hT] at h1; cases h1
  rw [hc] at h2; cases h2
  have hblk : blk σ t (.tok E e esz) = b := by simp only [blk, hT]
  rw [hblk] at hbase
  have hext : Ext (dm g) σ ((σ.row b c' eo m).tok t e' (b, m, slack', esz)) := by
    refine ⟨fun _ _ _ h => .inl h, fun _ _ => rfl, fun t' ht' e'' x hx => ?_⟩
    simp only [Gh.tok, Gh.row]
    split
    · rename_i hq; obtain ⟨rfl, rfl⟩ := hq; rw [hT'] at hx; cases hx
    · exact hx
  have hTt : ((σ.row b c' eo m).tok t e' (b, m, slack', esz)).T t e' = some (b, m, slack', esz) := by simp [Gh.tok]
  refine Step.change t (fun b' => b' = b) hI (Below.setRow hI.below hbase _) (by simp) hext ?_ ?_ ?_ ?_ ?_ ?_ ?_ ?_ ?_
  · intro j p hp hj hb; exact hI.inj j t p _ hp hn hj (by rw [hblk]; exact hb)
  · intro b' _ hb; exact setRow_other w _ b' c' hb
  · intro b' hb _; subst hb; exact ⟨_, hn, hblk⟩
  · intro b' q v hv hb
    subst hb
    have hq : q < eo := by
      rcases Nat.lt_or_ge q eo with h | h
      · exact h
      · exact absurd hv (h5 q v h)
    have hcell := hI.gh _ q v hv
    rw [cell_of_block hc] at hcell
    rw [cell_of_block (setRow_heap w _ c c' E fr hc), hsame q hq]; exact hcell
  · intro b' q v hv
    rcases hv with hv | ⟨rfl, _, _, hv⟩
    · exact .inl hv
    · exact .inr ⟨rfl, by rw [cell_of_block (setRow_heap w _ c c' E fr hc)]; exact hv⟩
  · intro j hj; rw [hg j, if_neg hj]
  · intro j hj; funext e''; simp [Gh.tok, Gh.row, hj]
  · intro _; simp [dm, hg]
  · intro p hp
    rw [hg t, if_pos rfl] at hp; cases hp
    refine ⟨rfl, ⟨b, m, slack', hTt, ⟨c', fr, setRow_heap w _ c c' E fr hc, hm, Nat.le_trans h4 hle⟩, fun q v hq hv => ?_, fun e'' he'' => ?_⟩, ?_, .inl ?_⟩
    · rcases hv with hv | ⟨_, _, h, _⟩
      · exact h5 q v (by omega) hv
      · omega
    · simp only [Gh.tok, Gh.row]; rw [if_neg (by omega)]; exact h6 e'' (by omega)
    · simp only [blk, hTt]; exact hbase
    · simp only [blk, hTt]

end
end Fw
