/- The context of a program: its compiled functions and the contracts of those that the library answers. -/
import Derived.Test.YtgpfcgpgbflpgaaFwX1
import Derived.Test.YtgpfcgpgbflpgaaFwM
namespace Fw
open Go Go.RowKit

theorem cxp_of {P : Program} {tbl : List (Option IFunc)} {cx : Cx} (hshut : (tbl.all fun o => match o with | some ir => ir.body.shut | none => true) = true)
    (htbl : tbl = (List.range tbl.length).map fun i => (P.funcs[i]?).bind (cFunc P)) (hfns : cx.fns = fun i => (tbl[i]?).join) (hext : ∀ f g, cx.ext f = some g → ExtOk P f g)
    (hgl : cx.GlOk) (hmix : P.follows .mixedOrders = true) (X : Bs) (hX : X.gl = cx.gl) : CxP P X cx where
  ok := by
    refine ⟨hgl, fun f fn h => ?_, fun f g h => (hext f g h).kept⟩
    rw [hfns] at h
    simp only [Option.join_eq_some_iff] at h
    have := List.all_eq_true.1 hshut _ (List.mem_of_getElem? h)
    simpa using this
  gl := hX.symm
  fns := fun f ifn h => by
    rw [hfns] at h
    simp only [Option.join_eq_some_iff] at h
    rw [htbl, List.getElem?_map] at h
    simp only [Option.map_eq_some_iff, Option.bind_eq_some_iff] at h
    obtain ⟨i, h1, fn, h2, h3⟩ := h
    have := List.getElem?_eq_some_iff.1 h1
    obtain ⟨_, h4⟩ := this
    simp only [List.getElem_range] at h4
    subst h4
    exact ⟨fn, h2, h3⟩
  ext := fun f g h args s v s' hw hal he σ w vs hI hR => (hext f g h).does X args s v s' hw hal he σ w vs hI hR
  draw := drawOk hX.symm hgl hmix
end Fw
