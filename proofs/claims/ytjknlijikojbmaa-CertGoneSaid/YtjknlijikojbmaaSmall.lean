/- Two small lemmas: a certificate in a row that was given out, and the newest root is trusted. -/
import Derived.Test.YtjknlijikojbmaaInv
namespace Go.Proofs.Ytjknlijikojbmaa
open Go.RowKit

theorem out_at {w : World} {base n c : Nat} {A : Option Addr} {l : List Ce} {k : Nat} {d : Ce} (hn : n = l.length) (h : w.ownsRow base 24 5 (.slice A n c) n (l.flatMap ceCells)) (hk : l[k]? = some d) : ∃ gg, A = some ⟨gg, 0, none⟩ ∧ gg < w.heap.size ∧
    w.cell? ⟨gg, k * 5, none⟩ = some (.int .i64 d.s) ∧ w.cell? ⟨gg, k * 5 + 1, none⟩ = some (.int .i64 d.r) ∧ w.cell? ⟨gg, k * 5 + 2, none⟩ = some (.int .i64 d.v) ∧ w.cell? ⟨gg, k * 5 + 3, none⟩ = some (.int .i64 d.f) ∧ w.cell? ⟨gg, k * 5 + 4, none⟩ = some (.int .i64 d.t) := by
  subst hn
  have hl := (List.getElem?_eq_some_iff.1 hk).1
  obtain ⟨gg, cap, hv, _, hg⟩ := h.form (by omega)
  injection hv with e1 e2 e3
  subst e1
  subst e3
  have f := fun j (hj : j < 5) => flat_get ceCells 5 ceCells_len l k j d hk hj
  refine ⟨gg, rfl, hg, ?_, ?_, ?_, ?_, ?_⟩
  · rw [h.cellAt _ (by omega)]; have := f 0 (by omega); rw [show k * 5 = k * 5 + 0 from by omega, this]; rfl
  · rw [h.cellAt _ (by omega)]; have := f 1 (by omega); rw [this]; rfl
  · rw [h.cellAt _ (by omega)]; have := f 2 (by omega); rw [this]; rfl
  · rw [h.cellAt _ (by omega)]; have := f 3 (by omega); rw [this]; rfl
  · rw [h.cellAt _ (by omega)]; have := f 4 (by omega); rw [this]; rfl

theorem newest_trusted (a : Au) (now : Int) : a.trusted a.n now = true := by unfold Au.trusted; simp

end Go.Proofs.Ytjknlijikojbmaa
