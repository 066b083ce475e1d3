/- What is always so of an authority behind acts. -/
import Derived.Test.YtjknlijikojbmaaLives
namespace Go.Proofs.Ytjknlijikojbmaa

structure Inv (s : Au × Int) : Prop where
  ser : ∀ (i : Nat) c, s.1.l[i]? = some c → c.s = (i : Int) + 1
  r1 : ∀ c ∈ s.1.l, 1 ≤ c.r
  r2 : ∀ c ∈ s.1.l, c.r ≤ s.1.n
  rm : s.1.l.Pairwise (fun a b => a.r ≤ b.r)
  gone : ∀ k ∈ s.1.g, 1 ≤ k ∧ k ≤ s.1.l.length
  t0 : 0 ≤ s.2
  t1 : s.2 ≤ 1000
  f0 : ∀ c ∈ s.1.l, 0 ≤ c.f
  f1 : ∀ c ∈ s.1.l, c.f ≤ s.2
  tt : ∀ c ∈ s.1.l, c.t ≤ 2000

theorem Inv.new : Inv (Au.new, 0) := by
  constructor <;> simp [Au.new]
theorem mem_more {P : Ce → Prop} {l : List Ce} {a : Ce} (h : ∀ b ∈ l, P b) (ha : P a) : ∀ b ∈ l ++ [a], P b := by
  intro b hb
  rcases List.mem_append.1 hb with h1 | h1
  · exact h b h1
  · simp only [List.mem_singleton] at h1
    subst h1
    exact ha
theorem Inv.step {s : Au × Int} (h : Inv s) (x : Ac) (h0 : s.2 ≤ x.at_) (h1 : x.at_ ≤ 1000) (h2 : 0 ≤ x.life) (h3 : x.life ≤ 100) : Inv (pstep s x) := by
  have hn : s.1.n = s.1.u.length + 1 := rfl
  have ht := h.t0
  unfold pstep
  split
  · refine ⟨?_, mem_more h.r1 ?_, mem_more h.r2 ?_, ?_, ?_, by show 0 ≤ x.at_; omega, h1, mem_more h.f0 ?_, mem_more (fun c hc => by have := h.f1 c hc; show c.f ≤ x.at_; omega) ?_, mem_more h.tt ?_⟩
    · intro i c hc
      simp only [Au.issue] at hc
      rcases Nat.lt_or_ge i s.1.l.length with hi | hi
      · rw [List.getElem?_append_left hi] at hc
        exact h.ser i c hc
      · rw [List.getElem?_append_right hi] at hc
        rcases Nat.eq_zero_or_pos (i - s.1.l.length) with hz | hz
        · rw [hz] at hc
          simp at hc
          subst hc
          simp [Au.cert]
          omega
        · rw [List.getElem?_eq_none (by simp; omega)] at hc
          cases hc
    · simp [Au.cert]; omega
    · simp only [Au.cert]; exact Int.le_refl _
    · simp only [Au.issue]
      rw [List.pairwise_append]
      refine ⟨h.rm, by simp, ?_⟩
      intro a ha b hb
      simp only [List.mem_singleton] at hb
      subst hb
      exact h.r2 a ha
    · intro k hk
      have := h.gone k hk
      simp only [Au.issue, List.length_append, List.length_singleton]
      omega
    · show 0 ≤ x.at_; omega
    · exact Int.le_refl _
    · show x.at_ + x.life ≤ 2000; omega
  · split
    · refine ⟨h.ser, h.r1, ?_, h.rm, h.gone, by show 0 ≤ x.at_; omega, h1, h.f0, fun c hc => by have := h.f1 c hc; show c.f ≤ x.at_; omega, h.tt⟩
      intro c hc
      have := h.r2 c hc
      simp only [Au.rotate, Au.n, List.length_append, List.length_map, List.length_singleton] at *
      omega
    · have e1 := revoke_l s.1 x.n_
      have e2 : (s.1.revoke x.n_).n = s.1.n := by unfold Au.n; rw [revoke_u]
      refine ⟨by simpa only [e1] using h.ser, by simpa only [e1] using h.r1, by simpa only [e1, e2] using h.r2, by simpa only [e1] using h.rm, ?_, by show 0 ≤ x.at_; omega, h1, by simpa only [e1] using h.f0, ?_, by simpa only [e1] using h.tt⟩
      · intro k hk
        simp only [e1]
        unfold Au.revoke at hk
        split at hk
        · rename_i hc
          rcases List.mem_append.1 hk with hk | hk
          · exact h.gone k hk
          · simp only [List.mem_singleton] at hk
            subst hk
            unfold Au.canGo at hc
            simp at hc
            omega
        · exact h.gone k hk
      · intro c hc
        simp only [e1] at hc
        have := h.f1 c hc
        show c.f ≤ x.at_
        omega

theorem prun_inv {l : List Ac} (good : GoodActs l) : ∀ j, j ≤ l.length → Inv (prun (l.take j)) ∧ (∀ i x, j ≤ i → l[i]? = some x → (prun (l.take j)).2 ≤ x.at_) := by
  intro j
  induction j with
  | zero =>
    intro _
    refine ⟨by simpa [prun] using Inv.new, fun i x _ hx => ?_⟩
    have := good.at0 x (List.mem_of_getElem? hx)
    simpa [prun] using this
  | succ j ih =>
    intro hj
    obtain ⟨h1, h2⟩ := ih (by omega)
    obtain ⟨x, hx⟩ : ∃ x, l[j]? = some x := ⟨_, List.getElem?_eq_getElem (by omega)⟩
    have hmem := List.mem_of_getElem? hx
    rw [prun_take hx]
    refine ⟨h1.step x (h2 j x (Nat.le_refl _) hx) (good.at1 x hmem) (good.l0 x hmem) (good.l1 x hmem), ?_⟩
    intro i y hi hy
    obtain ⟨hlt, rfl⟩ := List.getElem?_eq_some_iff.1 hy
    obtain ⟨hlt2, rfl⟩ := List.getElem?_eq_some_iff.1 hx
    show (l[j]).at_ ≤ (l[i]).at_
    exact List.pairwise_iff_getElem.1 good.up j i hlt2 hlt (by omega)

theorem prun_is {l : List Ac} (good : GoodActs l) : Inv (prun l) ∧ Fine l.length (prun l) := by
  have h1 := (prun_inv good l.length (Nat.le_refl _)).1
  have h2 := prun_fine l l.length (Nat.le_refl _)
  rw [List.take_length] at h1 h2
  exact ⟨h1, h2⟩

theorem gave_mem {a : Au} {c : Ce} (h : a.gave c = true) : c ∈ a.l := by
  unfold Au.gave at h
  simp at h
  exact List.mem_of_getElem? h.2.2
theorem Inv.root {s : Au × Int} (h : Inv s) {c : Ce} (hg : s.1.gave c = true) : 1 ≤ c.r ∧ c.r ≤ s.1.n := ⟨h.r1 c (gave_mem hg), h.r2 c (gave_mem hg)⟩
theorem Inv.gave {s : Au × Int} (h : Inv s) {c : Ce} (hc : c ∈ s.1.l) : s.1.gave c = true := by
  obtain ⟨i, hi, e⟩ := List.mem_iff_getElem.1 hc
  have hx : s.1.l[i]? = some c := by rw [List.getElem?_eq_getElem hi, e]
  have hs := h.ser i c hx
  unfold Au.gave
  rw [hs, show ((i : Int) + 1 - 1).toNat = i from by omega, hx]
  simp
  omega
theorem check_not {a : Au} {c : Ce} (h : c ∉ a.l) (v now : Int) : a.check c v now = 20 := by
  unfold Au.check
  rw [if_pos]
  left
  rcases hg : a.gave c with _ | _
  · rfl
  · exact absurd (gave_mem hg) h

end Go.Proofs.Ytjknlijikojbmaa
