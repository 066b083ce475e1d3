/- What revoking and rotating do to what is checked: plain laws. -/
import Derived.Test.YtjknlijikojbmaaSmall
namespace Go.Proofs.Ytjknlijikojbmaa

theorem take_mem_int {l : List Int} {k : Nat} {d : Int} (c : Int) (hd : l[k]? = some d) : decide (c ∈ l.take (k + 1)) = (decide (c ∈ l.take k) || (d == c)) := by
  obtain ⟨hlt, e⟩ := List.getElem?_eq_some_iff.1 hd
  rw [List.take_succ_eq_append_getElem hlt, e]
  by_cases h1 : c ∈ l.take k
  · simp [h1]
  · by_cases h2 : d = c
    · subst h2
      simp
    · simp [h1, h2, Ne.symm h2]

theorem mem_roots {a : Au} {r now : Int} (h1 : 1 ≤ r) (h2 : r ≤ a.n) : decide (r ∈ a.roots now) = a.trusted r now := by
  have : r ∈ a.roots now ↔ a.trusted r now = true := by
    unfold Au.roots
    rw [List.mem_filter]
    refine ⟨fun h => h.2, fun h => ⟨?_, h⟩⟩
    rw [List.mem_map]
    exact ⟨(r - 1).toNat, by rw [List.mem_range]; omega, by omega⟩
  rcases h : a.trusted r now with _ | _
  · simp [this, h]
  · simp [this, h]

theorem Inv.mem {s : Au × Int} (h : Inv s) {c : Ce} (hc : c ∈ s.1.l) : 1 ≤ c.s ∧ c.s ≤ s.1.l.length := by
  obtain ⟨i, hi, e⟩ := List.mem_iff_getElem.1 hc
  have hs := h.ser i c (by rw [List.getElem?_eq_getElem hi, e])
  omega
theorem Inv.canGo {s : Au × Int} (h : Inv s) {c : Ce} (hc : c ∈ s.1.l) : s.1.canGo c.s = decide (c.s ∉ s.1.g) := by
  have := h.mem hc
  unfold Au.canGo
  rw [decide_eq_true this.1, decide_eq_true this.2]
  simp
theorem Inv.revoke {s : Au × Int} (h : Inv s) (n : Int) : Inv (s.1.revoke n, s.2) := by
  have h1 := h.step ⟨2, s.2, n, 0⟩ (Int.le_refl _) h.t1 (Int.le_refl _) (by show (0 : Int) ≤ 100; omega)
  simpa [pstep] using h1
theorem Inv.issue {s : Au × Int} (h : Inv s) (v life : Int) (h1 : 0 ≤ life) (h2 : life ≤ 100) : Inv (s.1.issue v s.2 life, s.2) := by
  have h1 := h.step ⟨0, s.2, v, life⟩ (Int.le_refl _) h.t1 h1 h2
  simpa [pstep] using h1

/-! ### revoking -/
theorem revoke_n (a : Au) (s : Int) : (a.revoke s).n = a.n := by unfold Au.n; rw [revoke_u]
theorem revoke_trusted (a : Au) (s r now : Int) : (a.revoke s).trusted r now = a.trusted r now := by unfold Au.trusted; rw [revoke_n, revoke_u]
theorem revoke_roots (a : Au) (s now : Int) : (a.revoke s).roots now = a.roots now := by
  unfold Au.roots
  rw [revoke_n]
  exact List.filter_congr fun r _ => revoke_trusted a s r now
theorem revoke_gave (a : Au) (s : Int) (c : Ce) : (a.revoke s).gave c = a.gave c := by unfold Au.gave; rw [revoke_l]
theorem revoke_has {s : Au × Int} (h : Inv s) {c : Ce} (hc : c ∈ s.1.l) : c.s ∈ (s.1.revoke c.s).g := by
  unfold Au.revoke
  rw [h.canGo hc]
  by_cases hg : c.s ∈ s.1.g
  · simp [hg]
  · simp [hg]
theorem revoke_else (a : Au) (s k : Int) (hk : k ≠ s) : k ∈ (a.revoke s).g ↔ k ∈ a.g := by
  unfold Au.revoke
  split
  · simp [hk]
  · exact Iff.rfl
theorem revoke_twice {s : Au × Int} (h : Inv s) {c : Ce} (hc : c ∈ s.1.l) : (s.1.revoke c.s).canGo c.s = false := by
  unfold Au.canGo
  have := revoke_has h hc
  simp [this]
theorem revoke_idem {s : Au × Int} (h : Inv s) {c : Ce} (hc : c ∈ s.1.l) : (s.1.revoke c.s).revoke c.s = s.1.revoke c.s := by
  have e := revoke_twice h hc
  generalize s.1.revoke c.s = a at *
  unfold Au.revoke
  rw [e]
  rfl
theorem was_gone {s : Au × Int} (h : Inv s) {c : Ce} (hc : c ∈ s.1.l) {v now : Int} (h22 : s.1.check c v now = 22) : s.1.canGo c.s = false := by
  rw [h.canGo hc]
  by_cases hg : c.s ∈ s.1.g
  · simp [hg]
  · unfold Au.check at h22
    split at h22
    · omega
    · split at h22 <;> omega
theorem check_gone {s : Au × Int} (h : Inv s) {c : Ce} (hc : c ∈ s.1.l) (now : Int) : (s.1.revoke c.s).check c c.v now = if decide (c.r ∈ s.1.roots now) = true then 22 else 20 := by
  have hm := mem_roots (a := s.1) (now := now) (h.r1 c hc) (h.r2 c hc)
  rw [hm]
  unfold Au.check
  rw [revoke_gave, revoke_trusted, h.gave hc]
  have := revoke_has h hc
  rcases ht : s.1.trusted c.r now with _ | _ <;> simp [this]
theorem check_else {a : Au} {s : Int} {c : Ce} (hk : c.s ≠ s) (v now : Int) : (a.revoke s).check c v now = a.check c v now := by
  unfold Au.check
  rw [revoke_gave, revoke_trusted]
  simp only [revoke_else a s c.s hk]

/-! ### rotating -/
theorem late_iff (c : Ce) (now : Int) : (now < c.f ∨ c.t ≤ now) ↔ ¬ (c.f ≤ now ∧ now < c.t) := by omega
theorem check_ok {a : Au} {c : Ce} {v now : Int} : a.check c v now = 0 ↔ a.gave c = true ∧ c.v = v ∧ a.trusted c.r now = true ∧ c.s ∉ a.g ∧ c.f ≤ now ∧ now < c.t := by
  unfold Au.check
  by_cases h1 : a.gave c = false ∨ c.v ≠ v ∨ a.trusted c.r now = false
  · rw [if_pos h1]
    refine ⟨fun h => by omega, fun ⟨k1, k2, k3, _⟩ => ?_⟩
    rcases h1 with h1 | h1 | h1
    · rw [h1] at k1; cases k1
    · exact absurd k2 h1
    · rw [h1] at k3; cases k3
  · rw [if_neg h1]
    have k1 : a.gave c = true := by rcases h : a.gave c with _ | _; exact absurd (.inl h) h1; rfl
    have k2 : c.v = v := by by_cases h : c.v = v; exact h; exact absurd (.inr (.inl h)) h1
    have k3 : a.trusted c.r now = true := by rcases h : a.trusted c.r now with _ | _; exact absurd (.inr (.inr h)) h1; rfl
    by_cases h2 : c.s ∈ a.g
    · rw [if_pos h2]
      exact ⟨fun h => by omega, fun ⟨_, _, _, h, _⟩ => absurd h2 h⟩
    · rw [if_neg h2]
      by_cases h3 : now < c.f ∨ c.t ≤ now
      · rw [if_pos h3]
        exact ⟨fun h => by omega, fun ⟨_, _, _, _, h, h'⟩ => by omega⟩
      · rw [if_neg h3]
        exact ⟨fun _ => ⟨k1, k2, k3, h2, by omega, by omega⟩, fun _ => rfl⟩

theorem issue_gave {a : Au} {c : Ce} {v now life : Int} (h : a.gave c = true) : (a.issue v now life).gave c = true := by
  unfold Au.gave at h ⊢
  simp only [Bool.and_eq_true, decide_eq_true_eq] at h ⊢
  refine ⟨h.1, by simp only [Au.issue, List.length_append, List.length_singleton]; omega, ?_⟩
  simp only [Au.issue]
  rw [List.getElem?_append_left (by omega)]
  exact h.2.2
theorem issue_own (a : Au) (v now life : Int) : (a.issue v now life).gave (a.cert v now life) = true := by
  have hs : (a.cert v now life).s = (a.l.length : Int) + 1 := rfl
  have e : ((a.cert v now life).s - 1).toNat = a.l.length := by omega
  have hl : (a.issue v now life).l = a.l ++ [a.cert v now life] := rfl
  unfold Au.gave
  rw [e, hl, decide_eq_true (show 1 ≤ (a.cert v now life).s by omega), decide_eq_true (show (a.cert v now life).s ≤ ((a.l ++ [a.cert v now life]).length : Nat) by simp only [List.length_append, List.length_singleton]; omega)]
  simp
theorem rotate_gave {a : Au} {c : Ce} {now over : Int} : (a.rotate now over).gave c = a.gave c := rfl
theorem issue_trusted (a : Au) (v now life r t : Int) : (a.issue v now life).trusted r t = a.trusted r t := rfl
theorem rotate_n (a : Au) (now over : Int) : (a.rotate now over).n = a.n + 1 := by simp [Au.rotate, Au.n]
/-- An older root is trusted as long as the rotation says, and no longer than it was. -/
theorem rotate_trusted {a : Au} {r now over t : Int} (h1 : 1 ≤ r) (h2 : r ≤ a.n) : (a.rotate now over).trusted r t = (decide (t < now + over) && a.trusted r t) := by
  have hn : a.n = a.u.length + 1 := rfl
  have hn2 := rotate_n a now over
  obtain ⟨k, rfl⟩ : ∃ k : Nat, r = (k : Int) + 1 := ⟨(r - 1).toNat, by omega⟩
  have ek : ((k : Int) + 1 - 1).toNat = k := by omega
  have hx : ¬ ((k : Int) + 1 = (a.rotate now over).n) := by omega
  unfold Au.trusted
  rw [decide_eq_false hx, ek, Bool.false_or]
  by_cases hk : k = a.u.length
  · have e : (a.rotate now over).u.getD k 0 = now + over := by
      unfold Au.rotate
      rw [List.getD_eq_getElem?_getD, List.getElem?_append_right (by simp; omega)]
      simp [hk]
    have e2 : (k : Int) + 1 = a.n := by omega
    rw [e, decide_eq_true e2]
    simp
  · have e : (a.rotate now over).u.getD k 0 = min (a.u.getD k 0) (now + over) := by
      unfold Au.rotate
      rw [List.getD_eq_getElem?_getD, List.getD_eq_getElem?_getD, List.getElem?_append_left (by simp; omega), List.getElem?_map, List.getElem?_eq_getElem (by omega)]
      rfl
    have e2 : ¬ ((k : Int) + 1 = a.n) := by omega
    rw [e, decide_eq_false e2, Bool.false_or]
    generalize a.u.getD k 0 = x
    by_cases p : t < now + over <;> by_cases q : t < x
    · rw [decide_eq_true p, decide_eq_true q, decide_eq_true (by omega)]; rfl
    · rw [decide_eq_true p, decide_eq_false q, decide_eq_false (by omega)]; rfl
    · rw [decide_eq_false p, decide_eq_false (by omega)]; rfl
    · rw [decide_eq_false p, decide_eq_false (by omega)]; rfl

/-- An authority that has given one out, rotated, and given one out. -/
def Au.over (a : Au) (t k : Int) : Au := ((a.issue 1 t 1000).rotate t k).issue 2 t 1000
def Au.fresh (a : Au) (t k : Int) : Ce := ((a.issue 1 t 1000).rotate t k).cert 2 t 1000
theorem over_root (a : Au) (t k : Int) : (a.fresh t k).r = ((a.issue 1 t 1000).rotate t k).n := rfl
theorem fresh_ok {s : Au × Int} (h : Inv s) (k : Int) {at_ : Int} (h1 : s.2 ≤ at_) (h2 : at_ ≤ s.2 + 80) : (s.1.over s.2 k).check (s.1.fresh s.2 k) 2 at_ = 0 := by
  rw [check_ok]
  refine ⟨issue_own _ _ _ _, rfl, ?_, ?_, h1, ?_⟩
  · unfold Au.over Au.fresh
    rw [issue_trusted]
    exact newest_trusted _ _
  · intro hg
    have := (h.gone _ hg).2
    simp only [Au.fresh, Au.cert, Au.rotate, Au.issue, List.length_append, List.length_singleton] at this
    omega
  · show at_ < s.2 + 1000
    omega
theorem fresh_else (a : Au) (t k : Int) : (a.over t k).check (a.fresh t k) 1 t = 20 := by
  unfold Au.check
  rw [if_pos]
  refine .inr (.inl ?_)
  show (2 : Int) ≠ 1
  omega
theorem long_ok {s : Au × Int} (h : Inv s) (k : Int) {at_ : Int} (h1 : s.2 ≤ at_) (h2 : at_ ≤ s.2 + 80) : (s.1.over s.2 k).check (s.1.cert 1 s.2 1000) 1 at_ = 0 ↔ at_ < s.2 + k := by
  have hn : (s.1.issue 1 s.2 1000).n = s.1.n := rfl
  have hr : (s.1.cert 1 s.2 1000).r = s.1.n := rfl
  have ht : (s.1.over s.2 k).trusted (s.1.cert 1 s.2 1000).r at_ = decide (at_ < s.2 + k) := by
    unfold Au.over
    rw [issue_trusted, hr, rotate_trusted (by unfold Au.n; omega) (by rw [hn]; exact Int.le_refl _), issue_trusted, newest_trusted, Bool.and_true]
  rw [check_ok, ht]
  refine ⟨fun h => by simpa using h.2.2.1, fun h3 => ⟨issue_gave (issue_own _ _ _ _), rfl, by simpa using h3, ?_, h1, ?_⟩⟩
  · intro hg
    have := (h.gone _ hg).2
    simp only [Au.cert] at this
    omega
  · show at_ < s.2 + 1000
    omega
theorem fine_ok {s : Au × Int} (h : Inv s) (k : Int) {at_ : Int} (h1 : s.2 ≤ at_) {c : Ce} (hc : c ∈ s.1.l) (hok : (s.1.issue 1 s.2 1000).check c c.v s.2 = 0) :
    (s.1.over s.2 k).check c c.v at_ = 0 ↔ at_ < s.2 + k ∧ at_ < c.t ∧ c.r ∈ (s.1.issue 1 s.2 1000).roots at_ := by
  obtain ⟨k1, _, k3, k4, k5, k6⟩ := check_ok.1 hok
  have hr1 := h.r1 c hc
  have hr2 : c.r ≤ (s.1.issue 1 s.2 1000).n := h.r2 c hc
  have ht : (s.1.over s.2 k).trusted c.r at_ = (decide (at_ < s.2 + k) && decide (c.r ∈ (s.1.issue 1 s.2 1000).roots at_)) := by
    unfold Au.over
    rw [issue_trusted, rotate_trusted hr1 hr2, mem_roots hr1 hr2]
  rw [check_ok, ht]
  simp only [Bool.and_eq_true, decide_eq_true_eq]
  refine ⟨fun h => ⟨h.2.2.1.1, h.2.2.2.2.2, h.2.2.1.2⟩, fun h3 => ⟨issue_gave k1, trivial, ⟨h3.1, h3.2.2⟩, k4, by omega, h3.2.1⟩⟩

end Go.Proofs.Ytjknlijikojbmaa
