/- The plain law of a table: what is let go, and what is left, as lists. -/
import Derived.Test.YthbpimkbdkjcnaaForget
namespace Go.Proofs.Ythbpimkbdkjcnaa
open Go.RowKit

/-- What is remembered yet. -/
def live (h now : Int) (L : Prs) : Prs := L.filter fun x => decide (now - x.2 < h)
/-- Is a key remembered? -/
def hasL (h now : Int) (L : Prs) (k : ByteArray) : Bool := L.any fun x => decide (x.1 = k ∧ now - x.2 < h)
/-- A list of pairs as a table holds it at a tick: no key twice, in the row in which they were put, none later than the tick. -/
structure Ok (t : Int) (L : Prs) : Prop where
  keys : (L.map (·.1)).Nodup
  sorted : L.Pairwise (fun a b => a.2 ≤ b.2)
  low : ∀ x ∈ L, 0 ≤ x.2
  high : ∀ x ∈ L, x.2 ≤ t

theorem Ok.nil (t : Int) : Ok t [] := ⟨by simp, by simp, by simp, by simp⟩
theorem Ok.later {t t' : Int} {L : Prs} (h : Ok t L) (ht : t ≤ t') : Ok t' L := ⟨h.keys, h.sorted, h.low, fun x hx => Int.le_trans (h.high x hx) ht⟩
theorem Ok.of_live {t : Int} {L : Prs} (h : Ok t L) (hz now : Int) : Ok t (live hz now L) :=
  ⟨h.keys.sublist (List.filter_sublist.map _), h.sorted.sublist List.filter_sublist, fun x hx => h.low x (List.mem_filter.1 hx).1, fun x hx => h.high x (List.mem_filter.1 hx).1⟩
theorem live_length (h now : Int) (L : Prs) : (live h now L).length ≤ L.length := List.length_filter_le _ _
theorem mem_live {h now : Int} {L : Prs} {x : ByteArray × Int} : x ∈ live h now L ↔ x ∈ L ∧ now - x.2 < h := by simp [live]

/-- The cut of a row that is sorted. -/
structure CutAt (h now : Int) (R : Prs) (j : Nat) : Prop where
  le : j ≤ R.length
  over : ∀ i x, i < j → R[i]? = some x → h ≤ now - x.2
  here : ∀ x, R[j]? = some x → now - x.2 < h

theorem cut_take {h now : Int} {R : Prs} {j : Nat} (c : CutAt h now R j) : ∀ x ∈ R.take j, h ≤ now - x.2 := by
  intro x hx
  obtain ⟨i, hi⟩ := List.mem_iff_getElem?.1 hx
  rw [List.getElem?_take] at hi
  split at hi
  · exact c.over i x ‹_› hi
  · cases hi

theorem cut_drop {h now : Int} {R : Prs} {j : Nat} (c : CutAt h now R j) (hs : R.Pairwise (fun a b => a.2 ≤ b.2)) : ∀ x ∈ R.drop j, now - x.2 < h := by
  intro x hx
  rcases hd : R.drop j with _ | ⟨y, r⟩
  · rw [hd] at hx; cases hx
  · have hy : R[j]? = some y := by
      have : (R.drop j)[0]? = some y := by rw [hd]; rfl
      rwa [List.getElem?_drop, Nat.add_zero] at this
    have h1 := c.here y hy
    rw [hd] at hx
    rcases List.mem_cons.1 hx with rfl | hx
    · exact h1
    · have hp : (R.drop j).Pairwise (fun a b => a.2 ≤ b.2) := hs.sublist (List.drop_sublist _ _)
      rw [hd, List.pairwise_cons] at hp
      have := hp.1 x hx
      omega

theorem cut_live {h now : Int} {R : Prs} {j : Nat} (c : CutAt h now R j) (hs : R.Pairwise (fun a b => a.2 ≤ b.2)) : R.drop j = live h now R := by
  have e : R = R.take j ++ R.drop j := (List.take_append_drop j R).symm
  unfold live
  rw [e, List.filter_append]
  have e1 : (R.take j).filter (fun x => decide (now - x.2 < h)) = [] := by
    rw [List.filter_eq_nil_iff]
    intro x hx
    have := cut_take c x hx
    simp only [decide_eq_true_eq]
    omega
  have e2 : (R.drop j).filter (fun x => decide (now - x.2 < h)) = R.drop j := by
    rw [List.filter_eq_self]
    intro x hx
    simpa using cut_drop c hs x hx
  rw [e1, e2, List.nil_append, ← e]

theorem cut_less {h now : Int} {M R : Prs} {j : Nat} (c : CutAt h now R j) (hs : R.Pairwise (fun a b => a.2 ≤ b.2)) (hM : ∀ x ∈ M, x ∈ R) : less M (R.take j) = live h now M := by
  unfold less live
  apply List.filter_congr
  intro x hx
  rw [Bool.eq_iff_iff]
  simp only [decide_eq_true_eq]
  constructor
  · intro hn
    have hR := hM x hx
    rw [← List.take_append_drop j R, List.mem_append] at hR
    rcases hR with h1 | h1
    · exact absurd h1 hn
    · exact cut_drop c hs x h1
  · intro hn h1
    have := cut_take c x h1
    omega

/-- What a Put leaves behind the forgetting. -/
theorem put_live {h now : Int} {L : Prs} {k : ByteArray} (hno : hasL h now L k = false) : live h now ((k, now) :: without L k) = live h now [(k, now)] ++ live h now L := by
  have e : live h now (without L k) = live h now L := by
    unfold live without
    rw [List.filter_filter]
    apply List.filter_congr
    intro x hx
    rw [Bool.eq_iff_iff]
    simp only [Bool.and_eq_true, decide_eq_true_eq, ne_eq]
    constructor
    · exact fun h => h.1
    · intro h1
      refine ⟨h1, fun hk => ?_⟩
      unfold hasL at hno
      rw [List.any_eq_false] at hno
      have h2 := hno x hx
      simp only [decide_eq_true_eq] at h2
      exact h2 ⟨hk, h1⟩
  rw [← e]
  simp only [live, List.filter_cons, List.filter_nil]
  split <;> simp

theorem Ok.put {h now t : Int} {L : Prs} {k : ByteArray} (hOk : Ok t L) (ht : t ≤ now) (h0 : 0 ≤ now) (hno : hasL h now L k = false) : Ok now (live h now L ++ [(k, now)]) := by
  have h1 := (hOk.of_live h now).later ht
  refine ⟨?_, ?_, ?_, ?_⟩
  · rw [List.map_append, List.nodup_append]
    refine ⟨h1.keys, by simp, ?_⟩
    intro a ha b hb e
    simp only [List.map_cons, List.map_nil, List.mem_singleton] at hb
    subst hb
    subst e
    obtain ⟨x, hx, hxe⟩ := List.mem_map.1 ha
    obtain ⟨hx1, hx2⟩ := mem_live.1 hx
    unfold hasL at hno
    rw [List.any_eq_false] at hno
    have h2 := hno x hx1
    simp only [decide_eq_true_eq] at h2
    exact h2 ⟨hxe, hx2⟩
  · rw [List.pairwise_append]
    refine ⟨h1.sorted, by simp, ?_⟩
    intro a ha b hb
    simp only [List.mem_singleton] at hb
    subst hb
    exact h1.high a ha
  · intro x hx
    rcases List.mem_append.1 hx with h2 | h2
    · exact h1.low x h2
    · simp only [List.mem_singleton] at h2
      subst h2
      exact h0
  · intro x hx
    rcases List.mem_append.1 hx with h2 | h2
    · exact h1.high x h2
    · simp only [List.mem_singleton] at h2
      subst h2
      exact Int.le_refl _

theorem hasL_true {h now : Int} {L : Prs} {k : ByteArray} (hh : hasL h now L k = true) : ∃ a, (k, a) ∈ L ∧ now - a < h := by
  unfold hasL at hh
  rw [List.any_eq_true] at hh
  obtain ⟨x, hx, h2⟩ := hh
  obtain ⟨h3, h4⟩ := by simpa using h2
  subst h3
  exact ⟨x.2, hx, h4⟩
theorem hasL_false {h now : Int} {L : Prs} {k : ByteArray} (hh : hasL h now L k = false) : ∀ a, (k, a) ∈ L → h ≤ now - a := by
  intro a ha
  unfold hasL at hh
  rw [List.any_eq_false] at hh
  have := hh (k, a) ha
  simp at this
  omega

/-- The table behind forgetting, where map and row agree. -/
theorem fg_same {w : World} {F : Nat → Prop} {p : Nat} {h now : Int} {L : Prs} {t : Int} {e : Ending} {w' : World} (hOk : Ok t L) (hp : FgPost w F p h now L L e w') :
    e = .returned (.tuple #[]) ∧ Tab w' F p h (live h now L) (live h now L) ∧ Chg F w w' := by
  obtain ⟨he, j, h1, h2, h3, h4, h5⟩ := hp
  have c : CutAt h now L j := ⟨h1, h2, h3⟩
  rw [cut_less c hOk.sorted (fun x hx => hx), cut_live c hOk.sorted] at h4
  exact ⟨he, h4, h5⟩

theorem Tab.perm {w : World} {F : Nat → Prop} {p : Nat} {h : Int} {M M' R : Prs} (ht : Tab w F p h M R) (hp : M.Perm M') : Tab w F p h M' R := by
  obtain ⟨b, v, h1, h2, r⟩ := ht
  exact ⟨b, v, h1, h2.perm hp, r⟩

/-- .. and where a key has just been put. -/
theorem fg_put {w : World} {F : Nat → Prop} {p : Nat} {h now : Int} {L : Prs} {t : Int} {k : ByteArray} {e : Ending} {w' : World} (hOk : Ok t L) (hh : 1 ≤ h) (ht : t ≤ now) (hno : hasL h now L k = false)
    (hp : FgPost w F p h now ((k, now) :: without L k) (L ++ [(k, now)]) e w') :
    e = .returned (.tuple #[]) ∧ Tab w' F p h (live h now L ++ [(k, now)]) (live h now L ++ [(k, now)]) ∧ Chg F w w' := by
  obtain ⟨he, j, h1, h2, h3, h4, h5⟩ := hp
  have c : CutAt h now (L ++ [(k, now)]) j := ⟨h1, h2, h3⟩
  have hs : (L ++ [(k, now)]).Pairwise (fun a b => a.2 ≤ b.2) := by
    rw [List.pairwise_append]
    refine ⟨hOk.sorted, by simp, ?_⟩
    intro a ha b hb
    simp only [List.mem_singleton] at hb
    subst hb
    exact Int.le_trans (hOk.high a ha) ht
  have el : live h now [(k, now)] = [(k, now)] := by simp [live]; omega
  have e2 : live h now (L ++ [(k, now)]) = live h now L ++ [(k, now)] := by
    rw [← el]
    unfold live
    rw [List.filter_append, List.filter_filter]
    simp
  rw [cut_less c hs, cut_live c hs, e2, put_live hno, el] at h4
  · exact ⟨he, h4.perm (List.perm_append_comm), h5⟩
  · intro x hx
    rcases List.mem_cons.1 hx with h6 | h6
    · rw [h6]; simp
    · exact List.mem_append.2 (.inl (mem_without.1 h6).1)

end Go.Proofs.Ythbpimkbdkjcnaa
