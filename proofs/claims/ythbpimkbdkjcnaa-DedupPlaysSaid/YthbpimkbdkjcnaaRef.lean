/- The document's answer for a table: what its Has, Put and Len tell of a list of pairs. -/
import Derived.Test.YthbpimkbdkjcnaaAsksW
namespace Go.Proofs.Ythbpimkbdkjcnaa
open Go.RowKit

theorem pair_cells {w : World} {base e : Nat} {A : Option Addr} {c : Nat} {H : Prs} (h : w.ownsRow base e 2 (.slice A H.length c) H.length (flat H)) {i : Nat} {y : ByteArray × Int} (hy : H[i]? = some y) :
    ∃ g, A = some ⟨g, 0, none⟩ ∧ w.cell? ⟨g, i * 2, none⟩ = some (.string y.1) ∧ w.cell? ⟨g, i * 2 + 1, none⟩ = some (.int .i64 y.2) := by
  have hl := (List.getElem?_eq_some_iff.1 hy).1
  obtain ⟨g, cap', hv, _, _⟩ := h.form (by omega)
  injection hv with e1 e2 e3
  subst e1
  subst e3
  obtain ⟨f1, f2⟩ := flat_at H i y hy
  exact ⟨g, rfl, by rw [h.cellAt _ (by omega), f1], by rw [h.cellAt _ (by omega), f2]⟩

/-- No pair ahead of i is of the key and remembered yet. -/
def NoneYet (h now : Int) (H : Prs) (k : ByteArray) (i : Nat) : Prop := ∀ j x, j < i → H[j]? = some x → ¬ (x.1 = k ∧ now - x.2 < h)

theorem none_all {h now : Int} {H : Prs} {k : ByteArray} (hn : NoneYet h now H k H.length) : hasL h now H k = false := by
  unfold hasL
  rw [List.any_eq_false]
  intro x hx
  obtain ⟨j, hj⟩ := List.mem_iff_getElem?.1 hx
  have := hn j x (List.getElem?_eq_some_iff.1 hj).1 hj
  simpa using this

set_option maxHeartbeats 600000 in
theorem ref_has (base : Nat) (A : Option Addr) (c : Nat) (H : Prs) (h now : Int) (k : ByteArray) (w : World) (ho : w.ownsRow base 54 2 (.slice A H.length c) H.length (flat H)) (hl : H.length ≤ 100000)
    (hat : ∀ x ∈ H, 0 ≤ x.2 ∧ x.2 ≤ now) (h1 : 1 ≤ h) (h2 : h ≤ 100000) (h4 : now ≤ 4294967296) :
    Calls Try.prog 16 #[.slice A H.length c, .int .i64 h, .int .i64 now, .string k] w fun e w' => e = .returned (.bool (hasL h now H k)) ∧ w = w' := by
  have HO := Lib.hid ho
  have HAT := Lib.hid hat
  clear ho hat
  go_enter Try.func16, Try.ntmps16
  go_wp2_with fail
  go_loop [9] (fun i => ∃ j : Nat, j ≤ H.length ∧ i = .int .i64 j ∧ NoneYet h now H k j) (fun i => H.length - (intOf i).toNat)
  case atStart => exact ⟨0, Nat.zero_le _, rfl, fun j x hj => by omega⟩
  case round =>
    obtain ⟨j, hj, rfl, hno⟩ := hrel
    have HNO := Lib.hid hno
    clear hno
    by_cases hlt : j < H.length
    · obtain ⟨y, hy⟩ : ∃ y, H[j]? = some y := ⟨_, List.getElem?_eq_getElem hlt⟩
      obtain ⟨g, rfl, c0, c1⟩ := pair_cells HO.out hy
      have hm := HAT.out y (List.mem_of_getElem? hy)
      have hm1 := hm.1
      have hm2 := hm.2
      have HY := Lib.hid hy
      clear hy hm
      by_cases hk : y.1 = k
      · have hkb := text_eq hk
        have HK := Lib.hid hk
        clear hk
        by_cases hv : now - y.2 < h
        · have hb : hasL h now H k = true := by
            unfold hasL
            rw [List.any_eq_true]
            exact ⟨y, List.mem_of_getElem? HY.out, by simp only [decide_eq_true_eq]; exact ⟨HK.out, hv⟩⟩
          have HB := Lib.hid hb
          have hv' : now < y.2 + h := by omega
          clear hb
          go_wp2_with fail
          go_ret
          exact ⟨by rw [HB.out]; rfl, rfl⟩
        · have hv' : ¬ now < y.2 + h := by omega
          go_wp2_with fail
          refine ⟨⟨j + 1, by omega, by go_num, ?_⟩, by simp [intOf]; omega⟩
          intro j' x hj' hx
          rcases Nat.lt_or_ge j' j with h5 | h5
          · exact HNO.out j' x h5 hx
          · obtain rfl : j' = j := by omega
            rw [HY.out] at hx
            injection hx with hx
            rw [← hx]
            omega
      · have hkb := text_ne hk
        have HK := Lib.hid hk
        clear hk
        go_wp2_with fail
        refine ⟨⟨j + 1, by omega, by go_num, ?_⟩, by simp [intOf]; omega⟩
        intro j' x hj' hx
        rcases Nat.lt_or_ge j' j with h5 | h5
        · exact HNO.out j' x h5 hx
        · obtain rfl : j' = j := by omega
          rw [HY.out] at hx
          injection hx with hx
          rw [← hx]
          exact fun hh => HK.out hh.1
    · have ej : j = H.length := by omega
      have hb : hasL h now H k = false := none_all (by rw [← ej]; exact HNO.out)
      have HB := Lib.hid hb
      clear hb ej
      go_wp2_with fail
      go_ret
      exact ⟨by rw [HB.out]; rfl, rfl⟩

theorem live_take {h now : Int} {H : Prs} {j : Nat} {y : ByteArray × Int} (hy : H[j]? = some y) : (live h now (H.take (j + 1))).length = (live h now (H.take j)).length + (if now - y.2 < h then 1 else 0) := by
  rw [take_more hy]
  unfold live
  rw [List.filter_append, List.length_append]
  congr 1
  by_cases hh : now - y.2 < h <;> simp [hh]

set_option maxHeartbeats 600000 in
theorem ref_len (base : Nat) (A : Option Addr) (c : Nat) (H : Prs) (h now : Int) (w : World) (ho : w.ownsRow base 54 2 (.slice A H.length c) H.length (flat H)) (hl : H.length ≤ 100000)
    (hat : ∀ x ∈ H, 0 ≤ x.2 ∧ x.2 ≤ now) (h1 : 1 ≤ h) (h2 : h ≤ 100000) (h4 : now ≤ 4294967296) :
    Calls Try.prog 19 #[.slice A H.length c, .int .i64 h, .int .i64 now] w fun e w' => e = .returned (.int .i64 (live h now H).length) ∧ w = w' := by
  have HO := Lib.hid ho
  have HAT := Lib.hid hat
  clear ho hat
  go_enter Try.func19, Try.ntmps19
  go_wp2_with fail
  go_loop [7, 8] (fun n i => ∃ j : Nat, j ≤ H.length ∧ i = .int .i64 j ∧ n = .int .i64 (live h now (H.take j)).length) (fun _ i => H.length - (intOf i).toNat)
  case atStart => exact ⟨0, Nat.zero_le _, rfl, rfl⟩
  case round =>
    obtain ⟨j, hj, rfl, rfl⟩ := hrel
    have hb1 := live_length h now (H.take j)
    have hb2 : (H.take j).length ≤ j := List.length_take_le _ _
    by_cases hlt : j < H.length
    · obtain ⟨y, hy⟩ : ∃ y, H[j]? = some y := ⟨_, List.getElem?_eq_getElem hlt⟩
      obtain ⟨g, rfl, c0, c1⟩ := pair_cells HO.out hy
      have hm := HAT.out y (List.mem_of_getElem? hy)
      have hm1 := hm.1
      have hm2 := hm.2
      have LT := Lib.hid (live_take (h := h) (now := now) hy)
      clear hy hm
      generalize hm0 : (live h now (H.take j)).length = m at *
      have HM0 := Lib.hid hm0
      clear hm0
      by_cases hv : now - y.2 < h
      · have hv' : now < y.2 + h := by omega
        have e1 : (live h now (H.take (j + 1))).length = m + 1 := by rw [LT.out, if_pos hv]
        have E1 := Lib.hid e1
        clear e1
        go_wp2_with fail
        exact ⟨⟨j + 1, by omega, by go_num, by rw [E1.out]; go_num⟩, by simp [intOf]; omega⟩
      · have hv' : ¬ now < y.2 + h := by omega
        have e1 : (live h now (H.take (j + 1))).length = m := by rw [LT.out, if_neg hv]; rfl
        have E1 := Lib.hid e1
        clear e1
        go_wp2_with fail
        exact ⟨⟨j + 1, by omega, by go_num, by rw [E1.out]⟩, by simp [intOf]; omega⟩
    · have et : H.take j = H := List.take_of_length_le (by omega)
      generalize hm0 : (live h now (H.take j)).length = m at *
      rw [et] at hm0
      have HM0 := Lib.hid hm0
      clear et hm0
      go_wp2_with fail
      go_ret
      exact ⟨by rw [HM0.out]; rfl, rfl⟩

end Go.Proofs.Ythbpimkbdkjcnaa
