/- DedupSpans's walk: of as many ticks in a row as the horizon a key is put with true in just one. -/
import Derived.Test.YthbpimkbdkjcnaaEdgesW
namespace Go.Proofs.Ythbpimkbdkjcnaa
open Go.RowKit

abbrev k70 : ByteArray := { data := #[55, 47, 48] }

/-- Behind the ticks below now: the key was put with true at m * h last (nothing yet at 0); so many of these times are n or later. -/
def SpRel (w : World) (p : Nat) (h n : Int) (many nw : Value) (wr : World) : Prop :=
  ∃ (j : Nat), nw = .int .i64 j ∧ (j : Int) ≤ n + h ∧
    ((j = 0 ∧ Lone w wr p h [] ∧ many = .int .i64 0) ∨
     ∃ (l c : Int), 0 ≤ l ∧ l < (j : Int) ∧ (j : Int) - l ≤ h ∧ Lone w wr p h [(k70, l)] ∧ many = .int .i64 c ∧ ((l < n ∧ c = 0) ∨ (n ≤ l ∧ c = 1 ∧ l < n + h)))

set_option maxHeartbeats 1000000 in
theorem spans_walk (a0 a1 : Int) (w : World) (h1 : -9223372036854775808 ≤ a0) (h2 : a0 ≤ 9223372036854775807) (h3 : -9223372036854775808 ≤ a1) (h4 : a1 ≤ 9223372036854775807) :
    Calls Try.prog 8 #[.int .i64 a0, .int .i64 a1] w fun e w' => e = .returned (.bool true) ∧ Below w.heap.size w w' := by
  go_enter Try.func8, Try.ntmps8
  go_wp2_with fail
  refine (horizon_some a0 _ h1 h2).mono ?_
  rintro e w' ⟨h, hh1, hh2, rfl, rfl⟩
  clear h1 h2
  go_wp2_with fail
  refine (lone_new h (Below.refl _ _)).mono ?_
  rintro e w1 ⟨p, rfl, T1⟩
  have H1 := Lib.hid T1
  clear T1
  go_wp2_with fail
  refine (around_some a1 _ _ h3 h4 (by omega) (by omega)).mono ?_
  rintro e w2 ⟨n, hn1, hn2, rfl, rfl⟩
  clear h3 h4
  go_wp2_with fail
  go_loopw [8, 9] (fun many nw wr => SpRel w p h n many nw wr) (fun _ nw _ => (n + h - intOf nw).toNat)
  case atStart => exact ⟨0, rfl, by omega, .inl ⟨rfl, H1.out, rfl⟩⟩
  case round =>
    clear H1
    obtain ⟨j, rfl, hj, hcase⟩ := hrel
    by_cases hlt : (j : Int) < n + h
    · rcases hcase with ⟨hj0, T, rfl⟩ | ⟨l, c, hl0, hl1, hl2, T, rfl, hc⟩
      · have H := Lib.hid T
        have HJ := Lib.hid hj0
        clear T hj0
        go_wp2_with fail
        refine (lone_put H.out (Ok.nil 0) _ k70 hh1 (by omega) (by omega) (by omega) (by simp) true [(k70, (j : Int))] (one_new _ _ _).1 (one_new _ _ _).2).mono ?_
        rintro e w3 ⟨rfl, T3⟩
        have H3 := Lib.hid T3
        clear T3 H
        by_cases hn : n ≤ (j : Int)
        · go_wp2_with fail
          refine (lone_len H3.out (ok_one k70 (by omega) (Int.le_refl (j : Int))) _ (by omega) (by omega) (by omega) (by simp) 1 [(k70, (j : Int))] (by rw [(one_in (h := h) (n := (j : Int)) (t := (j : Int)) k70 (by omega)).2.1]; rfl) (one_in k70 (by omega)).2.1).mono ?_
          rintro e w4 ⟨rfl, T4⟩
          have H4 := Lib.hid T4
          clear T4 H3
          go_wp2_with fail
          exact ⟨⟨j + 1, by go_num, by omega, .inr ⟨j, _, by omega, by omega, by omega, H4.out, rfl, .inr ⟨by omega, by omega, by omega⟩⟩⟩, by simp [intOf]; omega⟩
        · go_wp2_with fail
          refine (lone_len H3.out (ok_one k70 (by omega) (Int.le_refl (j : Int))) _ (by omega) (by omega) (by omega) (by simp) 1 [(k70, (j : Int))] (by rw [(one_in (h := h) (n := (j : Int)) (t := (j : Int)) k70 (by omega)).2.1]; rfl) (one_in k70 (by omega)).2.1).mono ?_
          rintro e w4 ⟨rfl, T4⟩
          have H4 := Lib.hid T4
          clear T4 H3
          go_wp2_with fail
          exact ⟨⟨j + 1, by go_num, by omega, .inr ⟨j, _, by omega, by omega, by omega, H4.out, rfl, .inl ⟨by omega, by omega⟩⟩⟩, by simp [intOf]; omega⟩
      · have H := Lib.hid T
        have hc0 : 0 ≤ c := by omega
        have hc1 : c ≤ 1 := by omega
        have HC := Lib.hid hc
        clear T hc
        by_cases ho : (j : Int) - l < h
        · go_wp2_with fail
          refine (lone_put H.out (ok_one k70 hl0 (Int.le_of_lt hl1)) _ k70 hh1 (by omega) (by omega) (by omega) (by simp) false [(k70, l)] (one_in k70 ho).1 (one_in k70 ho).2.2).mono ?_
          rintro e w3 ⟨rfl, T3⟩
          have H3 := Lib.hid T3
          clear T3 H
          go_wp2_with fail
          refine (lone_len H3.out (ok_one k70 hl0 (Int.le_of_lt hl1)) _ (by omega) (by omega) (by omega) (by simp) 1 [(k70, l)] (by rw [(one_in k70 ho).2.1]; rfl) (one_in k70 ho).2.1).mono ?_
          rintro e w4 ⟨rfl, T4⟩
          have H4 := Lib.hid T4
          clear T4 H3
          go_wp2_with fail
          have hc := HC.out
          exact ⟨⟨j + 1, by go_num, by omega, .inr ⟨l, c, by omega, by omega, by omega, H4.out, rfl, hc⟩⟩, by simp [intOf]; omega⟩
        · have ho' : h ≤ (j : Int) - l := by omega
          go_wp2_with fail
          refine (lone_put H.out (ok_one k70 hl0 (Int.le_of_lt hl1)) _ k70 hh1 (by omega) (by omega) (by omega) (by simp) true [(k70, (j : Int))] (one_out k70 ho').1 (one_out k70 ho').2.2).mono ?_
          rintro e w3 ⟨rfl, T3⟩
          have H3 := Lib.hid T3
          clear T3 H
          by_cases hn : n ≤ (j : Int)
          · go_wp2_with fail
            refine (lone_len H3.out (ok_one k70 (by omega) (Int.le_refl (j : Int))) _ (by omega) (by omega) (by omega) (by simp) 1 [(k70, (j : Int))] (by rw [(one_in (h := h) (n := (j : Int)) (t := (j : Int)) k70 (by omega)).2.1]; rfl) (one_in k70 (by omega)).2.1).mono ?_
            rintro e w4 ⟨rfl, T4⟩
            have H4 := Lib.hid T4
            clear T4 H3
            go_wp2_with fail
            have hc := HC.out
            exact ⟨⟨j + 1, by go_num, by omega, .inr ⟨j, _, by omega, by omega, by omega, H4.out, rfl, .inr ⟨by omega, by omega, by omega⟩⟩⟩, by simp [intOf]; omega⟩
          · go_wp2_with fail
            refine (lone_len H3.out (ok_one k70 (by omega) (Int.le_refl (j : Int))) _ (by omega) (by omega) (by omega) (by simp) 1 [(k70, (j : Int))] (by rw [(one_in (h := h) (n := (j : Int)) (t := (j : Int)) k70 (by omega)).2.1]; rfl) (one_in k70 (by omega)).2.1).mono ?_
            rintro e w4 ⟨rfl, T4⟩
            have H4 := Lib.hid T4
            clear T4 H3
            go_wp2_with fail
            have hc := HC.out
            exact ⟨⟨j + 1, by go_num, by omega, .inr ⟨j, c, by omega, by omega, by omega, H4.out, rfl, .inl ⟨by omega, by omega⟩⟩⟩, by simp [intOf]; omega⟩
    · rcases hcase with ⟨hj0, T, rfl⟩ | ⟨l, c, hl0, hl1, hl2, T, rfl, hc⟩
      · omega
      · have hc1 : c = 1 := by omega
        have hcb : (c == 1) = true := by simp [hc1]
        have H := Lib.hid T
        clear T hc hc1
        go_wp2_with fail
        refine (lives_any _).mono ?_
        rintro e w3 ⟨rfl, b3⟩
        have B3 := Lib.hid b3
        clear b3
        go_wp2_with fail
        go_ret
        obtain ⟨_, _, _, b⟩ := H.out
        exact ⟨rfl, below_next b B3.out⟩

end Go.Proofs.Ythbpimkbdkjcnaa
