/- LeaseSums answers true: the sum of what is asked in one window is the limit, in slices. No conditions. -/
import Derived.Test.YtaibhfcoapelcaaLives
namespace Go.Proofs.Ytaibhfcoapelcaa
open Go.RowKit

def SumsRel (w : World) (g rb : Nat) (L W S t k : Int) (s i : Value) (wr : World) : Prop :=
  ∃ (j : Nat) (kk n : Int), (j : Int) ≤ k ∧ i = .int .i64 j ∧ s = .int .i64 (min L (j * S)) ∧ Blk wr g 64 #[.int .i64 W, .int .i64 kk, .int .i64 n, .int .i64 L, .int .i64 S] ∧
    kn W kk n t = min L (j * S) ∧ 0 ≤ n ∧ n ≤ L ∧ Blk wr rb 23 #[.int .i64 L, .int .i64 W, .int .i64 S] ∧ Below w.heap.size w wr

set_option maxHeartbeats 1000000 in
theorem sums_walk (n now often : Int) (w : World) (h1 : -9223372036854775808 ≤ n) (h2 : n ≤ 9223372036854775807) (h3 : -9223372036854775808 ≤ now) (h4 : now ≤ 9223372036854775807)
    (h5 : -9223372036854775808 ≤ often) (h6 : often ≤ 9223372036854775807) :
    Calls Try.prog 3 #[.int .i64 n, .int .i64 now, .int .i64 often] w fun e w' => e = .returned (.bool true) ∧ Below w.heap.size w w' := by
  go_enter Try.func3, Try.ntmps3
  go_wp2_with fail
  refine (rate_any n _ h1 h2).mono ?_
  rintro e w1 ⟨L, W, S, hL1, hL2, hW1, hW2, hS1, hS2, rfl, l1⟩
  have L1 := Lib.hid l1
  clear l1 h1 h2
  go_wp2_with fail
  refine (around_some now _ _ h3 h4 (by omega) (by omega)).mono ?_
  rintro e w2 ⟨t, ht1, ht2, rfl, rfl⟩
  clear h3 h4
  go_wp2_with fail
  refine (limiter_new L W S _).mono ?_
  rintro e w2 ⟨g, hg, rfl, b2, l2⟩
  have r2 := (Blk.new w1 23 #[.int .i64 L, .int .i64 W, .int .i64 S]).below l2 (by simp)
  have L2 := Lib.hid (below_next (below_alloc L1.out _) l2)
  have HR : Hid (w.heap.size ≤ w1.heap.size) := L1.out.size
  have HG : Hid (w1.heap.size < g) := by rw [World.size_alloc] at hg; exact hg
  clear l2 hg
  generalize w1.heap.size = rb at *
  clear L1
  have B2 := Lib.hid b2
  have R2 := Lib.hid r2
  clear b2 r2
  go_wp2_with fail
  refine (around_some often _ _ h5 h6 (by omega) (by omega)).mono ?_
  rintro e w3 ⟨k, hk1, hk2, rfl, rfl⟩
  clear h5 h6
  go_wp2_with fail
  go_loopw [10, 12] (fun s i wr => SumsRel w g rb L W S t k s i wr) (fun _ i _ => (k - intOf i).toNat)
  case atStart => exact ⟨0, 0, 0, hk1, rfl, by simp; omega, B2.out, by simp [kn]; omega, by omega, by omega, R2.out, L2.out⟩
  case round =>
    obtain ⟨j, kk, n, hj, rfl, rfl, b, hkn, hn0, hnL, r, l⟩ := hrel
    have hjs0 : 0 ≤ (j : Int) * S := Int.mul_nonneg (by omega) (by omega)
    have hjs1 : ((j : Int) + 1) * S = (j : Int) * S + S := by rw [Int.add_mul]; omega
    have HJ := Lib.hid hjs1
    clear hjs1
    generalize hjs : (j : Int) * S = js at *
    have HJS := Lib.hid hjs
    clear hjs
    have ha := ask_any g W kk n L S t _ b hW1 (by omega) ht1 (by omega) hL1 (by omega) hS1 (by omega) hn0 hnL
    unfold AskPost at ha
    rw [hkn] at ha
    have s1 : 0 ≤ min L js := by omega
    have s2 : min L js ≤ L := by omega
    generalize hs : min L js = s at *
    have m1 : 0 ≤ min S (L - s) := by omega
    have m2 : min S (L - s) ≤ S := by omega
    have m3 : s + min S (L - s) ≤ L := by omega
    have m4 : min S (L - s) < S → s + min S (L - s) = L := by omega
    have m5 : s + min S (L - s) = min L (js + S) := by omega
    generalize min S (L - s) = m at *
    have HA := Lib.hid ha
    have HS := Lib.hid hs
    have HM4 := Lib.hid m4
    have HM5 := Lib.hid m5
    have HK := Lib.hid hkn
    clear ha hs m4 m5 hkn
    by_cases hlt : (j : Int) < k
    · go_wp2_with fail
      refine HA.out.mono ?_
      rintro e w3 ⟨rfl, g3, b3⟩
      have r3 := Blk.grown r g3 (by simp; have := HG.out; omega)
      have c0 := r3.cell 0
      have c2 := r3.cell 2
      simp at c0 c2
      have L3 := Lib.hid (below_step l g3 (by have := HR.out; have := HG.out; omega))
      have B3 := Lib.hid b3
      have R3 := Lib.hid r3
      clear b r l g3 b3 r3
      by_cases hms : m < S
      · have e4 := HM4.out hms
        have E4 : (s + m != L) = false := by simp [e4]
        have E5 : (s + m) = L := e4
        have HE := Lib.hid E5
        clear e4 E5
        go_wp2
        refine ⟨⟨j + 1, _, _, by omega, by go_num, ?_, B3.out, ?_, by omega, by omega, R3.out, L3.out⟩, by simp [intOf]; omega⟩
        · rw [show ((j + 1 : Nat) : Int) = (j : Int) + 1 from by omega, HJ.out, ← HM5.out]
        · rw [show ((j + 1 : Nat) : Int) = (j : Int) + 1 from by omega, HJ.out, ← HM5.out]
          unfold kn
          rw [if_pos rfl]
      · go_wp2
        refine ⟨⟨j + 1, _, _, by omega, by go_num, ?_, B3.out, ?_, by omega, by omega, R3.out, L3.out⟩, by simp [intOf]; omega⟩
        · rw [show ((j + 1 : Nat) : Int) = (j : Int) + 1 from by omega, HJ.out, ← HM5.out]
        · rw [show ((j + 1 : Nat) : Int) = (j : Int) + 1 from by omega, HJ.out, ← HM5.out]
          unfold kn
          rw [if_pos rfl]
    · have ejk : (j : Int) = k := by omega
      have hks : k * S = js := by rw [← ejk]; exact HJS.out
      have c0 := r.cell 0
      have c1 := r.cell 1
      have c2 := r.cell 2
      simp at c0 c1 c2
      have hif : (if js < L then js else L) = s := by have := HS.out; split <;> omega
      have hks1 : js ≤ 1000 := by
        have : k * S ≤ 16 * 12 := Int.mul_le_mul (by omega) (by omega) (by omega) (by omega)
        omega
      have B3 := Lib.hid b
      have R3 := Lib.hid r
      have L3 := Lib.hid l
      clear b r l
      have HE := Lib.hid ejk
      clear ejk HA
      go_wp2_with fail
      refine (forget_any g W kk n L S t _ B3.out hW1 (by omega) ht1 (by omega)).mono ?_
      rintro e w3 ⟨rfl, g3, b3⟩
      have hne : ∀ (a b : World), a.grownBy b (some g) → Blk a rb 23 #[.int .i64 L, .int .i64 W, .int .i64 S] → Blk b rb 23 #[.int .i64 L, .int .i64 W, .int .i64 S] :=
        fun a b hab hr => hr.grown hab (by simp; have := HG.out; omega)
      have NE := Lib.hid hne
      have L4 := Lib.hid (below_step L3.out g3 (by have := HR.out; have := HG.out; omega))
      have R4 := Lib.hid (hne _ _ g3 R3.out)
      have B4 := Lib.hid b3
      clear hne g3 b3 hks hif c0 c1 c2
      go_wp2_with fail
      have k1 : kn W (t / W) L t = L := by unfold kn; rw [if_pos rfl]
      refine (ask_is g W (t / W) L L S t 0 L (t / W) L _ B4.out hW1 (by omega) ht1 (by omega) hL1 (by omega) hS1 (by omega) (by omega) (by omega) k1 (by omega) rfl (by omega)).mono ?_
      rintro e w4 ⟨rfl, g4, b4⟩
      have L5 := Lib.hid (below_step L4.out g4 (by have := HR.out; have := HG.out; omega))
      have r5 := NE.out _ _ g4 R4.out
      have c1 := r5.cell 1
      simp at c1
      have R5 := Lib.hid r5
      have B5 := Lib.hid b4
      clear g4 b4 r5 k1
      go_wp2_with fail
      have e1 : (t + W) / W = t / W + 1 := by rw [Int.add_ediv_of_dvd_right (Int.dvd_refl W), Int.ediv_self (by omega)]
      have k2 : kn W (t / W) L (t + W) = 0 := by unfold kn; rw [if_neg (by omega)]
      refine (ask_is g W (t / W) L L S (t + W) S 0 _ S _ B5.out hW1 (by omega) (by omega) (by omega) hL1 (by omega) hS1 (by omega) (by omega) (by omega) k2 (by omega) e1 (by omega)).mono ?_
      rintro e w5 ⟨rfl, g5, b5⟩
      have L6 := Lib.hid (below_step L5.out g5 (by have := HR.out; have := HG.out; omega))
      have r6 := NE.out _ _ g5 R5.out
      have c2 := r6.cell 2
      simp at c2
      clear g5 b5 r6 k2 e1 c1
      go_wp2_with fail
      refine (lives_any _).mono ?_
      rintro e w6 ⟨rfl, l6⟩
      have L7 := Lib.hid (below_next L6.out l6)
      clear l6
      go_wp2_with fail
      go_ret
      exact ⟨rfl, L7.out⟩

end Go.Proofs.Ytaibhfcoapelcaa
