/- DedupApart's walk: what is told of one key is what a table tells that was told of this one alone. -/
import Derived.Test.YthbpimkbdkjcnaaTwo
namespace Go.Proofs.Ythbpimkbdkjcnaa
open Go.RowKit

/-- The pairs of one key. -/
def only (k : ByteArray) (L : Prs) : Prs := L.filter fun x => decide (x.1 = k)
/-- Both remember the same of a key. -/
def Agree (h now : Int) (k : ByteArray) (L M : Prs) : Prop := ∀ now', now ≤ now' → hasL h now' L k = hasL h now' M k

theorem hasL_live {h now now' : Int} {L : Prs} {k : ByteArray} (ht : now ≤ now') : hasL h now' (live h now L) k = hasL h now' L k := by
  unfold hasL live
  rw [List.any_filter]
  congr 1
  funext x
  rw [Bool.eq_iff_iff]
  simp only [Bool.and_eq_true, decide_eq_true_eq]
  constructor
  · exact fun h => h.2
  · exact fun h => ⟨by omega, h⟩
theorem hasL_more {h now' n : Int} {L : Prs} {k k' : ByteArray} : hasL h now' (L ++ [(k', n)]) k = (hasL h now' L k || decide (k' = k ∧ now' - n < h)) := by
  unfold hasL
  rw [List.any_append]
  simp
theorem hasL_putL {h now now' : Int} {L : Prs} {k k' : ByteArray} (ht : now ≤ now') : hasL h now' (putL h now L k') k = if hasL h now L k' = true then hasL h now' L k else (hasL h now' L k || decide (k' = k ∧ now' - now < h)) := by
  unfold putL
  split
  · exact hasL_live ht
  · rw [hasL_more, hasL_live ht]

theorem Agree.later {h now now' : Int} {k : ByteArray} {L M : Prs} (A : Agree h now k L M) (ht : now ≤ now') : Agree h now' k L M := fun n hn => A n (Int.le_trans ht hn)
theorem Agree.live_a {h now : Int} {k : ByteArray} {L M : Prs} (A : Agree h now k L M) : Agree h now k (live h now L) M := fun n hn => by rw [hasL_live hn]; exact A n hn
theorem Agree.live_b {h now : Int} {k : ByteArray} {L M : Prs} (A : Agree h now k L M) : Agree h now k L (live h now M) := fun n hn => by rw [hasL_live hn]; exact A n hn
theorem Agree.put_other {h now : Int} {k k' : ByteArray} {L M : Prs} (A : Agree h now k L M) (hne : k' ≠ k) : Agree h now k (putL h now L k') M := fun n hn => by
  rw [hasL_putL hn, A n hn]
  split
  · rfl
  · simp [hne]
theorem Agree.put_same {h now : Int} {k : ByteArray} {L M : Prs} (A : Agree h now k L M) : Agree h now k (putL h now L k) (putL h now M k) := fun n hn => by
  rw [hasL_putL hn, hasL_putL hn, A n hn, A now (Int.le_refl _)]

def ApRel (w : World) (p q : Nat) (h : Int) (k : ByteArray) (nw i : Value) (wr : World) : Prop :=
  ∃ (j : Nat) (now : Int) (L M : Prs) (F G : Nat → Prop), j ≤ 40 ∧ i = .int .i64 j ∧ nw = .int .i64 now ∧ 0 ≤ now ∧ now ≤ 100 * (j : Int) ∧ L.length ≤ j ∧ M.length ≤ j ∧ Agree h now k L M ∧ Two w wr F G p q h h now L M []

set_option maxHeartbeats 1000000 in
theorem apart_walk (a0 a2 : Int) (a : Option Addr) (len cap : Nat) (zs : List Int) (w : World) (h1 : -9223372036854775808 ≤ a0) (h2 : a0 ≤ 9223372036854775807) (h3 : -9223372036854775808 ≤ a2) (h4 : a2 ≤ 9223372036854775807) (hr : IsRow w a len cap zs) :
    Calls Try.prog 4 #[.int .i64 a0, .slice a len cap, .int .i64 a2] w fun e w' => e = .returned (.bool true) ∧ Below w.heap.size w w' := by
  have HR := Lib.hid hr
  have hlen := hr.len
  clear hr
  go_enter Try.func4, Try.ntmps4
  go_wp2_with fail
  refine (horizon_some a0 _ h1 h2).mono ?_
  rintro e w' ⟨h, hh1, hh2, rfl, rfl⟩
  clear h1 h2
  go_wp2_with fail
  refine (new_any h _).mono ?_
  rintro e w1 ⟨p, rfl, t1, b1⟩
  have T1 := Lib.hid t1
  have B1 := Lib.hid b1
  clear t1 b1
  go_wp2_with fail
  refine (new_any h _).mono ?_
  rintro e w2 ⟨q, rfl, t2, b2⟩
  have TW := Lib.hid (two_new B1.out B1.out (Nat.le_refl _) T1.out t2 b2)
  clear t2 b2 T1 B1
  generalize (fun k => w.heap.size ≤ k ∧ k < w1.heap.size) = F0 at *
  generalize (fun k => w1.heap.size ≤ k ∧ k < w2.heap.size) = G0 at *
  go_wp2_with fail
  refine (of_any a2 _ h3 h4).mono ?_
  rintro e w3 ⟨l0, k, pb0, _, _, _, rfl, b3⟩
  clear h3 h4
  have TW3 := Lib.hid (TW.out.below b3)
  clear b3 TW
  have hfld := run_field1 l0 k pb0 w3
  go_wp2_with fail
  clear hfld
  go_loopw [11, 12] (fun nw i wr => ApRel w p q h k nw i wr) (fun _ i _ => 40 - (intOf i).toNat)
  case atStart => exact ⟨0, 0, [], [], F0, G0, by omega, rfl, rfl, by omega, by omega, by simp, by simp, fun n hn => rfl, TW3.out⟩
  case round =>
    clear TW3
    obtain ⟨j, now, L, M, F, G, hj, rfl, rfl, hn0, hn1, hLl, hMl, agr, tw⟩ := hrel
    have AGR := Lib.hid agr
    have TW := Lib.hid tw
    clear agr tw
    by_cases hlt : j < len
    · by_cases hlt2 : j < 40
      · obtain ⟨x, z, rfl, hc, hz1, hz2⟩ := HR.out.later TW.out.bel hlt
        go_wp2_with fail
        refine (of_any z _ hz1 hz2).mono ?_
        rintro e w4 ⟨l, s, pb, hl1, hl2, hs, rfl, b4⟩
        clear hc hz1 hz2
        have TW5 := Lib.hid ((TW.out.below b4).box #[.int .i64 l, .string s, .bool pb])
        have AG := Lib.hid (AGR.out.later (show now ≤ now + l by omega))
        clear b4 TW AGR
        go_wp2_with fail
        generalize (w4.alloc (.cells #[.int .i64 l, .string s, .bool pb] 28)) = w5 at *
        generalize w4.heap.size = xb at *
        refine (put_a TW5.out (now + l) s hh1 (by omega) (by omega) (by omega) (by omega)).mono ?_
        rintro e w6 ⟨rfl, F6, tw6⟩
        have hL6 := putL_length h (now + l) L s
        have x1 := tw6.cell (List.mem_cons_self) 1
        simp only [List.getElem?_toArray, List.getElem?_cons_zero, List.getElem?_cons_succ] at x1
        have TW6 := Lib.hid tw6
        clear tw6 TW5
        by_cases hsk : s = k
        · subst hsk
          have hsb := text_eq (rfl : s = s)
          have e1 := AG.out (now + l) (Int.le_refl _)
          rw [e1]
          have AG6 := Lib.hid AG.out.put_same
          clear e1 AG
          go_wp2_with fail
          refine (put_b TW6.out (now + l) s hh1 (by omega) (by omega) (by omega) (by omega)).mono ?_
          rintro e w7 ⟨rfl, G7, tw7⟩
          have hM7 := putL_length h (now + l) M s
          have TW7 := Lib.hid tw7
          clear tw7 TW6
          generalize hasL h (now + l) M s = b1 at *
          generalize putL h (now + l) L s = L7 at *
          generalize putL h (now + l) M s = M7 at *
          go_wp2_with fail
          refine (has_a TW7.out (now + l) s (by omega) (by omega) (by omega) (by omega)).mono ?_
          rintro e w8 ⟨rfl, tw8⟩
          have hL8 := live_length h (now + l) L7
          have TW8 := Lib.hid tw8
          clear tw8 TW7
          rw [AG6.out (now + l) (Int.le_refl _)]
          go_wp2_with fail
          refine (has_b TW8.out (now + l) s (by omega) (by omega) (by omega) (by omega)).mono ?_
          rintro e w9 ⟨rfl, tw9⟩
          have hM9 := live_length h (now + l) M7
          have TW9 := Lib.hid tw9
          clear tw9 TW8
          generalize hasL h (now + l) M7 s = b2 at *
          go_wp2_with fail
          exact ⟨⟨j + 1, now + l, _, _, _, _, by omega, by go_num, rfl, by omega, by omega, by omega, by omega, AG6.out.live_a.live_b, TW9.out.drop⟩, by simp [intOf]; omega⟩
        · have hsb := text_ne hsk
          have AG6 := Lib.hid (AG.out.put_other hsk)
          clear AG hsk
          generalize hasL h (now + l) L s = b1 at *
          generalize putL h (now + l) L s = L7 at *
          go_wp2_with fail
          refine (has_a TW6.out (now + l) k (by omega) (by omega) (by omega) (by omega)).mono ?_
          rintro e w8 ⟨rfl, tw8⟩
          have hL8 := live_length h (now + l) L7
          have TW8 := Lib.hid tw8
          clear tw8 TW6
          rw [AG6.out (now + l) (Int.le_refl _)]
          go_wp2_with fail
          refine (has_b TW8.out (now + l) k (by omega) (by omega) (by omega) (by omega)).mono ?_
          rintro e w9 ⟨rfl, tw9⟩
          have hM9 := live_length h (now + l) M
          have TW9 := Lib.hid tw9
          clear tw9 TW8
          generalize hasL h (now + l) M k = b2 at *
          go_wp2_with fail
          exact ⟨⟨j + 1, now + l, _, _, _, _, by omega, by go_num, rfl, by omega, by omega, by omega, by omega, AG6.out.live_a.live_b, TW9.out.drop⟩, by simp [intOf]; omega⟩
      · go_wp2_with fail
        refine (lives_any _).mono ?_
        rintro e w3 ⟨rfl, b3⟩
        have B3 := Lib.hid b3
        clear b3
        go_wp2_with fail
        go_ret
        exact ⟨rfl, below_next TW.out.bel B3.out⟩
    · go_wp2_with fail
      refine (lives_any _).mono ?_
      rintro e w3 ⟨rfl, b3⟩
      have B3 := Lib.hid b3
      clear b3
      go_wp2_with fail
      go_ret
      exact ⟨rfl, below_next TW.out.bel B3.out⟩

end Go.Proofs.Ythbpimkbdkjcnaa
