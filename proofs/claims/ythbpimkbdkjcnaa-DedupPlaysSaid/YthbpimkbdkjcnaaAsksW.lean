/- DedupAsks's walk: asking changes nothing, however often. -/
import Derived.Test.YthbpimkbdkjcnaaApartW
import Derived.Deep.RegionHeld3
namespace Go.Proofs.Ythbpimkbdkjcnaa
open Go.RowKit

/-- Both remember the same from a tick on. -/
def Same (h now : Int) (L M : Prs) : Prop := ∀ n, now ≤ n → live h n L = live h n M

theorem live_live {h now n : Int} {L : Prs} (hn : now ≤ n) : live h n (live h now L) = live h n L := by
  unfold live
  rw [List.filter_filter]
  apply List.filter_congr
  intro x _
  rw [Bool.eq_iff_iff]
  simp only [Bool.and_eq_true, decide_eq_true_eq]
  constructor
  · exact fun h => h.1
  · exact fun h => ⟨h, by omega⟩
theorem Same.later {h now now' : Int} {L M : Prs} (A : Same h now L M) (ht : now ≤ now') : Same h now' L M := fun n hn => A n (Int.le_trans ht hn)
theorem Same.live_a {h now : Int} {L M : Prs} (A : Same h now L M) : Same h now (live h now L) M := fun n hn => by rw [live_live hn]; exact A n hn
theorem Same.has {h now n : Int} {L M : Prs} (A : Same h now L M) (hn : now ≤ n) (k : ByteArray) : hasL h n L k = hasL h n M k := by
  rw [← hasL_live (Int.le_refl n), A n hn, hasL_live (Int.le_refl n)]
theorem Same.put {h now : Int} {L M : Prs} (A : Same h now L M) (k : ByteArray) : putL h now L k = putL h now M k := by
  unfold putL
  rw [A.has (Int.le_refl _), A now (Int.le_refl _)]
theorem live_none {h now : Int} {L : Prs} (hOk : Ok now L) : live h (now + h) L = [] := by
  unfold live
  rw [List.filter_eq_nil_iff]
  intro x hx
  have := hOk.high x hx
  simp only [decide_eq_true_eq]
  omega

def AsRel (w : World) (p q : Nat) (h : Int) (nw i : Value) (wr : World) : Prop :=
  ∃ (j : Nat) (now : Int) (L M : Prs) (F G : Nat → Prop), j ≤ 40 ∧ i = .int .i64 j ∧ nw = .int .i64 now ∧ 0 ≤ now ∧ now ≤ 100 * (j : Int) ∧ L.length ≤ j ∧ M.length ≤ j ∧ Same h now L M ∧ Two w wr F G p q h h now L M []
def AsIn (w : World) (F G : Nat → Prop) (p q : Nat) (h now : Int) (N : Nat) (M : Prs) (xs : List (Nat × Array Value)) (jj : Value) (wr : World) : Prop :=
  ∃ (i : Nat) (L : Prs), i ≤ 6 ∧ jj = .int .i64 i ∧ L.length ≤ N ∧ Same h now L M ∧ Two w wr F G p q h h now L M xs

set_option maxHeartbeats 1000000 in
theorem asks_walk (a0 : Int) (a : Option Addr) (len cap : Nat) (zs : List Int) (w : World) (h1 : -9223372036854775808 ≤ a0) (h2 : a0 ≤ 9223372036854775807) (hr : IsRow w a len cap zs) :
    Calls Try.prog 7 #[.int .i64 a0, .slice a len cap] w fun e w' => e = .returned (.bool true) ∧ Below w.heap.size w w' := by
  have HR := Lib.hid hr
  have hlen := hr.len
  clear hr
  go_enter Try.func7, Try.ntmps7
  go_wp2_with fail
  refine (horizon_some a0 _ h1 h2).mono ?_
  rintro e w' ⟨h, hh1, hh2, rfl, rfl⟩
  clear h1 h2
  go_wp2_with fail
  refine (new_any h _).mono ?_
  rintro e w1 ⟨p, rfl, t1, b1⟩
  have T1 := Lib.hid t1
  have B1 := Lib.hid b1
  clear t1 b1
  go_wp2_with fail
  refine (new_any h _).mono ?_
  rintro e w2 ⟨q, rfl, t2, b2⟩
  have TW := Lib.hid (two_new B1.out B1.out (Nat.le_refl _) T1.out t2 b2)
  clear t2 b2 T1 B1
  generalize (fun k => w.heap.size ≤ k ∧ k < w1.heap.size) = F0 at *
  generalize (fun k => w1.heap.size ≤ k ∧ k < w2.heap.size) = G0 at *
  go_wp2_with fail
  go_loopw [8, 9] (fun nw i wr => AsRel w p q h nw i wr) (fun _ i _ => 40 - (intOf i).toNat)
  case atStart => exact ⟨0, 0, [], [], F0, G0, by omega, rfl, rfl, by omega, by omega, by simp, by simp, fun n hn => rfl, TW.out⟩
  case round =>
    clear TW
    obtain ⟨j, now, L, M, F, G, hj, rfl, rfl, hn0, hn1, hLl, hMl, agr, tw⟩ := hrel
    have AGR := Lib.hid agr
    have TW := Lib.hid tw
    clear agr tw
    by_cases hlt : j < len ∧ j < 40
    · obtain ⟨hlt1, hlt2⟩ := hlt
      obtain ⟨x, z, rfl, hc, hz1, hz2⟩ := HR.out.later TW.out.bel hlt1
      go_wp2_with fail
      refine (of_any z _ hz1 hz2).mono ?_
      rintro e w4 ⟨l, s, pb, hl1, hl2, hs, rfl, b4⟩
      clear hc hz1 hz2
      have TW5 := Lib.hid (((TW.out.below b4).box #[.int .i64 l, .string s, .bool pb]).later (show now ≤ now + l by omega))
      have AG := Lib.hid (AGR.out.later (show now ≤ now + l by omega))
      clear b4 TW AGR
      go_wp2_with fail
      generalize (w4.alloc (.cells #[.int .i64 l, .string s, .bool pb] 28)) = w5 at *
      generalize w4.heap.size = xb at *
      go_loopw [11] (fun jj wr => AsIn w F G p q h (now + l) j M [(xb, #[.int .i64 l, .string s, .bool pb])] jj wr) (fun jj _ => 6 - (intOf jj).toNat)
      case atStart => exact ⟨0, L, by omega, rfl, hLl, AG.out, TW5.out⟩
      case round =>
        clear AG TW5
        obtain ⟨i, L', hi, rfl, hL', ag, tw⟩ := hrel
        have AG := Lib.hid ag
        have TW := Lib.hid tw
        clear ag tw
        by_cases hi6 : i < 6
        · go_wp2_with fail
          refine (of_any _ _ (by omega) (by omega)).mono ?_
          rintro e w6 ⟨l6, s6, pb6, _, _, _, rfl, b6⟩
          have TW6 := Lib.hid (TW.out.below b6)
          clear b6 TW
          have hfld := run_field1 l6 s6 pb6 w6
          go_wp2_with fail
          clear hfld
          refine (has_a TW6.out (now + l) s6 (by omega) (by omega) (by omega) (by omega)).mono ?_
          rintro e w8 ⟨rfl, tw8⟩
          have hL8 := live_length h (now + l) L'
          have TW8 := Lib.hid tw8
          have AG8 := Lib.hid AG.out.live_a
          clear tw8 TW6 AG
          go_wp2_with fail
          refine (len_a TW8.out (now + l) (by omega) (by omega) (by omega) (by omega)).mono ?_
          rintro e w9 ⟨rfl, tw9⟩
          have hL9 := live_length h (now + l) (live h (now + l) L')
          have TW9 := Lib.hid tw9
          have AG9 := Lib.hid AG8.out.live_a
          clear tw9 TW8 AG8
          generalize live h (now + l) (live h (now + l) L') = L9 at *
          go_wp2_with fail
          exact ⟨⟨i + 1, L9, by omega, by go_num, by omega, AG9.out, TW9.out⟩, by simp [intOf]; omega⟩
        · have x1 := TW.out.cell (List.mem_cons_self) 1
          have x2 := TW.out.cell (List.mem_cons_self) 2
          simp only [List.getElem?_toArray, List.getElem?_cons_zero, List.getElem?_cons_succ] at x1 x2
          cases pb with
          | false =>
            go_wp2_with fail
            go_quiet (fail)
            go_wp2_with fail
            exact ⟨⟨j + 1, now + l, L', M, F, G, by omega, by go_num, rfl, by omega, by omega, by omega, by omega, AG.out, (TW.out.drewN _).drop⟩, by simp [intOf]; omega⟩
          | true =>
            go_wp2_with fail
            have e1 := AG.out.has (Int.le_refl _) s
            have hM7 := putL_length h (now + l) M s
            have twd := TW.out.drew
            have TWD := Lib.hid twd
            clear twd
            go_region_held3 (fun w' => w'.cell? ⟨xb, 1, none⟩ = some (.string s) ∧ w'.cell? ⟨xb, 2, none⟩ = some (.bool true))
              (first | exact ⟨x1, x2⟩ | (exact ⟨(Hid.out ‹Hid (Two _ _ _ _ _ _ _ _ _ _ _ _)›).cell (List.mem_cons_self) 1, (Hid.out ‹Hid (Two _ _ _ _ _ _ _ _ _ _ _ _)›).cell (List.mem_cons_self) 2⟩))
              (first | (go_at_call 13; (with_reducible refine (put_a TWD.out (now + l) s hh1 (by omega) (by omega) (by omega) (by omega)).mono ?_); rintro e w6 ⟨rfl, F6, tw6⟩; have TW6 := Lib.hid tw6; clear tw6) | (go_at_call 13; (with_reducible refine (put_b TW6.out (now + l) s hh1 (by omega) (by omega) (by omega) (by omega)).mono ?_); rintro e w7 ⟨rfl, G7, tw7⟩; have TW7 := Lib.hid tw7; clear tw7))
            have tw7 := TW7.out
            rw [AG.out.put s] at tw7
            have TW8 := Lib.hid tw7.drop
            clear tw7 e1 TW TWD x1 x2
            go_wp2_with fail
            exact ⟨⟨j + 1, now + l, _, _, _, _, by omega, by go_num, rfl, by omega, by omega, by omega, by omega, fun n hn => rfl, TW8.out⟩, by simp [intOf]; omega⟩
    · have hend : ¬ ((j : Int) < len) ∨ ¬ ((j : Int) < 40) := by omega
      have e2 := AGR.out now (Int.le_refl _)
      have e3 : live h (now + h) (live h now M) = [] := by
        rw [← e2, live_live (by omega)]
        exact live_none TW.out.oka
      have E2 := Lib.hid e2
      have E3 := Lib.hid e3
      have hM1 := live_length h now M
      clear e2 e3 hlt
      by_cases hlt1 : j < len
      · have hlt2 : ¬ j < 40 := by omega
        clear hend
        go_wp2_with fail
        refine (len_a TW.out now (Int.le_refl _) hn0 (by omega) (by omega)).mono ?_
        rintro e w8 ⟨rfl, tw8⟩
        rw [E2.out] at tw8 ⊢
        have TW8 := Lib.hid tw8
        clear tw8 TW
        go_wp2_with fail
        refine (len_b TW8.out now (Int.le_refl _) hn0 (by omega) (by omega)).mono ?_
        rintro e w9 ⟨rfl, tw9⟩
        have TW9 := Lib.hid tw9
        clear tw9 TW8
        go_wp2_with fail
        refine (len_a TW9.out (now + h) (by omega) (by omega) (by omega) (by omega)).mono ?_
        rintro e w10 ⟨rfl, tw10⟩
        rw [E3.out] at tw10 ⊢
        have TW10 := Lib.hid tw10
        clear tw10 TW9
        go_wp2_with fail
        refine (lives_any _).mono ?_
        rintro e w11 ⟨rfl, b11⟩
        have B11 := Lib.hid b11
        clear b11
        go_wp2_with fail
        go_ret
        exact ⟨rfl, below_next TW10.out.bel B11.out⟩
      · clear hend
        go_wp2_with fail
        refine (len_a TW.out now (Int.le_refl _) hn0 (by omega) (by omega)).mono ?_
        rintro e w8 ⟨rfl, tw8⟩
        rw [E2.out] at tw8 ⊢
        have TW8 := Lib.hid tw8
        clear tw8 TW
        go_wp2_with fail
        refine (len_b TW8.out now (Int.le_refl _) hn0 (by omega) (by omega)).mono ?_
        rintro e w9 ⟨rfl, tw9⟩
        have TW9 := Lib.hid tw9
        clear tw9 TW8
        go_wp2_with fail
        refine (len_a TW9.out (now + h) (by omega) (by omega) (by omega) (by omega)).mono ?_
        rintro e w10 ⟨rfl, tw10⟩
        rw [E3.out] at tw10 ⊢
        have TW10 := Lib.hid tw10
        clear tw10 TW9
        go_wp2_with fail
        refine (lives_any _).mono ?_
        rintro e w11 ⟨rfl, b11⟩
        have B11 := Lib.hid b11
        clear b11
        go_wp2_with fail
        go_ret
        exact ⟨rfl, below_next TW10.out.bel B11.out⟩

end Go.Proofs.Ythbpimkbdkjcnaa
