/- DedupEdges's walk and DedupSpans's: one key alone. -/
import Derived.Test.YthbpimkbdkjcnaaArgs
namespace Go.Proofs.Ythbpimkbdkjcnaa
open Go.RowKit

theorem one_new (h n : Int) (s : ByteArray) : hasL h n [] s = false ∧ putL h n [] s = [(s, n)] := by
  have e : hasL h n [] s = false := rfl
  refine ⟨e, ?_⟩
  unfold putL
  rw [e]
  rfl
theorem one_in {h n t : Int} (s : ByteArray) (ht : t - n < h) : hasL h t [(s, n)] s = true ∧ live h t [(s, n)] = [(s, n)] ∧ putL h t [(s, n)] s = [(s, n)] := by
  have e : hasL h t [(s, n)] s = true := by simp [hasL, ht]
  have e2 : live h t [(s, n)] = [(s, n)] := by simp [live, ht]
  refine ⟨e, e2, ?_⟩
  unfold putL
  rw [e, e2]
  rfl
theorem one_out {h n t : Int} (s : ByteArray) (ht : h ≤ t - n) : hasL h t [(s, n)] s = false ∧ live h t [(s, n)] = [] ∧ putL h t [(s, n)] s = [(s, t)] := by
  have e : hasL h t [(s, n)] s = false := by simp [hasL]; omega
  have e2 : live h t [(s, n)] = [] := by simp [live]; omega
  refine ⟨e, e2, ?_⟩
  unfold putL
  rw [e, e2]
  rfl
theorem ok_one (s : ByteArray) {n t : Int} (h0 : 0 ≤ n) (ht : n ≤ t) : Ok t [(s, n)] := ⟨by simp, by simp, by intro x hx; simp at hx; subst hx; exact h0, by intro x hx; simp at hx; subst hx; exact ht⟩

/-- Some text. -/
def SomeText (w : World) (e : Ending) (w' : World) : Prop := ∃ s' : ByteArray, e = .returned (.string s') ∧ w = w'

set_option maxHeartbeats 400000 in
theorem short_any (s : ByteArray) (w : World) (hs : s.size ≤ 9223372036854775807) :
    Calls Try.prog 21 #[.string s, .int .i64 30] w (SomeText w) := by
  by_cases hl : 30 < s.size
  · have hl' : (30 : Int) < (s.size : Int) := by omega
    go_enter Try.func21, Try.ntmps21
    go_wp2
    go_ret
    exact ⟨_, rfl, rfl⟩
  · have hl' : ¬ (30 : Int) < (s.size : Int) := by omega
    go_enter Try.func21, Try.ntmps21
    go_wp2
    go_ret
    exact ⟨_, rfl, rfl⟩

/-- One table, its blocks from base on. -/
def Lone (w0 w : World) (p : Nat) (h : Int) (L : Prs) : Prop := ∃ F, Tab w F p h L L ∧ From w0.heap.size F ∧ Below w0.heap.size w0 w

theorem lone_new {w0 w : World} (h : Int) (hb : Below w0.heap.size w0 w) : Calls Try.prog 11 #[.int .i64 h] w fun e w' => ∃ p, e = .returned (.pointer (some ⟨p, 0, none⟩)) ∧ Lone w0 w' p h [] :=
  (new_any h w).mono fun _ _ ⟨p, he, T, b⟩ => ⟨p, he, _, T, fun _ hi => Nat.le_trans hb.size hi.1, below_next hb b⟩
theorem lone_put {w0 w : World} {p : Nat} {h t : Int} {L : Prs} (H : Lone w0 w p h L) (hOk : Ok t L) (now : Int) (k : ByteArray) (hh : 1 ≤ h) (ht : t ≤ now) (h1 : 0 ≤ now) (h2 : now ≤ 4294967296) (hl : L.length ≤ 999999) (r : Bool) (L' : Prs) (e1 : hasL h now L k = !r) (e2 : putL h now L k = L') :
    Calls Try.prog 13 #[.pointer (some ⟨p, 0, none⟩), .int .i64 now, .string k] w fun e w' => e = .returned (.bool r) ∧ Lone w0 w' p h L' := by
  obtain ⟨F, T, f, b⟩ := H
  refine (put_any w F p h now t L k T hOk hh ht h1 h2 hl).mono fun _ w' hP => ?_
  obtain ⟨he, T', c⟩ := hP
  rw [e2] at T'
  exact ⟨by rw [he, e1, Bool.not_not], grow F w w', T', f.grow b.size, below_chg b f c⟩
theorem lone_has {w0 w : World} {p : Nat} {h t : Int} {L : Prs} (H : Lone w0 w p h L) (hOk : Ok t L) (now : Int) (k : ByteArray) (ht : t ≤ now) (h1 : 0 ≤ now) (h2 : now ≤ 4294967296) (hl : L.length ≤ 999999) (r : Bool) (L' : Prs) (e1 : hasL h now L k = r) (e2 : live h now L = L') :
    Calls Try.prog 15 #[.pointer (some ⟨p, 0, none⟩), .int .i64 now, .string k] w fun e w' => e = .returned (.bool r) ∧ Lone w0 w' p h L' := by
  obtain ⟨F, T, f, b⟩ := H
  refine (has_any w F p h now t L k T hOk ht h1 h2 (by omega)).mono fun _ _ hP => ?_
  obtain ⟨he, T', c⟩ := hP
  rw [e2] at T'
  exact ⟨by rw [he, e1], F, T', f, below_chg b f c⟩
theorem lone_len {w0 w : World} {p : Nat} {h t : Int} {L : Prs} (H : Lone w0 w p h L) (hOk : Ok t L) (now : Int) (ht : t ≤ now) (h1 : 0 ≤ now) (h2 : now ≤ 4294967296) (hl : L.length ≤ 999999) (n : Int) (L' : Prs) (e1 : ((live h now L).length : Int) = n) (e2 : live h now L = L') :
    Calls Try.prog 18 #[.pointer (some ⟨p, 0, none⟩), .int .i64 now] w fun e w' => e = .returned (.int .i64 n) ∧ Lone w0 w' p h L' := by
  obtain ⟨F, T, f, b⟩ := H
  refine (len_any w F p h now t L T hOk ht h1 h2 (by omega)).mono fun _ _ hP => ?_
  obtain ⟨he, T', c⟩ := hP
  rw [e2] at T'
  exact ⟨by rw [he, e1], F, T', f, below_chg b f c⟩

set_option maxHeartbeats 1000000 in
theorem edges_walk (a0 a1 : Int) (key : ByteArray) (w : World) (h1 : -9223372036854775808 ≤ a0) (h2 : a0 ≤ 9223372036854775807) (h3 : -9223372036854775808 ≤ a1) (h4 : a1 ≤ 9223372036854775807) (hs : key.size ≤ maxLen) :
    Calls Try.prog 6 #[.int .i64 a0, .int .i64 a1, .string key] w fun e w' => e = .returned (.bool true) ∧ Below w.heap.size w w' := by
  unfold maxLen at hs
  go_enter Try.func6, Try.ntmps6
  go_wp2_with fail
  refine (around_some a0 _ _ h1 h2 (by omega) (by omega)).mono ?_
  rintro e w1 ⟨k, hk1, hk2, rfl, rfl⟩
  clear h1 h2
  go_wp2_with fail
  refine (around_some a1 _ _ h3 h4 (by omega) (by omega)).mono ?_
  rintro e w1 ⟨n, hn1, hn2, rfl, rfl⟩
  clear h3 h4
  go_wp2_with fail
  refine (short_any key _ (by omega)).mono ?_
  rintro e w1 ⟨s, rfl, rfl⟩
  clear hs
  go_wp2_with fail
  refine (lone_new (1 + k) (Below.refl _ _)).mono ?_
  rintro e w1 ⟨p, rfl, T1⟩
  have H1 := Lib.hid T1
  clear T1
  go_wp2_with fail
  refine (lone_has H1.out (Ok.nil n) n s (by omega) (by omega) (by omega) (by simp) false [] rfl rfl).mono ?_
  rintro e w2 ⟨rfl, T2⟩
  have H2 := Lib.hid T2
  clear T2 H1
  go_wp2_with fail
  refine (lone_put H2.out (Ok.nil n) n s (by omega) (by omega) (by omega) (by omega) (by simp) true [(s, n)] (one_new _ _ _).1 (one_new _ _ _).2).mono ?_
  rintro e w3 ⟨rfl, T3⟩
  have H3 := Lib.hid T3
  clear T3 H2
  go_wp2_with fail
  refine (lone_put H3.out (ok_one s hn1 (Int.le_refl n)) n s (by omega) (by omega) (by omega) (by omega) (by simp) false [(s, n)] (one_in s (by omega)).1 (one_in s (by omega)).2.2).mono ?_
  rintro e w4 ⟨rfl, T4⟩
  have H4 := Lib.hid T4
  clear T4 H3
  go_wp2_with fail
  refine (lone_has H4.out (ok_one s hn1 (Int.le_refl n)) _ s (by omega) (by omega) (by omega) (by simp) true [(s, n)] (one_in s (by omega)).1 (one_in s (by omega)).2.1).mono ?_
  rintro e w5 ⟨rfl, T5⟩
  have H5 := Lib.hid T5
  clear T5 H4
  go_wp2_with fail
  refine (lone_put H5.out (ok_one s hn1 (Int.le_refl n)) _ s (by omega) (by omega) (by omega) (by omega) (by simp) false [(s, n)] (one_in s (by omega)).1 (one_in s (by omega)).2.2).mono ?_
  rintro e w6 ⟨rfl, T6⟩
  have H6 := Lib.hid T6
  clear T6 H5
  go_wp2_with fail
  refine (lone_has H6.out (ok_one s hn1 (Int.le_refl n)) _ s (by omega) (by omega) (by omega) (by simp) false [] (one_out s (by omega)).1 (one_out s (by omega)).2.1).mono ?_
  rintro e w7 ⟨rfl, T7⟩
  have H7 := Lib.hid T7
  clear T7 H6
  go_wp2_with fail
  refine (lone_len H7.out (Ok.nil n) _ (by omega) (by omega) (by omega) (by simp) 0 [] rfl rfl).mono ?_
  rintro e w8 ⟨rfl, T8⟩
  have H8 := Lib.hid T8
  clear T8 H7
  go_wp2_with fail
  refine (lone_put H8.out (Ok.nil n) _ s (by omega) (by omega) (by omega) (by omega) (by simp) true [(s, n + (1 + k))] (one_new _ _ _).1 (one_new _ _ _).2).mono ?_
  rintro e w9 ⟨rfl, T9⟩
  have H9 := Lib.hid T9
  clear T9 H8
  go_wp2_with fail
  have hin := one_in (h := 1 + k) (n := n + (1 + k)) (t := n + (1 + k)) s (by omega)
  refine (lone_len H9.out (ok_one s (by omega) (Int.le_refl (n + (1 + k)))) _ (by omega) (by omega) (by omega) (by simp) 1 [(s, n + (1 + k))] (by rw [hin.2.1]; rfl) hin.2.1).mono ?_
  rintro e wa ⟨rfl, Ta⟩
  have Ha := Lib.hid Ta
  clear Ta H9 hin
  go_wp2_with fail
  refine (lives_any _).mono ?_
  rintro e wb ⟨rfl, bb⟩
  have BB := Lib.hid bb
  clear bb
  go_wp2_with fail
  go_ret
  obtain ⟨_, _, _, b⟩ := Ha.out
  exact ⟨rfl, below_next b BB.out⟩

end Go.Proofs.Ythbpimkbdkjcnaa
