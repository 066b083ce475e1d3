/- The document's example of layer 24 is true, and lists of numbers that are the same are told so. -/
import Derived.Test.YtaibhfcoapelcaaBase
namespace Go.Proofs.Ytaibhfcoapelcaa
open Go.RowKit

/-- A slice that reads as a list of numbers. -/
def RdInts (w : World) (A : Option Addr) (n : Nat) (xs : List Int) : Prop :=
  xs.length = n ∧ ∀ i, i < n → ∃ ad, A = some ad ∧ w.cell? (ad.add i) = some (.int .i64 (xs.getD i 0))

def Drawn (v : Value) (w : World) (e : Ending) (w' : World) : Prop := e = .returned v ∧ ∃ n, w' = w.drewN n

set_option maxHeartbeats 400000 in
theorem same_true (A B : Option Addr) (n c d : Nat) (xs : List Int) (w : World) (ha : RdInts w A n xs) (hb : RdInts w B n xs) (hn : n ≤ 1000000) :
    Calls Try.prog 30 #[.slice A n c, .slice B n d] w (Drawn (.bool true) w) := by
  have HA := Lib.hid ha
  have HB := Lib.hid hb
  clear ha hb
  go_enter Try.func30, Try.ntmps30
  go_wp2
  go_loopw [5] (fun i wr => ∃ k : Nat, k ≤ n ∧ i = .int .i64 k ∧ ∃ q, wr = w.drewN q) (fun i _ => n - (intOf i).toNat)
  case atStart => exact ⟨0, Nat.zero_le _, rfl, 0, rfl⟩
  case round =>
    obtain ⟨k, hk, rfl, q, rfl⟩ := hrel
    by_cases hlt : k < n
    · obtain ⟨a, rfl, ca⟩ := HA.out.2 k hlt
      obtain ⟨b, rfl, cb⟩ := HB.out.2 k hlt
      go_wp2
      go_quiet (fail)
      go_wp2
      exact ⟨⟨k + 1, by omega, by go_num, _, rfl⟩, by simp [intOf]; omega⟩
    · go_wp2
      go_ret
      exact ⟨rfl, _, rfl⟩

theorem rd_of_blk {w : World} {g : Nat} {t : TypeId} {cs : Array Value} (xs : List Int) (h : Blk w g t cs) (hcs : cs = (xs.map (Value.int .i64)).toArray) (n : Nat) (hn : xs.length = n) : RdInts w (some ⟨g, 0, none⟩) n xs := by
  refine ⟨hn, fun i hi => ⟨_, rfl, ?_⟩⟩
  have e : (⟨g, 0, none⟩ : Addr).add i = ⟨g, i, none⟩ := by unfold Addr.add; split <;> simp_all
  rw [e, h.cell, hcs]
  have hl : i < xs.length := by omega
  simp [List.getD, List.getElem?_eq_getElem hl]

/-- Ask, at numbers that are known. -/
theorem ask_is (g : Nat) (t k n L S now m q k' q' : Int) (w : World) (hb : Blk w g 64 #[.int .i64 t, .int .i64 k, .int .i64 n, .int .i64 L, .int .i64 S])
   (ht : 1 ≤ t) (ht2 : t ≤ 1000) (hn : 0 ≤ now) (hn2 : now ≤ 1000000) (hL : 1 ≤ L) (hL2 : L ≤ 1000) (hS : 1 ≤ S) (hS2 : S ≤ 1000) (hq : 0 ≤ n) (hq2 : n ≤ L)
   (e1 : kn t k n now = q) (e2 : min S (L - q) = m) (e3 : now / t = k') (e4 : q + m = q') :
    Calls Try.prog 13 #[.pointer (some ⟨g, 0, none⟩), .int .i64 now] w fun e w' => e = .returned (.int .i64 m) ∧ w.grownBy w' (some g) ∧ Blk w' g 64 #[.int .i64 t, .int .i64 k', .int .i64 q', .int .i64 L, .int .i64 S] := by
  have h := ask_any g t k n L S now w hb ht ht2 hn hn2 hL hL2 hS hS2 hq hq2
  unfold AskPost at h
  rw [e1, e2, e3, e4] at h
  exact h

set_option maxHeartbeats 400000 in
theorem lives_any (w : World) : Calls Try.prog 15 #[] w fun e w' => e = .returned (.bool true) ∧ Below w.heap.size w w' := by
  go_enter Try.func15, Try.ntmps15
  go_wp2_with fail
  refine (limiter_new 5 10 2 _).mono ?_
  rintro e w1 ⟨g, hg, rfl, b1, l1⟩
  have L1 := Lib.hid l1
  have HG := Lib.hid hg
  clear l1 hg
  go_wp2_with fail
  refine (ask_is g 10 0 0 5 2 0 2 0 0 2 _ b1 (by omega) (by omega) (by omega) (by omega) (by omega) (by omega) (by omega) (by omega) (by omega) (by omega) (by decide) (by decide) (by decide) (by decide)).mono ?_
  rintro e w2 ⟨rfl, g2, b2⟩
  have G2 := Lib.hid g2
  clear g2 b1
  go_wp2_with fail
  refine (ask_is g 10 0 2 5 2 1 2 2 0 4 _ b2 (by omega) (by omega) (by omega) (by omega) (by omega) (by omega) (by omega) (by omega) (by omega) (by omega) (by decide) (by decide) (by decide) (by decide)).mono ?_
  rintro e w3 ⟨rfl, g3, b3⟩
  have G3 := Lib.hid g3
  clear g3 b2
  go_wp2_with fail
  refine (ask_is g 10 0 4 5 2 9 1 4 0 5 _ b3 (by omega) (by omega) (by omega) (by omega) (by omega) (by omega) (by omega) (by omega) (by omega) (by omega) (by decide) (by decide) (by decide) (by decide)).mono ?_
  rintro e w4 ⟨rfl, g4, b4⟩
  have G4 := Lib.hid g4
  clear g4 b3
  go_wp2_with fail
  refine (ask_is g 10 0 5 5 2 9 0 5 0 5 _ b4 (by omega) (by omega) (by omega) (by omega) (by omega) (by omega) (by omega) (by omega) (by omega) (by omega) (by decide) (by decide) (by decide) (by decide)).mono ?_
  rintro e w5 ⟨rfl, g5, b5⟩
  have G5 := Lib.hid g5
  clear g5 b4
  go_wp2_with fail
  refine (ask_is g 10 0 5 5 2 10 2 0 1 2 _ b5 (by omega) (by omega) (by omega) (by omega) (by omega) (by omega) (by omega) (by omega) (by omega) (by omega) (by decide) (by decide) (by decide) (by decide)).mono ?_
  rintro e w6 ⟨rfl, g6, b6⟩
  have G6 := Lib.hid g6
  clear g6 b5 b6
  go_wp2_with fail
  have n1 := Blk.new w6 3 #[.int .i64 2, .int .i64 2, .int .i64 1, .int .i64 0, .int .i64 2]
  have n2 := blk_new2 w6 (.cells #[.int .i64 2, .int .i64 2, .int .i64 1, .int .i64 0, .int .i64 2] 3) 3 #[.int .i64 2, .int .i64 2, .int .i64 1, .int .i64 0, .int .i64 2]
  have n1' := n1.alloc (.cells #[.int .i64 2, .int .i64 2, .int .i64 1, .int .i64 0, .int .i64 2] 3)
  have ra := rd_of_blk [2, 2, 1, 0, 2] n1' rfl 5 rfl
  have rb := rd_of_blk [2, 2, 1, 0, 2] n2 rfl 5 rfl
  have RA := Lib.hid ra
  have RB := Lib.hid rb
  clear n1 n2 n1' ra rb
  refine (same_true _ _ 5 _ _ [2, 2, 1, 0, 2] _ RA.out RB.out (by omega)).mono ?_
  rintro e w7 ⟨rfl, nq, rfl⟩
  clear RA RB
  go_wp2_with fail
  refine (error_no 5 10 2 3 _ (by omega) (by omega) (by omega) (by omega)).mono ?_
  rintro e w8 ⟨rfl, l8⟩
  have L8 := Lib.hid l8
  clear l8
  go_wp2_with fail
  go_ret
  refine ⟨rfl, ?_⟩
  have l6 := below_step (below_step (below_step (below_step (below_step L1.out G2.out HG.out) G3.out HG.out) G4.out HG.out) G5.out HG.out) G6.out HG.out
  exact below_next (below_drewN (below_alloc (below_alloc l6 _) _) nq) L8.out

end Go.Proofs.Ytaibhfcoapelcaa
