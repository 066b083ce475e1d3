/- LeaseChecks's walk: how a rate is wrong is the document's. No conditions. -/
import Derived.Test.YtaibhfcoapelcaaLives
import Derived.Deep.RegionHeld3
namespace Go.Proofs.Ytaibhfcoapelcaa
open Go.RowKit

/-- How a rate is wrong: the error's number. -/
def chk (L W S : Int) : Int := if 1 ≤ L ∧ L ≤ 1000 ∧ 1 ≤ W ∧ W ≤ 1000 ∧ 1 ≤ S ∧ S ≤ L then 0 else 15

set_option maxHeartbeats 1000000 in
theorem check_one (L W S : Int) (w : World) :
    Calls Try.prog 16 #[.agg #[.int .i64 L, .int .i64 W, .int .i64 S]] w fun e w' => e = .returned (.int .i64 (chk L W S)) ∧ Below w.heap.size w w' := by
  by_cases c1 : L < 1
  · have e : chk L W S = 15 := by unfold chk; rw [if_neg (by omega)]
    rw [e]
    go_enter Try.func16, Try.ntmps16
    go_wp2
    go_ret
    exact ⟨rfl, (Below.refl _ _).alloc (Nat.le_refl _) _⟩
  by_cases c2 : 1000 < L
  · have e : chk L W S = 15 := by unfold chk; rw [if_neg (by omega)]
    rw [e]
    go_enter Try.func16, Try.ntmps16
    go_wp2
    go_ret
    exact ⟨rfl, (Below.refl _ _).alloc (Nat.le_refl _) _⟩
  by_cases c3 : W < 1
  · have e : chk L W S = 15 := by unfold chk; rw [if_neg (by omega)]
    rw [e]
    go_enter Try.func16, Try.ntmps16
    go_wp2
    go_ret
    exact ⟨rfl, (Below.refl _ _).alloc (Nat.le_refl _) _⟩
  by_cases c4 : 1000 < W
  · have e : chk L W S = 15 := by unfold chk; rw [if_neg (by omega)]
    rw [e]
    go_enter Try.func16, Try.ntmps16
    go_wp2
    go_ret
    exact ⟨rfl, (Below.refl _ _).alloc (Nat.le_refl _) _⟩
  by_cases c5 : S < 1
  · have e : chk L W S = 15 := by unfold chk; rw [if_neg (by omega)]
    rw [e]
    go_enter Try.func16, Try.ntmps16
    go_wp2
    go_ret
    exact ⟨rfl, (Below.refl _ _).alloc (Nat.le_refl _) _⟩
  by_cases c6 : L < S
  · have e : chk L W S = 15 := by unfold chk; rw [if_neg (by omega)]
    rw [e]
    go_enter Try.func16, Try.ntmps16
    go_wp2
    go_ret
    exact ⟨rfl, (Below.refl _ _).alloc (Nat.le_refl _) _⟩
  · have e : chk L W S = 0 := by unfold chk; rw [if_pos (by omega)]
    rw [e]
    go_enter Try.func16, Try.ntmps16
    go_wp2
    go_ret
    exact ⟨rfl, (Below.refl _ _).alloc (Nat.le_refl _) _⟩

set_option maxHeartbeats 1000000 in
theorem check_two (L W S : Int) (w : World) :
    Calls Try.prog 17 #[.agg #[.int .i64 L, .int .i64 W, .int .i64 S]] w fun e w' => e = .returned (.int .i64 (chk L W S)) ∧ Below w.heap.size w w' := by
  by_cases c1 : L < 1
  · have e : chk L W S = 15 := by unfold chk; rw [if_neg (by omega)]
    rw [e]
    go_enter Try.func17, Try.ntmps17
    go_wp2
    go_ret
    exact ⟨rfl, (Below.refl _ _).alloc (Nat.le_refl _) _⟩
  by_cases c2 : 1000 < L
  · have e : chk L W S = 15 := by unfold chk; rw [if_neg (by omega)]
    rw [e]
    go_enter Try.func17, Try.ntmps17
    go_wp2
    go_ret
    exact ⟨rfl, (Below.refl _ _).alloc (Nat.le_refl _) _⟩
  by_cases c3 : W < 1
  · have e : chk L W S = 15 := by unfold chk; rw [if_neg (by omega)]
    rw [e]
    go_enter Try.func17, Try.ntmps17
    go_wp2
    go_ret
    exact ⟨rfl, (Below.refl _ _).alloc (Nat.le_refl _) _⟩
  by_cases c4 : 1000 < W
  · have e : chk L W S = 15 := by unfold chk; rw [if_neg (by omega)]
    rw [e]
    go_enter Try.func17, Try.ntmps17
    go_wp2
    go_ret
    exact ⟨rfl, (Below.refl _ _).alloc (Nat.le_refl _) _⟩
  by_cases c5 : S < 1
  · have e : chk L W S = 15 := by unfold chk; rw [if_neg (by omega)]
    rw [e]
    go_enter Try.func17, Try.ntmps17
    go_wp2
    go_ret
    exact ⟨rfl, (Below.refl _ _).alloc (Nat.le_refl _) _⟩
  by_cases c6 : L < S
  · have e : chk L W S = 15 := by unfold chk; rw [if_neg (by omega)]
    rw [e]
    go_enter Try.func17, Try.ntmps17
    go_wp2
    go_ret
    exact ⟨rfl, (Below.refl _ _).alloc (Nat.le_refl _) _⟩
  · have e : chk L W S = 0 := by unfold chk; rw [if_pos (by omega)]
    rw [e]
    go_enter Try.func17, Try.ntmps17
    go_wp2
    go_ret
    exact ⟨rfl, (Below.refl _ _).alloc (Nat.le_refl _) _⟩

end Go.Proofs.Ytaibhfcoapelcaa
