/- A small number's digits. -/
import Derived.Test.YthbpimkbdkjcnaaAsksW
import Derived.Laws.BytesArg
namespace Go.Proofs.Ythbpimkbdkjcnaa
open Go.RowKit

/-- The digits of a number below 20. -/
def dig (n : Nat) : ByteArray := strOfNums [48 + (n : Int) % 10]
def dec (n : Nat) : ByteArray := if n < 10 then dig n else dig (n / 10) ++ dig n

theorem dec_inj : ∀ i, i < 20 → ∀ j, j < 20 → dec i = dec j → i = j := by decide

theorem conv_dig (n : Nat) (w : World) : (convert 55 9 (.slice (some ⟨w.heap.size, 0, none⟩) 1 1)).run Try.prog (w.alloc (.cells #[.int .u8 (48 + (n : Int) % 10)] 5)) = .ok (.string (dig n)) (w.alloc (.cells #[.int .u8 (48 + (n : Int) % 10)] 5)) :=
  run_convert_bytes_arg (P := Try.prog) _ 55 5 Try.underlying55 Try.underlying5 w.heap.size 0 1 1 [48 + (n : Int) % 10] rfl (fun i hi => by
    obtain rfl : i = 0 := by omega
    exact (Blk.new w 5 #[.int .u8 (48 + (n : Int) % 10)]).cell 0) 9 Try.underlying9

set_option maxHeartbeats 400000 in
theorem decimal_small (n : Nat) (hn : n < 10) (w : World) : Calls Try.prog 22 #[.int .i64 n] w fun e w' => e = .returned (.string (dig n)) ∧ Below w.heap.size w w' := by
  have h1 : (n : Int) < 10 := by omega
  have hc := conv_dig n w
  go_enter Try.func22, Try.ntmps22
  go_wp2_with fail
  go_ret
  exact ⟨rfl, below_alloc (Below.refl _ _) _⟩

set_option maxHeartbeats 400000 in
theorem decimal_any (n : Nat) (hn : n < 20) (w : World) : Calls Try.prog 22 #[.int .i64 n] w fun e w' => e = .returned (.string (dec n)) ∧ Below w.heap.size w w' := by
  by_cases hs : n < 10
  · have e : dec n = dig n := by unfold dec; rw [if_pos hs]
    rw [e]
    exact decimal_small n hs w
  · have e : dec n = dig (n / 10) ++ dig n := by unfold dec; rw [if_neg hs]
    rw [e]
    have h1 : ¬ (n : Int) < 10 := by omega
    have hc := conv_dig n w
    go_enter Try.func22, Try.ntmps22
    go_wp2_with fail
    have ed : ((n : Int) / 10) = ((n / 10 : Nat) : Int) := by omega
    rw [ed]
    refine (decimal_small (n / 10) (by omega) _).mono ?_
    rintro e w1 ⟨rfl, b1⟩
    have B1 := Lib.hid b1
    clear b1 ed hc
    go_wp2_with fail
    go_ret
    exact ⟨rfl, below_next (below_alloc (Below.refl _ _) _) B1.out⟩

end Go.Proofs.Ythbpimkbdkjcnaa
