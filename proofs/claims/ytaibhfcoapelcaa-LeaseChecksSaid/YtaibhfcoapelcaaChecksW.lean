/- LeaseChecks's walk: how a rate is wrong is the document's. No conditions. -/
import Derived.Test.YtaibhfcoapelcaaChecks
namespace Go.Proofs.Ytaibhfcoapelcaa
open Go.RowKit

/-- The two rates of the law lie in two blocks; what was there ahead of the call is as it was. -/
def Two (w0 : World) (a b : Nat) (L0 W0 S0 L W S : Int) (w : World) : Prop :=
  Blk w a 23 #[.int .i64 L0, .int .i64 W0, .int .i64 S0] ∧ Blk w b 23 #[.int .i64 L, .int .i64 W, .int .i64 S] ∧ Below w0.heap.size w0 w

section
variable {w0 w w' : World} {a b : Nat} {L0 W0 S0 L W S : Int}
theorem Two.drew (h : Two w0 a b L0 W0 S0 L W S w) : Two w0 a b L0 W0 S0 L W S w.drew := ⟨h.1.drew, h.2.1.drew, h.2.2.drew⟩
theorem Two.next (h : Two w0 a b L0 W0 S0 L W S w) (hb : Below w.heap.size w w') : Two w0 a b L0 W0 S0 L W S w' := ⟨h.1.below hb h.1.lt, h.2.1.below hb h.2.1.lt, below_next h.2.2 hb⟩
theorem Two.cells (h : Two w0 a b L0 W0 S0 L W S w) : Two w0 a b L0 W0 S0 L W S w ∧ w.cell? ⟨a, 0, none⟩ = some (.int .i64 L0) ∧ w.cell? ⟨a, 1, none⟩ = some (.int .i64 W0) ∧ w.cell? ⟨a, 2, none⟩ = some (.int .i64 S0) ∧
    w.cell? ⟨b, 0, none⟩ = some (.int .i64 L) ∧ w.cell? ⟨b, 1, none⟩ = some (.int .i64 W) ∧ w.cell? ⟨b, 2, none⟩ = some (.int .i64 S) := by
  refine ⟨h, ?_, ?_, ?_, ?_, ?_, ?_⟩
  · rw [h.1.cell]; rfl
  · rw [h.1.cell]; rfl
  · rw [h.1.cell]; rfl
  · rw [h.2.1.cell]; rfl
  · rw [h.2.1.cell]; rfl
  · rw [h.2.1.cell]; rfl
end

set_option maxHeartbeats 1000000 in
theorem checks_walk (L0 W0 S0 n asked clients : Int) (w : World) (h1 : -9223372036854775808 ≤ n) (h2 : n ≤ 9223372036854775807) (h3 : -9223372036854775808 ≤ asked) (h4 : asked ≤ 9223372036854775807)
    (h5 : -9223372036854775808 ≤ clients) (h6 : clients ≤ 9223372036854775807) :
    Calls Try.prog 4 #[.agg #[.int .i64 L0, .int .i64 W0, .int .i64 S0], .int .i64 n, .int .i64 asked, .int .i64 clients] w fun e w' => e = .returned (.bool true) ∧ Below w.heap.size w w' := by
  go_enter Try.func4, Try.ntmps4
  go_wp2_with fail
  refine (rate_any n _ h1 h2).mono ?_
  rintro e w1 ⟨L, W, S, hL1, hL2, hW1, hW2, hS1, hS2, rfl, l1⟩
  have L1 := Lib.hid l1
  clear l1 h1 h2
  go_wp2_with fail
  refine (around_some asked _ _ h3 h4 (by omega) (by omega)).mono ?_
  rintro e w2 ⟨a, ha1, ha2, rfl, rfl⟩
  clear h3 h4
  go_wp2_with fail
  refine (around_some clients _ _ h5 h6 (by omega) (by omega)).mono ?_
  rintro e w2 ⟨k, hk1, hk2, rfl, rfl⟩
  clear h5 h6
  have T0 : Two w w.heap.size w1.heap.size L0 W0 S0 L W S (w1.alloc (.cells #[.int .i64 L, .int .i64 W, .int .i64 S] 23)) := by
    have b0 := Blk.new w 23 #[.int .i64 L0, .int .i64 W0, .int .i64 S0]
    have b1 := b0.below L1.out (by simp)
    exact ⟨b1.alloc _, Blk.new _ _ _, below_alloc (below_next (below_alloc (Below.refl _ _) _) L1.out) _⟩
  have T1 := Lib.hid T0
  clear T0 L1
  go_wp2_with fail
  generalize (w1.alloc (.cells #[.int .i64 L, .int .i64 W, .int .i64 S] 23)) = w2 at *
  generalize w1.heap.size = rb at *
  generalize w.heap.size = ra at *
  have hck : chk L W S = 0 := by unfold chk; rw [if_pos (by omega)]
  obtain ⟨TD, c0, c1, c2, c3, c4, c5⟩ := T1.out.cells
  have TD := TD.drew
  clear T1
  go_region_held3 (fun w' => Two w ra rb L0 W0 S0 L W S w' ∧ w'.cell? ⟨ra, 0, none⟩ = some (.int .i64 L0) ∧ w'.cell? ⟨ra, 1, none⟩ = some (.int .i64 W0) ∧ w'.cell? ⟨ra, 2, none⟩ = some (.int .i64 S0) ∧
      w'.cell? ⟨rb, 0, none⟩ = some (.int .i64 L) ∧ w'.cell? ⟨rb, 1, none⟩ = some (.int .i64 W) ∧ w'.cell? ⟨rb, 2, none⟩ = some (.int .i64 S))
    (first | exact (Two.cells ‹Two w ra rb L0 W0 S0 L W S _›) | exact (Two.cells (Two.next ‹Two w ra rb L0 W0 S0 L W S _› ‹_›)) | exact (Two.cells (Two.next (‹Two w ra rb L0 W0 S0 L W S _ ∧ _›).1 ‹_›)))
    (first | (go_at_call 16; refine (check_one _ _ _ _).mono ?_; rintro e w' ⟨rfl, hb⟩) | (go_at_call 17; refine (check_two _ _ _ _).mono ?_; rintro e w' ⟨rfl, hb⟩))
  rename_i hS
  have TN := Lib.hid hS.1
  clear TD c0 c1 c2 c3 c4 c5 hS hck hb
  go_wp2_with fail
  obtain ⟨TD, c0, c1, c2, c3, c4, c5⟩ := TN.out.cells
  have TD := TD.drew
  clear TN
  have m1 : 0 ≤ k * (S - 1) := Int.mul_nonneg hk1 (by omega)
  have m2 : k * (S - 1) ≤ 1000 * 11 := Int.mul_le_mul (by omega) (by omega) (by omega) (by omega)
  have w1' : IntKind.i64.wrap (S - 1) = S - 1 := IntWalk.i64_in _ (by omega)
  have w2' : IntKind.i64.wrap (k * (S - 1)) = k * (S - 1) := IntWalk.i64_in _ (by omega)
  have hif : (if L < a then L else a) = min a L := by split <;> omega
  go_region_held3 (fun w' => Two w ra rb L0 W0 S0 L W S w' ∧ w'.cell? ⟨ra, 0, none⟩ = some (.int .i64 L0) ∧ w'.cell? ⟨ra, 1, none⟩ = some (.int .i64 W0) ∧ w'.cell? ⟨ra, 2, none⟩ = some (.int .i64 S0) ∧
      w'.cell? ⟨rb, 0, none⟩ = some (.int .i64 L) ∧ w'.cell? ⟨rb, 1, none⟩ = some (.int .i64 W) ∧ w'.cell? ⟨rb, 2, none⟩ = some (.int .i64 S))
    (first | exact (Two.cells ‹Two w ra rb L0 W0 S0 L W S _›) | exact (Two.cells (Two.next ‹Two w ra rb L0 W0 S0 L W S _› ‹_›)) | exact (Two.cells (Two.next (‹Two w ra rb L0 W0 S0 L W S _ ∧ _›).1 ‹_›)))
    (first | (go_at_call 18; refine (exact_any _ _ _ _ _).mono ?_; rintro e w' ⟨rfl, hb⟩) | (go_at_call 15; refine (lives_any _).mono ?_; rintro e w' ⟨rfl, hb⟩) | (go_at_call 19; (with_reducible refine (error_yes _ _ _ _ _).mono ?_); rintro e w' ⟨rfl, hb⟩) | (go_at_call 19; refine (error_no _ _ _ _ _ (by omega) (by omega) (by omega) (by omega)).mono ?_; rintro e w' ⟨rfl, hb⟩))
  all_goals (rename_i hS; have hl := Lib.hid hS.1.2.2; clear TD c0 c1 c2 c3 c4 c5 hS hb m1 m2 w1' w2' hif; go_wp2; go_ret; exact ⟨rfl, hl.out⟩)

end Go.Proofs.Ytaibhfcoapelcaa
