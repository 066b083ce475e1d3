/- The document's example of layer 25 is true. -/
import Derived.Test.YthbpimkbdkjcnaaPut
namespace Go.Proofs.Ythbpimkbdkjcnaa
open Go.RowKit

abbrev k7 : ByteArray := { data := #[55] }
def l1 : Prs := [(k7, 5)]
def l3 : Prs := [(k7, 15)]
theorem e1 : hasL 10 5 [] k7 = false ∧ putL 10 5 [] k7 = l1 := by decide
theorem e2 : hasL 10 14 l1 k7 = true ∧ putL 10 14 l1 k7 = l1 := by decide
theorem e3 : hasL 10 15 l1 k7 = false ∧ putL 10 15 l1 k7 = l3 := by decide
theorem e4 : hasL 10 24 l3 k7 = true ∧ live 10 24 l3 = l3 := by decide
theorem e5 : hasL 10 25 l3 k7 = false := by decide
theorem ok1 (t : Int) (h : 5 ≤ t) : Ok t l1 := ⟨by decide, by decide, by decide, by intro x hx; simp [l1] at hx; subst hx; exact h⟩
theorem ok3 (t : Int) (h : 15 ≤ t) : Ok t l3 := ⟨by decide, by decide, by decide, by intro x hx; simp [l3] at hx; subst hx; exact h⟩

/-- All blocks from a number on. -/
def From (B : Nat) (F : Nat → Prop) : Prop := ∀ i, F i → B ≤ i
theorem From.grow {B : Nat} {F : Nat → Prop} {w w' : World} (h : From B F) (hw : B ≤ w.heap.size) : From B (Ythbpimkbdkjcnaa.grow F w w') := by
  intro i hi
  rcases hi with hi | hi
  · exact h i hi
  · omega
theorem below_chg {a w w' : World} {F : Nat → Prop} (h : Below a.heap.size a w) (hF : From a.heap.size F) (c : Chg F w w') : Below a.heap.size a w' :=
  h.trans (c.below hF h.size)

set_option maxHeartbeats 800000 in
theorem lives_any (w : World) : Calls Try.prog 14 #[] w fun e w' => e = .returned (.bool true) ∧ Below w.heap.size w w' := by
  go_enter Try.func14, Try.ntmps14
  go_wp2_with fail
  refine (new_any 10 _).mono ?_
  rintro e w1 ⟨p, rfl, t1, b1⟩
  have F1 : Hid (From w.heap.size fun k => w.heap.size ≤ k ∧ k < w1.heap.size) := fun i hi => hi.1
  have T1 := Lib.hid t1
  have B1 := Lib.hid b1
  clear t1 b1
  generalize (fun k => w.heap.size ≤ k ∧ k < w1.heap.size) = F at *
  go_wp2_with fail
  refine (put_any _ F p 10 5 5 [] k7 T1.out (Ok.nil 5) (by omega) (by omega) (by omega) (by omega) (by simp)).mono ?_
  rintro e w2 ⟨rfl, t2, c2⟩
  rw [e1.1]
  rw [e1.2] at t2
  have F2 : Hid (From w.heap.size (grow F w1 w2)) := F1.out.grow B1.out.size
  have B2 := Lib.hid (below_chg B1.out F1.out c2)
  have T2 := Lib.hid t2
  clear t2 c2 T1 F1 B1
  generalize grow F w1 w2 = G at *
  go_wp2_with fail
  refine (put_any _ G p 10 14 5 l1 k7 T2.out (ok1 5 (by omega)) (by omega) (by omega) (by omega) (by omega) (by decide)).mono ?_
  rintro e w3 ⟨rfl, t3, c3⟩
  rw [e2.1]
  rw [e2.2] at t3
  have F3 : Hid (From w.heap.size (grow G w2 w3)) := F2.out.grow B2.out.size
  have B3 := Lib.hid (below_chg B2.out F2.out c3)
  have T3 := Lib.hid t3
  clear t3 c3 T2 F2 B2
  generalize grow G w2 w3 = H at *
  go_wp2_with fail
  refine (put_any _ H p 10 15 5 l1 k7 T3.out (ok1 5 (by omega)) (by omega) (by omega) (by omega) (by omega) (by decide)).mono ?_
  rintro e w4 ⟨rfl, t4, c4⟩
  rw [e3.1]
  rw [e3.2] at t4
  have F4 : Hid (From w.heap.size (grow H w3 w4)) := F3.out.grow B3.out.size
  have B4 := Lib.hid (below_chg B3.out F3.out c4)
  have T4 := Lib.hid t4
  clear t4 c4 T3 F3 B3
  generalize grow H w3 w4 = K at *
  go_wp2_with fail
  refine (has_any _ K p 10 24 15 l3 k7 T4.out (ok3 15 (by omega)) (by omega) (by omega) (by omega) (by decide)).mono ?_
  rintro e w5 ⟨rfl, t5, c5⟩
  rw [e4.1]
  rw [e4.2] at t5
  have B5 := Lib.hid (below_chg B4.out F4.out c5)
  have T5 := Lib.hid t5
  clear t5 c5 T4 B4
  go_wp2_with fail
  refine (has_any _ K p 10 25 15 l3 k7 T5.out (ok3 15 (by omega)) (by omega) (by omega) (by omega) (by decide)).mono ?_
  rintro e w6 ⟨rfl, t6, c6⟩
  rw [e5]
  have B6 := Lib.hid (below_chg B5.out F4.out c6)
  clear t6 c6 T5 F4 B5
  go_wp2_with fail
  go_ret
  exact ⟨rfl, B6.out⟩

end Go.Proofs.Ythbpimkbdkjcnaa
