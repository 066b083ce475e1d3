/- The document's example of layer 15 is true. -/
import Derived.Test.YtjknlijikojbmaaPlayed
namespace Go.Proofs.Ytjknlijikojbmaa
open Go.RowKit

set_option maxHeartbeats 400000 in
theorem same_true (A B : Option Addr) (n c d : Nat) (xs : List Int) (w : World) (ha : RdInts w A n xs) (hb : RdInts w B n xs) (hn : n ≤ 1000000) :
    Calls Try.prog 16 #[.slice A n c, .slice B n d] w (Drawn (.bool true) w) := by
  have HA := Lib.hid ha
  have HB := Lib.hid hb
  clear ha hb
  go_enter Try.func16, Try.ntmps16
  go_wp2
  go_loopw [5] (fun i wr => ∃ k : Nat, k ≤ n ∧ i = .int .i64 k ∧ ∃ q, wr = w.drewN q) (fun i _ => n - (intOf i).toNat)
  case atStart => exact ⟨0, Nat.zero_le _, rfl, 0, rfl⟩
  case round =>
    obtain ⟨k, hk, rfl, q, rfl⟩ := hrel
    by_cases hlt : k < n
    · obtain ⟨a, rfl, ca⟩ := HA.out.2 k hlt
      obtain ⟨b, rfl, cb⟩ := HB.out.2 k hlt
      go_wp2
      go_quiet (fail)
      go_wp2
      exact ⟨⟨k + 1, by omega, by go_num, _, rfl⟩, by simp [intOf]; omega⟩
    · go_wp2
      go_ret
      exact ⟨rfl, _, rfl⟩

theorem rd_of_own {w : World} {base : Nat} {A : Option Addr} {n c : Nat} {xs : List Int} (hn : n = xs.length) (h : w.ownsRow base 3 1 (.slice A n c) n (xs.map (Value.int .i64))) : RdInts w A n xs := by
  subst hn
  refine ⟨rfl, fun i hi => ?_⟩
  obtain ⟨g, cap, hv, _⟩ := h.form (by omega)
  injection hv with e1 e2 e3
  subst e1
  subst e3
  refine ⟨_, rfl, ?_⟩
  have e : (⟨g, 0, none⟩ : Addr).add i = ⟨g, i, none⟩ := by unfold Addr.add; split <;> simp_all
  rw [e, h.cellAt _ (by omega)]
  simp [List.getD, List.getElem?_eq_getElem hi]

def exA : Au := Au.new.issue 3 10 100
def exB : Au := exA.rotate 20 5
def exC : Ce := ⟨1, 1, 3, 10, 110⟩

set_option maxHeartbeats 4000000 in
theorem lives_any (w : World) : Calls Try.prog 10 #[] w fun e w' => e = .returned (.bool true) ∧ Below w.heap.size w w' := by
  go_enter Try.func10, Try.ntmps10
  go_wp2_with fail
  refine (new_any _).mono ?_
  rintro e w1 ⟨g, b, rfl, au, bel⟩
  have AU1 := Lib.hid au
  have B1 := Lib.hid bel
  clear au bel
  go_wp2_with fail
  refine (issue_any 3 10 100 AU1.out B1.out.size (by simp [Au.new]) (by omega) (by omega) (by omega) (by omega)).mono ?_
  rintro e w2 ⟨vG, he, au2, ch2, _⟩
  have he2 : e = .returned (.agg #[.int .i64 1, .int .i64 1, .int .i64 3, .int .i64 10, .int .i64 110]) := he
  subst he2
  clear he
  have AU2 : Hid (AuIs w.heap.size w2 g vG b (.slice none 0 0) exA) := au2
  have B2 : Hid (Below w.heap.size w w2) := B1.out.trans (ch2.below (B := w.heap.size) (by rintro i (rfl | h); exact AU1.out.hg; exact (AU1.out.own.lt i h).1) B1.out.size)
  clear au2 ch2 AU1 B1
  go_wp2_with fail
  have BC := Lib.hid (Blk.new w2 24 #[.int .i64 1, .int .i64 1, .int .i64 3, .int .i64 10, .int .i64 110])
  have AU3 := Lib.hid (AU2.out.alloc (.cells #[.int .i64 1, .int .i64 1, .int .i64 3, .int .i64 10, .int .i64 110] 24))
  have B3 := Lib.hid (below_alloc B2.out (.cells #[.int .i64 1, .int .i64 1, .int .i64 3, .int .i64 10, .int .i64 110] 24))
  clear AU2 B2
  generalize w2.alloc (.cells #[.int .i64 1, .int .i64 1, .int .i64 3, .int .i64 10, .int .i64 110] 24) = w3 at *
  generalize w2.heap.size = pc at *
  refine (rotate_any 20 5 AU3.out B3.out.size (by simp [exA, Au.new, Au.issue]) (by simp [exA, Au.new, Au.issue]) (by omega) (by omega) (by omega) (by omega)).mono ?_
  rintro e w4 ⟨vU, he, au4, ch4, _⟩
  have he2 : e = .returned (.int .i64 2) := he
  subst he2
  have AU4 : Hid (AuIs w.heap.size w4 g vG b vU exB) := au4
  have B4 : Hid (Below w.heap.size w w4) := B3.out.trans (ch4.below (B := w.heap.size) (by rintro i (rfl | h); exact AU3.out.hg; exact (AU3.out.ownU.lt i h).1) B3.out.size)
  have BC4 := Lib.hid (BC.out.chg ch4 (by rintro (h | h); exact AU3.out.blk.ne_ BC.out (by decide) h.symm; exact own_blk_ne AU3.out.ownU BC.out (by decide) h))
  clear he au4 ch4 AU3 B3 BC
  have x0 := BC4.out.cell 0
  have x1 := BC4.out.cell 1
  have x2 := BC4.out.cell 2
  have x3 := BC4.out.cell 3
  have x4 := BC4.out.cell 4
  simp only [List.getElem?_toArray, List.getElem?_cons_zero, List.getElem?_cons_succ] at x0 x1 x2 x3 x4
  go_wp2_with fail
  refine (check_any exC 3 24 AU4.out (by decide) (by decide) (fun _ => by decide)).mono ?_
  rintro e w5 ⟨he, l5⟩
  have he2 : e = .returned (.int .i64 0) := by rw [he]; exact congrArg (fun z => Ending.returned (.int .i64 z)) (by decide)
  subst he2
  have AU5 := Lib.hid (AU4.out.below l5)
  have B5 := Lib.hid (below_next B4.out l5)
  have BC5 := Lib.hid (BC4.out.below l5 BC4.out.lt)
  clear he l5 x0 x1 x2 x3 x4 AU4 B4 BC4
  have x0 := BC5.out.cell 0
  have x1 := BC5.out.cell 1
  have x2 := BC5.out.cell 2
  have x3 := BC5.out.cell 3
  have x4 := BC5.out.cell 4
  simp only [List.getElem?_toArray, List.getElem?_cons_zero, List.getElem?_cons_succ] at x0 x1 x2 x3 x4
  go_wp2_with fail
  refine (check_any exC 3 25 AU5.out (by decide) (by decide) (fun _ => by decide)).mono ?_
  rintro e w6 ⟨he, l6⟩
  have he2 : e = .returned (.int .i64 20) := by rw [he]; exact congrArg (fun z => Ending.returned (.int .i64 z)) (by decide)
  subst he2
  have AU6 := Lib.hid (AU5.out.below l6)
  have B6 := Lib.hid (below_next B5.out l6)
  have BC6 := Lib.hid (BC5.out.below l6 BC5.out.lt)
  clear he l6 x0 x1 x2 x3 x4 AU5 B5 BC5
  have x0 := BC6.out.cell 0
  have x1 := BC6.out.cell 1
  have x2 := BC6.out.cell 2
  have x3 := BC6.out.cell 3
  have x4 := BC6.out.cell 4
  simp only [List.getElem?_toArray, List.getElem?_cons_zero, List.getElem?_cons_succ] at x0 x1 x2 x3 x4
  go_wp2_with fail
  refine (check_any exC 2 24 AU6.out (by decide) (by decide) (fun _ => by decide)).mono ?_
  rintro e w7 ⟨he, l7⟩
  have he2 : e = .returned (.int .i64 20) := by rw [he]; exact congrArg (fun z => Ending.returned (.int .i64 z)) (by decide)
  subst he2
  have AU7 := Lib.hid (AU6.out.below l7)
  have B7 := Lib.hid (below_next B6.out l7)
  have BC7 := Lib.hid (BC6.out.below l7 BC6.out.lt)
  clear he l7 x0 x1 x2 x3 x4 AU6 B6 BC6
  have x0 := BC7.out.cell 0
  have x1 := BC7.out.cell 1
  have x2 := BC7.out.cell 2
  have x3 := BC7.out.cell 3
  have x4 := BC7.out.cell 4
  simp only [List.getElem?_toArray, List.getElem?_cons_zero, List.getElem?_cons_succ] at x0 x1 x2 x3 x4
  go_wp2_with fail
  refine (roots_any 24 AU7.out).mono ?_
  rintro e w8 ⟨v8, rfl, own8, l8⟩
  have hr : exB.roots 24 = [1, 2] := by decide
  rw [hr] at own8
  obtain ⟨A8, c8, rfl⟩ := own_form own8
  have RD8 := Lib.hid (rd_of_own (n := 2) (xs := [1, 2]) rfl (own8.alloc (.cells #[.int .i64 1, .int .i64 2] 3)))
  have B8 := Lib.hid (below_next B7.out l8)
  clear own8 l8 hr x0 x1 x2 x3 x4 AU7 B7 BC7
  go_wp2_with fail
  refine (same_true A8 (some ⟨w8.heap.size, 0, none⟩) 2 c8 2 [1, 2] _ RD8.out (rd_of_blk [1, 2] (Blk.new w8 3 #[.int .i64 1, .int .i64 2]) rfl 2 rfl) (by omega)).mono ?_
  rintro e w9 ⟨rfl, q, rfl⟩
  go_wp2_with fail
  go_ret
  exact ⟨rfl, below_drewN (below_alloc B8.out _) q⟩

end Go.Proofs.Ytjknlijikojbmaa
