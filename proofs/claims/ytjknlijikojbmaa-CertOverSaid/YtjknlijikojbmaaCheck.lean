/- Check: the conditions of a certificate, one by one, and the first one that holds. -/
import Derived.Test.YtjknlijikojbmaaAuth
import Derived.Laws.StructEq
namespace Go.Proofs.Ytjknlijikojbmaa
open Go.RowKit

section
variable {base : Nat} {w w' : World} {g : Nat} {vG : Value} {b : Nat} {vU : Value} {a : Au}
theorem AuIs.until_at (h : AuIs base w g vG b vU a) {k : Nat} (hk : k < a.u.length) : ∃ gu cap, vU = .slice (some ⟨gu, 0, none⟩) a.u.length cap ∧ w.cell? ⟨gu, k, none⟩ = some (.int .i64 (a.u.getD k 0)) := by
  obtain ⟨gu, cap, rfl⟩ := own_some h.ownU (by omega)
  refine ⟨gu, cap, rfl, ?_⟩
  rw [h.ownU.cellAt _ (by omega)]
  simp [List.getD, List.getElem?_eq_getElem hk]
theorem AuIs.given_at (h : AuIs base w g vG b vU a) {k : Nat} {c : Ce} (hk : a.l[k]? = some c) : ∃ gg cap, vG = .slice (some ⟨gg, 0, none⟩) a.l.length cap ∧
    w.cell? ⟨gg, k * 5, none⟩ = some (.int .i64 c.s) ∧ w.cell? ⟨gg, k * 5 + 1, none⟩ = some (.int .i64 c.r) ∧ w.cell? ⟨gg, k * 5 + 2, none⟩ = some (.int .i64 c.v) ∧ w.cell? ⟨gg, k * 5 + 3, none⟩ = some (.int .i64 c.f) ∧ w.cell? ⟨gg, k * 5 + 4, none⟩ = some (.int .i64 c.t) := by
  have hl := (List.getElem?_eq_some_iff.1 hk).1
  obtain ⟨gg, cap, rfl⟩ := own_some h.own (by omega)
  have f := fun j (hj : j < 5) => flat_get ceCells 5 ceCells_len a.l k j c hk hj
  refine ⟨gg, cap, rfl, ?_, ?_, ?_, ?_, ?_⟩
  · rw [h.own.cellAt _ (by omega)]; have := f 0 (by omega); rw [show k * 5 = k * 5 + 0 from by omega, this]; rfl
  · rw [h.own.cellAt _ (by omega)]; have := f 1 (by omega); rw [this]; rfl
  · rw [h.own.cellAt _ (by omega)]; have := f 2 (by omega); rw [this]; rfl
  · rw [h.own.cellAt _ (by omega)]; have := f 3 (by omega); rw [this]; rfl
  · rw [h.own.cellAt _ (by omega)]; have := f 4 (by omega); rw [this]; rfl
end

set_option maxHeartbeats 400000 in
theorem trusted_any {base : Nat} {w : World} {g : Nat} {vG : Value} {b : Nat} {vU : Value} {a : Au} (root now : Int) (h : AuIs base w g vG b vU a) (h1 : 1 ≤ root) (h2 : root ≤ a.n) :
    Calls Try.prog 23 #[.pointer (some ⟨g, 0, none⟩), .int .i64 root, .int .i64 now] w fun e w' => e = .returned (.bool (a.trusted root now)) ∧ w = w' := by
  have H := Lib.hid h
  have hf := h.fewU
  have c2 := h.blk.cell 2
  simp only [List.getElem?_toArray, List.getElem?_cons_zero, List.getElem?_cons_succ] at c2
  by_cases hr : root = a.n
  · have hb : (root == (a.n : Int)) = true := by simpa using hr
    have ht : a.trusted root now = true := by unfold Au.trusted; rw [decide_eq_true hr]; rfl
    rw [ht]
    have hb2 := Lib.hid hb
    clear ht hr h h1 h2 c2
    go_enter Try.func23, Try.ntmps23
    go_wp2_with fail
    refine (newest_any H.out).mono ?_
    rintro e w' ⟨rfl, rfl⟩
    have hb := hb2.out
    go_wp2_with fail
    go_ret
    exact ⟨rfl, rfl⟩
  · have hb : (root == (a.n : Int)) = false := by simpa using hr
    obtain ⟨k, hk⟩ : ∃ k : Nat, root = (k : Int) + 1 := ⟨(root - 1).toNat, by omega⟩
    have hkl : k < a.u.length := by unfold Au.n at hr h2; omega
    have ht : a.trusted root now = decide (now < a.u.getD k 0) := by
      unfold Au.trusted
      rw [decide_eq_false hr, hk, show ((k : Int) + 1 - 1).toNat = k from by omega]
      rfl
    obtain ⟨gu, cap, rfl, cu⟩ := h.until_at hkl
    rw [ht]
    subst hk
    have HB := Lib.hid hb
    clear ht hr h hb
    go_enter Try.func23, Try.ntmps23
    go_wp2_with fail
    refine (newest_any H.out).mono ?_
    rintro e w' ⟨rfl, rfl⟩
    have hb := HB.out
    generalize a.u.length = m at *
    go_wp2_with fail
    go_ret
    exact ⟨rfl, rfl⟩

theorem eq_ce (c d : Ce) (w : World) : (Op.equalIn 10000 24 (.agg #[.int .i64 c.s, .int .i64 c.r, .int .i64 c.v, .int .i64 c.f, .int .i64 c.t]) (.agg #[.int .i64 d.s, .int .i64 d.r, .int .i64 d.v, .int .i64 d.f, .int .i64 d.t])).run Try.prog w = .ok (decide (c = d)) w := by
  have u3 := Try.underlying3
  have hS : Try.prog.underlying 24 = some (.struct (Try.prog.fieldsOf 24)) := by kernel_rfl
  have hp : Try.prog.stoodInHeld 24 = false := by kernel_rfl
  rw [show (10000 : Nat) = 9999 + 1 from rfl, run_equalIn_agg w 9999 24 _ _ hS hp]
  simp only [Program.fieldsOf, Try.underlying24]
  go_simp
  obtain ⟨c1, c2, c3, c4, c5⟩ := c
  obtain ⟨d1, d2, d3, d4, d5⟩ := d
  by_cases h1 : c1 = d1 <;> by_cases h2 : c2 = d2 <;> by_cases h3 : c3 = d3 <;> by_cases h4 : c4 = d4 <;> by_cases h5 : c5 = d5 <;> simp [h1, h2, h3, h4, h5]
theorem guard_ce : Try.prog.eqGuardType Try.prog.depth 24 = false := by kernel_rfl

set_option maxHeartbeats 800000 in
theorem gave_any {base : Nat} {w : World} {g : Nat} {vG : Value} {b : Nat} {vU : Value} {a : Au} (c : Ce) (h : AuIs base w g vG b vU a) (hs1 : -9223372036854775808 ≤ c.s) (hs2 : c.s ≤ 9223372036854775807) :
    Calls Try.prog 20 #[.pointer (some ⟨g, 0, none⟩), c.val] w fun e w' => e = .returned (.bool (a.gave c)) ∧ Below w.heap.size w w' := by
  have H := Lib.hid h
  have hf := h.few
  have c2 := h.blk.cell 0
  simp only [List.getElem?_toArray, List.getElem?_cons_zero] at c2
  by_cases h1 : 1 ≤ c.s
  · by_cases h2 : c.s ≤ a.l.length
    · obtain ⟨k, hk⟩ : ∃ k : Nat, c.s = (k : Int) + 1 := ⟨(c.s - 1).toNat, by omega⟩
      have hkl : k < a.l.length := by omega
      obtain ⟨d, hd⟩ : ∃ d, a.l[k]? = some d := ⟨_, List.getElem?_eq_getElem hkl⟩
      obtain ⟨gg, cap, rfl, x0, x1, x2, x3, x4⟩ := h.given_at hd
      have ht : a.gave c = decide (d = c) := by
        unfold Au.gave
        rw [decide_eq_true h1, decide_eq_true h2, hk, show ((k : Int) + 1 - 1).toNat = k from by omega, hd]
        simp
      rw [ht]
      obtain ⟨cs, cr, cv, cf, ct⟩ := c
      simp only at hk
      subst hk
      clear ht h h2 h1 hd
      go_enter Try.func20, Try.ntmps20
      go_wp2_with fail
      have g1 : decide ((1 : Int) ≤ (k : Int) + 1) = true := by simp; omega
      have g2 : decide ((k : Int) + 1 ≤ (a.l.length : Int)) = true := by simp; omega
      have wr : IntKind.i64.wrap ((k : Int) + 1 - 1) = (k : Int) + 1 - 1 := IntWalk.i64_in _ (by omega)
      have wt : ((k : Int) + 1 - 1).toNat = k := by omega
      have wn : (0 : Int) ≤ (k : Int) + 1 - 1 := by omega
      have wl : (k : Int) + 1 - 1 < (a.l.length : Int) := by omega
      have o2 := old_cell c2 (.cells #[.int .i64 ((k : Int) + 1), .int .i64 cr, .int .i64 cv, .int .i64 cf, .int .i64 ct] 24)
      have y0 := old_cell x0 (.cells #[.int .i64 ((k : Int) + 1), .int .i64 cr, .int .i64 cv, .int .i64 cf, .int .i64 ct] 24)
      have y1 := old_cell x1 (.cells #[.int .i64 ((k : Int) + 1), .int .i64 cr, .int .i64 cv, .int .i64 cf, .int .i64 ct] 24)
      have y2 := old_cell x2 (.cells #[.int .i64 ((k : Int) + 1), .int .i64 cr, .int .i64 cv, .int .i64 cf, .int .i64 ct] 24)
      have y3 := old_cell x3 (.cells #[.int .i64 ((k : Int) + 1), .int .i64 cr, .int .i64 cv, .int .i64 cf, .int .i64 ct] 24)
      have y4 := old_cell x4 (.cells #[.int .i64 ((k : Int) + 1), .int .i64 cr, .int .i64 cv, .int .i64 cf, .int .i64 ct] 24)
      have bx := Blk.new w 24 #[.int .i64 ((k : Int) + 1), .int .i64 cr, .int .i64 cv, .int .i64 cf, .int .i64 ct]
      have z0 := bx.cell 0
      have z1 := bx.cell 1
      have z2 := bx.cell 2
      have z3 := bx.cell 3
      have z4 := bx.cell 4
      simp only [List.getElem?_toArray, List.getElem?_cons_zero, List.getElem?_cons_succ] at z0 z1 z2 z3 z4
      have BEL := Lib.hid (below_alloc (Below.refl w.heap.size w) (.cells #[.int .i64 ((k : Int) + 1), .int .i64 cr, .int .i64 cv, .int .i64 cf, .int .i64 ct] 24))
      clear bx c2 x0 x1 x2 x3 x4
      generalize w.alloc (.cells #[.int .i64 ((k : Int) + 1), .int .i64 cr, .int .i64 cv, .int .i64 cf, .int .i64 ct] 24) = W1 at *
      have he := fun w => eq_ce d ⟨(k : Int) + 1, cr, cv, cf, ct⟩ w
      simp only at he
      have hgd := guard_ce
      go_quiet (fail)
      go_wp2_with fail
      go_ret
      exact ⟨rfl, below_drewN BEL.out _⟩
    · obtain ⟨A, cap, rfl⟩ := own_form h.own
      have ht : a.gave c = false := by
        unfold Au.gave
        rw [decide_eq_true h1, decide_eq_false h2]
        rfl
      rw [ht]
      have g1 : decide ((1 : Int) ≤ c.s) = true := by simpa using h1
      have g2 : decide (c.s ≤ (a.l.length : Int)) = false := by simpa using h2
      have o2 := old_cell c2 (.cells #[.int .i64 c.s, .int .i64 c.r, .int .i64 c.v, .int .i64 c.f, .int .i64 c.t] 24)
      have z0 := (Blk.new w 24 #[.int .i64 c.s, .int .i64 c.r, .int .i64 c.v, .int .i64 c.f, .int .i64 c.t]).cell 0
      simp only [List.getElem?_toArray, List.getElem?_cons_zero] at z0
      have BEL := Lib.hid (below_alloc (Below.refl w.heap.size w) (.cells #[.int .i64 c.s, .int .i64 c.r, .int .i64 c.v, .int .i64 c.f, .int .i64 c.t] 24))
      clear ht h h2 h1 c2
      go_enter Try.func20, Try.ntmps20
      go_wp2_with fail
      generalize w.alloc (.cells #[.int .i64 c.s, .int .i64 c.r, .int .i64 c.v, .int .i64 c.f, .int .i64 c.t] 24) = W1 at *
      go_quiet (fail)
      go_wp2_with fail
      go_ret
      exact ⟨rfl, below_drewN BEL.out _⟩
  · have ht : a.gave c = false := by
      unfold Au.gave
      rw [decide_eq_false h1]
      rfl
    rw [ht]
    have g1 : decide ((1 : Int) ≤ c.s) = false := by simpa using h1
    have z0 := (Blk.new w 24 #[.int .i64 c.s, .int .i64 c.r, .int .i64 c.v, .int .i64 c.f, .int .i64 c.t]).cell 0
    simp only [List.getElem?_toArray, List.getElem?_cons_zero] at z0
    have BEL := Lib.hid (below_alloc (Below.refl w.heap.size w) (.cells #[.int .i64 c.s, .int .i64 c.r, .int .i64 c.v, .int .i64 c.f, .int .i64 c.t] 24))
    clear ht h h1 c2
    go_enter Try.func20, Try.ntmps20
    go_wp2_with fail
    generalize w.alloc (.cells #[.int .i64 c.s, .int .i64 c.r, .int .i64 c.v, .int .i64 c.f, .int .i64 c.t] 24) = W1 at *
    go_quiet (fail)
    go_wp2_with fail
    go_ret
    exact ⟨rfl, below_drewN BEL.out _⟩

end Go.Proofs.Ytjknlijikojbmaa
