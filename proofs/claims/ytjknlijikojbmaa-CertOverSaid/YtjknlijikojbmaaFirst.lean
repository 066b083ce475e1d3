/- Check's conditions as closures, and Check. -/
import Derived.Test.YtjknlijikojbmaaCheck
import Derived.Laws.EntriesVeiled
namespace Go.Proofs.Ytjknlijikojbmaa
open Go.RowKit

set_option maxHeartbeats 400000 in
theorem cond1 {base : Nat} {w : World} {g pa pc : Nat} {vG : Value} {b : Nat} {vU : Value} {a : Au} (c : Ce) (h : AuIs base w g vG b vU a) (hs1 : -9223372036854775808 ≤ c.s) (hs2 : c.s ≤ 9223372036854775807)
    (h1 : Blk w pa 25 #[.pointer (some ⟨g, 0, none⟩)]) (h2 : Blk w pc 24 (ceCells c).toArray) :
    Calls Try.prog 19 #[.pointer (some ⟨pa, 0, none⟩), .pointer (some ⟨pc, 0, none⟩)] w fun e w' => e = .returned (.bool (!a.gave c)) ∧ Below w.heap.size w w' := by
  have H := Lib.hid h
  have c0 := h1.cell 0
  have d0 := h2.cell 0
  have d1 := h2.cell 1
  have d2 := h2.cell 2
  have d3 := h2.cell 3
  have d4 := h2.cell 4
  simp only [ceCells, List.getElem?_toArray, List.getElem?_cons_zero, List.getElem?_cons_succ] at c0 d0 d1 d2 d3 d4
  clear h h1 h2
  go_enter Try.func19, Try.ntmps19
  go_wp2_with fail
  refine (gave_any c H.out hs1 hs2).mono ?_
  rintro e w' ⟨rfl, l⟩
  have L := Lib.hid l
  clear l
  go_wp2_with fail
  go_ret
  exact ⟨rfl, L.out⟩

set_option maxHeartbeats 400000 in
theorem cond2 {w : World} {pc ps : Nat} (c : Ce) (v : Int) (h1 : Blk w pc 24 (ceCells c).toArray) (h2 : Blk w ps 3 #[.int .i64 v]) :
    Calls Try.prog 21 #[.pointer (some ⟨pc, 0, none⟩), .pointer (some ⟨ps, 0, none⟩)] w fun e w' => e = .returned (.bool (c.v != v)) ∧ Below w.heap.size w w' := by
  have c0 := h2.cell 0
  have d2 := h1.cell 2
  simp only [ceCells, List.getElem?_toArray, List.getElem?_cons_zero, List.getElem?_cons_succ] at c0 d2
  clear h1 h2
  go_enter Try.func21, Try.ntmps21
  go_wp2_with fail
  go_ret
  exact ⟨rfl, Below.refl _ _⟩

set_option maxHeartbeats 400000 in
theorem cond3 {base : Nat} {w : World} {g pa pc pn : Nat} {vG : Value} {b : Nat} {vU : Value} {a : Au} (c : Ce) (now : Int) (h : AuIs base w g vG b vU a) (hr1 : 1 ≤ c.r) (hr2 : c.r ≤ a.n)
    (h1 : Blk w pa 25 #[.pointer (some ⟨g, 0, none⟩)]) (h2 : Blk w pc 24 (ceCells c).toArray) (h3 : Blk w pn 3 #[.int .i64 now]) :
    Calls Try.prog 22 #[.pointer (some ⟨pa, 0, none⟩), .pointer (some ⟨pc, 0, none⟩), .pointer (some ⟨pn, 0, none⟩)] w fun e w' => e = .returned (.bool (!a.trusted c.r now)) ∧ Below w.heap.size w w' := by
  have H := Lib.hid h
  have c0 := h1.cell 0
  have d1 := h2.cell 1
  have n0 := h3.cell 0
  simp only [ceCells, List.getElem?_toArray, List.getElem?_cons_zero, List.getElem?_cons_succ] at c0 d1 n0
  clear h h1 h2 h3
  go_enter Try.func22, Try.ntmps22
  go_wp2_with fail
  refine (trusted_any c.r now H.out hr1 hr2).mono ?_
  rintro e w' ⟨rfl, rfl⟩
  go_wp2_with fail
  go_ret
  exact ⟨rfl, Below.refl _ _⟩

theorem zero4 (w : World) : (zeroValue 4).run Try.prog w = .ok (.bool false) w := by kernel_rfl

set_option maxHeartbeats 400000 in
theorem cond4 {base : Nat} {w : World} {g pa pc : Nat} {vG : Value} {b : Nat} {vU : Value} {a : Au} (c : Ce) (h : AuIs base w g vG b vU a)
    (h1 : Blk w pa 25 #[.pointer (some ⟨g, 0, none⟩)]) (h2 : Blk w pc 24 (ceCells c).toArray) :
    Calls Try.prog 24 #[.pointer (some ⟨pa, 0, none⟩), .pointer (some ⟨pc, 0, none⟩)] w fun e w' => e = .returned (.bool (decide (c.s ∈ a.g))) ∧ Below w.heap.size w w' := by
  have c0 := h1.cell 0
  have d0 := h2.cell 0
  have m0 := h.blk.cell 1
  simp only [ceCells, List.getElem?_toArray, List.getElem?_cons_zero, List.getElem?_cons_succ] at c0 d0 m0
  have lk : ∀ n, (Instr.lookup 49 (.map (some b)) (.int .i64 c.s) false).run Try.prog (w.drewN n) = .ok (.bool (decide (c.s ∈ a.g))) (w.drewN n) := fun n => set_look Try.underlying49 Try.underlying3 (zero4 _) (h.set.of_block (w' := w.drewN n) rfl) c.s
  clear h h1 h2
  go_enter Try.func24, Try.ntmps24
  go_wp2_with fail
  go_quiet (fail)
  go_wp2_with fail
  go_ret
  exact ⟨rfl, below_drewN (Below.refl _ _) _⟩

def Au.late (c : Ce) (now : Int) : Bool := decide (now < c.f) || decide (c.t ≤ now)

set_option maxHeartbeats 400000 in
theorem cond5 {w : World} {pc pn : Nat} (c : Ce) (now : Int) (h1 : Blk w pc 24 (ceCells c).toArray) (h2 : Blk w pn 3 #[.int .i64 now]) :
    Calls Try.prog 25 #[.pointer (some ⟨pn, 0, none⟩), .pointer (some ⟨pc, 0, none⟩)] w fun e w' => e = .returned (.bool (Au.late c now)) ∧ Below w.heap.size w w' := by
  have c0 := h2.cell 0
  have d3 := h1.cell 3
  have d4 := h1.cell 4
  simp only [ceCells, List.getElem?_toArray, List.getElem?_cons_zero, List.getElem?_cons_succ] at c0 d3 d4
  clear h1 h2
  by_cases hf : now < c.f
  · have e1 : Au.late c now = true := by unfold Au.late; rw [decide_eq_true hf]; rfl
    have hd : decide (now < c.f) = true := by simpa using hf
    rw [e1]
    clear hf e1
    go_enter Try.func25, Try.ntmps25
    go_wp2_with fail
    go_ret
    exact ⟨rfl, Below.refl _ _⟩
  · have e1 : Au.late c now = decide (c.t ≤ now) := by unfold Au.late; rw [decide_eq_false hf]; rfl
    have hd : decide (now < c.f) = false := by simpa using hf
    rw [e1]
    clear hf e1
    go_enter Try.func25, Try.ntmps25
    go_wp2_with fail
    go_ret
    exact ⟨rfl, Below.refl _ _⟩

theorem not_bad {x : Prop} {p q : Bool} (h0 : p = true) (h1 : x) (h2 : q = true) : ¬ (p = false ∨ ¬ x ∨ q = false) := by
  rintro (h | h | h)
  · rw [h0] at h; cases h
  · exact h h1
  · rw [h2] at h; cases h
/-- The memory of one Check. -/
structure Chk (base : Nat) (w : World) (g : Nat) (vG : Value) (b : Nat) (vU : Value) (a : Au) (pa pc ps pn pw : Nat) (c : Ce) (v now : Int) : Prop where
  au : AuIs base w g vG b vU a
  a_ : Blk w pa 25 #[.pointer (some ⟨g, 0, none⟩)]
  c_ : Blk w pc 24 (ceCells c).toArray
  s_ : Blk w ps 3 #[.int .i64 v]
  n_ : Blk w pn 3 #[.int .i64 now]
  w_ : Blk w pw 47 #[.int .i64 20, .func (.func 19) #[] #[.pointer (some ⟨pa, 0, none⟩), .pointer (some ⟨pc, 0, none⟩)],
    .int .i64 20, .func (.func 21) #[] #[.pointer (some ⟨pc, 0, none⟩), .pointer (some ⟨ps, 0, none⟩)],
    .int .i64 20, .func (.func 22) #[] #[.pointer (some ⟨pa, 0, none⟩), .pointer (some ⟨pc, 0, none⟩), .pointer (some ⟨pn, 0, none⟩)],
    .int .i64 22, .func (.func 24) #[] #[.pointer (some ⟨pa, 0, none⟩), .pointer (some ⟨pc, 0, none⟩)],
    .int .i64 21, .func (.func 25) #[] #[.pointer (some ⟨pn, 0, none⟩), .pointer (some ⟨pc, 0, none⟩)]]
theorem Chk.below {base : Nat} {w w' : World} {g : Nat} {vG : Value} {b : Nat} {vU : Value} {a : Au} {pa pc ps pn pw : Nat} {c : Ce} {v now : Int} (h : Chk base w g vG b vU a pa pc ps pn pw c v now) (hb : Below w.heap.size w w') :
    Chk base w' g vG b vU a pa pc ps pn pw c v now :=
  ⟨h.au.below hb, h.a_.below hb h.a_.lt, h.c_.below hb h.c_.lt, h.s_.below hb h.s_.lt, h.n_.below hb h.n_.lt, h.w_.below hb h.w_.lt⟩

set_option maxHeartbeats 4000000 in
theorem first_any {base : Nat} {w : World} {g : Nat} {vG : Value} {b : Nat} {vU : Value} {a : Au} {pa pc ps pn pw : Nat} (c : Ce) (v now : Int) (h : Chk base w g vG b vU a pa pc ps pn pw c v now)
    (hs1 : -9223372036854775808 ≤ c.s) (hs2 : c.s ≤ 9223372036854775807) (hr : a.gave c = true → 1 ≤ c.r ∧ c.r ≤ a.n) :
    Calls Try.prog 18 #[.slice (some ⟨pw, 0, none⟩) 5 5] w fun e w' => e = .returned (.int .i64 (a.check c v now)) ∧ Below w.heap.size w w' := by
  have H := Lib.hid h
  have HR := Lib.hid hr
  clear h hr
  go_enter Try.func18, Try.ntmps18
  go_wp2_with fail
  go_loopw [7] (fun i wr => ∃ k : Nat, k ≤ 5 ∧ i = .int .i64 k ∧ Below w.heap.size w wr ∧ (0 < k → a.gave c = true) ∧ (1 < k → c.v = v) ∧ (2 < k → a.trusted c.r now = true) ∧ (3 < k → c.s ∉ a.g) ∧ (4 < k → Au.late c now = false)) (fun i _ => 5 - (intOf i).toNat)
  case atStart => exact ⟨0, by omega, rfl, Below.refl _ _, by omega, by omega, by omega, by omega, by omega⟩
  case round =>
    obtain ⟨k, hk, rfl, bel, q0, q1, q2, q3, q4⟩ := hrel
    have BEL := Lib.hid bel
    have H2 := Lib.hid (H.out.below bel)
    have Q0 := Lib.hid q0
    have Q1 := Lib.hid q1
    have Q2 := Lib.hid q2
    have Q3 := Lib.hid q3
    have Q4 := Lib.hid q4
    clear bel q0 q1 q2 q3 q4
    rcases (by omega : k = 0 ∨ k = 1 ∨ k = 2 ∨ k = 3 ∨ k = 4 ∨ k = 5) with rfl | rfl | rfl | rfl | rfl | rfl
    · have c0 := H2.out.w_.cell 0
      have c1 := H2.out.w_.cell 1
      simp only [List.getElem?_toArray, List.getElem?_cons_zero, List.getElem?_cons_succ] at c0 c1
      have HA := Lib.hid (H2.out.below (below_alloc (Below.refl wr.heap.size wr) (.cells #[.int .i64 20, .func (.func 19) #[] #[.pointer (some ⟨pa, 0, none⟩), .pointer (some ⟨pc, 0, none⟩)]] 47)))
      have NB := Lib.hid (Blk.new wr 47 #[.int .i64 20, .func (.func 19) #[] #[.pointer (some ⟨pa, 0, none⟩), .pointer (some ⟨pc, 0, none⟩)]])
      have BA := Lib.hid (below_alloc (Below.refl wr.heap.size wr) (.cells #[.int .i64 20, .func (.func 19) #[] #[.pointer (some ⟨pa, 0, none⟩), .pointer (some ⟨pc, 0, none⟩)]] 47))
      go_wp2_with fail
      refine (cond1 c HA.out.au hs1 hs2 HA.out.a_ HA.out.c_).mono ?_
      rintro e w5 ⟨rfl, l5⟩
      have e0 := (NB.out.below l5 NB.out.lt).cell 0
      simp only [List.getElem?_toArray, List.getElem?_cons_zero, List.getElem?_cons_succ] at e0
      have B5 : Hid (Below w.heap.size w w5) := below_next (below_next BEL.out BA.out) l5
      clear l5 NB HA BA c0 c1
      rcases hb : (!a.gave c) with _ | _
      · have HB := Lib.hid hb
        go_wp2_with fail
        exact ⟨⟨1, by omega, by go_num, B5.out, fun _ => by simpa using hb, fun h => by omega, fun h => by omega, fun h => by omega, fun h => by omega⟩, by simp [intOf]⟩
      · have HC : Hid (a.check c v now = 20) := by show a.check c v now = 20; unfold Au.check; rw [if_pos (.inl (by simpa using hb))]
        clear hb
        go_wp2_with fail
        go_ret
        exact ⟨by rw [HC.out]; rfl, B5.out⟩
    · have c0 := H2.out.w_.cell 2
      have c1 := H2.out.w_.cell 3
      simp only [List.getElem?_toArray, List.getElem?_cons_zero, List.getElem?_cons_succ] at c0 c1
      have HA := Lib.hid (H2.out.below (below_alloc (Below.refl wr.heap.size wr) (.cells #[.int .i64 20, .func (.func 21) #[] #[.pointer (some ⟨pc, 0, none⟩), .pointer (some ⟨ps, 0, none⟩)]] 47)))
      have NB := Lib.hid (Blk.new wr 47 #[.int .i64 20, .func (.func 21) #[] #[.pointer (some ⟨pc, 0, none⟩), .pointer (some ⟨ps, 0, none⟩)]])
      have BA := Lib.hid (below_alloc (Below.refl wr.heap.size wr) (.cells #[.int .i64 20, .func (.func 21) #[] #[.pointer (some ⟨pc, 0, none⟩), .pointer (some ⟨ps, 0, none⟩)]] 47))
      go_wp2_with fail
      refine (cond2 c v HA.out.c_ HA.out.s_).mono ?_
      rintro e w5 ⟨rfl, l5⟩
      have e0 := (NB.out.below l5 NB.out.lt).cell 0
      simp only [List.getElem?_toArray, List.getElem?_cons_zero, List.getElem?_cons_succ] at e0
      have B5 : Hid (Below w.heap.size w w5) := below_next (below_next BEL.out BA.out) l5
      clear l5 NB HA BA c0 c1
      rcases hb : (c.v != v) with _ | _
      · have HB := Lib.hid hb
        go_wp2_with fail
        exact ⟨⟨2, by omega, by go_num, B5.out, fun _ => Q0.out (by omega), fun _ => by simpa using hb, fun h => by omega, fun h => by omega, fun h => by omega⟩, by simp [intOf]⟩
      · have HC : Hid (a.check c v now = 20) := by show a.check c v now = 20; unfold Au.check; rw [if_pos (.inr (.inl (by simpa using hb)))]
        clear hb
        go_wp2_with fail
        go_ret
        exact ⟨by rw [HC.out]; rfl, B5.out⟩
    · have c0 := H2.out.w_.cell 4
      have c1 := H2.out.w_.cell 5
      simp only [List.getElem?_toArray, List.getElem?_cons_zero, List.getElem?_cons_succ] at c0 c1
      have G0 := Q0.out (by omega)
      have HA := Lib.hid (H2.out.below (below_alloc (Below.refl wr.heap.size wr) (.cells #[.int .i64 20, .func (.func 22) #[] #[.pointer (some ⟨pa, 0, none⟩), .pointer (some ⟨pc, 0, none⟩), .pointer (some ⟨pn, 0, none⟩)]] 47)))
      have NB := Lib.hid (Blk.new wr 47 #[.int .i64 20, .func (.func 22) #[] #[.pointer (some ⟨pa, 0, none⟩), .pointer (some ⟨pc, 0, none⟩), .pointer (some ⟨pn, 0, none⟩)]])
      have BA := Lib.hid (below_alloc (Below.refl wr.heap.size wr) (.cells #[.int .i64 20, .func (.func 22) #[] #[.pointer (some ⟨pa, 0, none⟩), .pointer (some ⟨pc, 0, none⟩), .pointer (some ⟨pn, 0, none⟩)]] 47))
      go_wp2_with fail
      refine (cond3 c now HA.out.au (HR.out G0).1 (HR.out G0).2 HA.out.a_ HA.out.c_ HA.out.n_).mono ?_
      rintro e w5 ⟨rfl, l5⟩
      have e0 := (NB.out.below l5 NB.out.lt).cell 0
      simp only [List.getElem?_toArray, List.getElem?_cons_zero, List.getElem?_cons_succ] at e0
      have B5 : Hid (Below w.heap.size w w5) := below_next (below_next BEL.out BA.out) l5
      clear l5 NB HA BA c0 c1
      rcases hb : (!a.trusted c.r now) with _ | _
      · have HB := Lib.hid hb
        go_wp2_with fail
        exact ⟨⟨3, by omega, by go_num, B5.out, fun _ => Q0.out (by omega), fun _ => Q1.out (by omega), fun _ => by simpa using hb, fun h => by omega, fun h => by omega⟩, by simp [intOf]⟩
      · have HC : Hid (a.check c v now = 20) := by show a.check c v now = 20; unfold Au.check; rw [if_pos (.inr (.inr (by simpa using hb)))]
        clear hb
        go_wp2_with fail
        go_ret
        exact ⟨by rw [HC.out]; rfl, B5.out⟩
    · have c0 := H2.out.w_.cell 6
      have c1 := H2.out.w_.cell 7
      simp only [List.getElem?_toArray, List.getElem?_cons_zero, List.getElem?_cons_succ] at c0 c1
      have HA := Lib.hid (H2.out.below (below_alloc (Below.refl wr.heap.size wr) (.cells #[.int .i64 22, .func (.func 24) #[] #[.pointer (some ⟨pa, 0, none⟩), .pointer (some ⟨pc, 0, none⟩)]] 47)))
      have NB := Lib.hid (Blk.new wr 47 #[.int .i64 22, .func (.func 24) #[] #[.pointer (some ⟨pa, 0, none⟩), .pointer (some ⟨pc, 0, none⟩)]])
      have BA := Lib.hid (below_alloc (Below.refl wr.heap.size wr) (.cells #[.int .i64 22, .func (.func 24) #[] #[.pointer (some ⟨pa, 0, none⟩), .pointer (some ⟨pc, 0, none⟩)]] 47))
      go_wp2_with fail
      refine (cond4 c HA.out.au HA.out.a_ HA.out.c_).mono ?_
      rintro e w5 ⟨rfl, l5⟩
      have e0 := (NB.out.below l5 NB.out.lt).cell 0
      simp only [List.getElem?_toArray, List.getElem?_cons_zero, List.getElem?_cons_succ] at e0
      have B5 : Hid (Below w.heap.size w w5) := below_next (below_next BEL.out BA.out) l5
      clear l5 NB HA BA c0 c1
      rcases hb : (decide (c.s ∈ a.g)) with _ | _
      · have HB := Lib.hid hb
        go_wp2_with fail
        exact ⟨⟨4, by omega, by go_num, B5.out, fun _ => Q0.out (by omega), fun _ => Q1.out (by omega), fun _ => Q2.out (by omega), fun _ => by simpa using hb, fun h => by omega⟩, by simp [intOf]⟩
      · have HC : Hid (a.check c v now = 22) := by show a.check c v now = 22; unfold Au.check; rw [if_neg (not_bad (Q0.out (by omega)) (Q1.out (by omega)) (Q2.out (by omega))), if_pos (by simpa using hb)]
        clear hb
        go_wp2_with fail
        go_ret
        exact ⟨by rw [HC.out]; rfl, B5.out⟩
    · have c0 := H2.out.w_.cell 8
      have c1 := H2.out.w_.cell 9
      simp only [List.getElem?_toArray, List.getElem?_cons_zero, List.getElem?_cons_succ] at c0 c1
      have HA := Lib.hid (H2.out.below (below_alloc (Below.refl wr.heap.size wr) (.cells #[.int .i64 21, .func (.func 25) #[] #[.pointer (some ⟨pn, 0, none⟩), .pointer (some ⟨pc, 0, none⟩)]] 47)))
      have NB := Lib.hid (Blk.new wr 47 #[.int .i64 21, .func (.func 25) #[] #[.pointer (some ⟨pn, 0, none⟩), .pointer (some ⟨pc, 0, none⟩)]])
      have BA := Lib.hid (below_alloc (Below.refl wr.heap.size wr) (.cells #[.int .i64 21, .func (.func 25) #[] #[.pointer (some ⟨pn, 0, none⟩), .pointer (some ⟨pc, 0, none⟩)]] 47))
      go_wp2_with fail
      refine (cond5 c now HA.out.c_ HA.out.n_).mono ?_
      rintro e w5 ⟨rfl, l5⟩
      have e0 := (NB.out.below l5 NB.out.lt).cell 0
      simp only [List.getElem?_toArray, List.getElem?_cons_zero, List.getElem?_cons_succ] at e0
      have B5 : Hid (Below w.heap.size w w5) := below_next (below_next BEL.out BA.out) l5
      clear l5 NB HA BA c0 c1
      rcases hb : (Au.late c now) with _ | _
      · have HB := Lib.hid hb
        go_wp2_with fail
        exact ⟨⟨5, by omega, by go_num, B5.out, fun _ => Q0.out (by omega), fun _ => Q1.out (by omega), fun _ => Q2.out (by omega), fun _ => Q3.out (by omega), fun _ => by simpa using hb⟩, by simp [intOf]⟩
      · have HC : Hid (a.check c v now = 21) := by show a.check c v now = 21; unfold Au.check; rw [if_neg (not_bad (Q0.out (by omega)) (Q1.out (by omega)) (Q2.out (by omega))), if_neg (Q3.out (by omega)), if_pos (by unfold Au.late at hb; simpa using hb)]
        clear hb
        go_wp2_with fail
        go_ret
        exact ⟨by rw [HC.out]; rfl, B5.out⟩
    · go_wp2_with fail
      go_ret
      have HC : a.check c v now = 0 := by
        unfold Au.check
        rw [if_neg (not_bad (Q0.out (by omega)) (Q1.out (by omega)) (Q2.out (by omega))), if_neg (Q3.out (by omega)), if_neg (by have := Q4.out (by omega); unfold Au.late at this; simpa using this)]
      exact ⟨by rw [HC]; rfl, BEL.out⟩

set_option maxHeartbeats 400000 in
theorem check_any {base : Nat} {w : World} {g : Nat} {vG : Value} {b : Nat} {vU : Value} {a : Au} (c : Ce) (v now : Int) (h : AuIs base w g vG b vU a)
    (hs1 : -9223372036854775808 ≤ c.s) (hs2 : c.s ≤ 9223372036854775807) (hr : a.gave c = true → 1 ≤ c.r ∧ c.r ≤ a.n) :
    Calls Try.prog 9 #[.pointer (some ⟨g, 0, none⟩), c.val, .int .i64 v, .int .i64 now] w fun e w' => e = .returned (.int .i64 (a.check c v now)) ∧ Below w.heap.size w w' := by
  have ba := ((((Blk.new w 25 #[.pointer (some ⟨g, 0, none⟩)]).alloc (.cells (ceCells c).toArray 24)).alloc (.cells #[.int .i64 v] 3)).alloc (.cells #[.int .i64 now] 3))
  have bc := (((Blk.new (w.alloc (.cells #[.pointer (some ⟨g, 0, none⟩)] 25)) 24 (ceCells c).toArray).alloc (.cells #[.int .i64 v] 3)).alloc (.cells #[.int .i64 now] 3))
  have bs := ((Blk.new ((w.alloc (.cells #[.pointer (some ⟨g, 0, none⟩)] 25)).alloc (.cells (ceCells c).toArray 24)) 3 #[.int .i64 v]).alloc (.cells #[.int .i64 now] 3))
  have bn := (Blk.new (((w.alloc (.cells #[.pointer (some ⟨g, 0, none⟩)] 25)).alloc (.cells (ceCells c).toArray 24)).alloc (.cells #[.int .i64 v] 3)) 3 #[.int .i64 now])
  have au := (((h.alloc (.cells #[.pointer (some ⟨g, 0, none⟩)] 25)).alloc (.cells (ceCells c).toArray 24)).alloc (.cells #[.int .i64 v] 3)).alloc (.cells #[.int .i64 now] 3)
  have bel := below_alloc (below_alloc (below_alloc (below_alloc (Below.refl w.heap.size w) (.cells #[.pointer (some ⟨g, 0, none⟩)] 25)) (.cells (ceCells c).toArray 24)) (.cells #[.int .i64 v] 3)) (.cells #[.int .i64 now] 3)
  rw [World.size_alloc] at bc
  rw [World.size_alloc, World.size_alloc] at bs
  rw [World.size_alloc, World.size_alloc, World.size_alloc] at bn
  have hz : ((((w.alloc (.cells #[.pointer (some ⟨g, 0, none⟩)] 25)).alloc (.cells (ceCells c).toArray 24)).alloc (.cells #[.int .i64 v] 3)).alloc (.cells #[.int .i64 now] 3)).heap.size = w.heap.size + 1 + 1 + 1 + 1 := by simp
  simp only [ceCells] at ba bc bs bn au bel hz
  have BA := Lib.hid ba
  have BC := Lib.hid bc
  have BS := Lib.hid bs
  have BN := Lib.hid bn
  have AU := Lib.hid au
  have BEL := Lib.hid bel
  have HZ := Lib.hid hz
  clear ba bc bs bn au bel h hz
  go_enter Try.func9, Try.ntmps9
  go_wp2_with fail
  generalize (((w.alloc (.cells #[.pointer (some ⟨g, 0, none⟩)] 25)).alloc (.cells #[.int .i64 c.s, .int .i64 c.r, .int .i64 c.v, .int .i64 c.f, .int .i64 c.t] 24)).alloc (.cells #[.int .i64 v] 3)).alloc (.cells #[.int .i64 now] 3) = W4 at *
  rw [← HZ.out]
  refine (first_any (base := base) (g := g) (vG := vG) (b := b) (vU := vU) (a := a) (pa := w.heap.size) (pc := w.heap.size + 1) (ps := w.heap.size + 1 + 1) (pn := w.heap.size + 1 + 1 + 1) (pw := W4.heap.size) c v now ⟨AU.out.alloc _, BA.out.alloc _, BC.out.alloc _, BS.out.alloc _, BN.out.alloc _, Blk.new W4 47 _⟩ hs1 hs2 hr).mono ?_
  rintro e w9 ⟨rfl, l9⟩
  have L9 := Lib.hid (below_next (below_alloc BEL.out _) l9)
  clear l9
  go_wp2_with fail
  go_ret
  exact ⟨rfl, L9.out⟩

end Go.Proofs.Ytjknlijikojbmaa
