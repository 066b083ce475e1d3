/- What the small functions of layer 25 compute, each once: numbers made of a number, a new table. -/
import Derived.Test.YthbpimkbdkjcnaaMap
import Derived.BigQuiet
import Derived.BigRegion
import Derived.Deep.QuietTactic
import Derived.Deep.Draws
import Derived.Laws.Rows
namespace Go.Proofs.Ythbpimkbdkjcnaa
open Go.RowKit

/-! ### blocks that are known whole -/
def Blk (w : World) (g : Nat) (t : TypeId) (cs : Array Value) : Prop := w.heap[g]? = some (.cells cs t (0, 0))

section
variable {w w' : World} {g : Nat} {t : TypeId} {cs : Array Value}
theorem Blk.lt (h : Blk w g t cs) : g < w.heap.size := by
  rcases Nat.lt_or_ge g w.heap.size with hlt | hge
  · exact hlt
  · unfold Blk at h; rw [Array.getElem?_eq_none hge] at h; cases h
theorem Blk.cell (h : Blk w g t cs) (i : Nat) : w.cell? ⟨g, i, none⟩ = cs[i]? := cell_of_row w g i cs t (0, 0) h
theorem Blk.frozen (h : Blk w g t cs) (i : Nat) : w.frozen? ⟨g, i, none⟩ = false := by
  unfold Blk at h
  simp [World.frozen?, h]
theorem Blk.new (w : World) (t : TypeId) (cs : Array Value) : Blk (w.alloc (.cells cs t)) w.heap.size t cs := heap_alloc_new w _
theorem Blk.drew (h : Blk w g t cs) : Blk w.drew g t cs := h
theorem Blk.drewN (h : Blk w g t cs) (n : Nat) : Blk (w.drewN n) g t cs := h
theorem Blk.alloc (h : Blk w g t cs) (o : Obj) : Blk (w.alloc o) g t cs := (Below.heap_alloc w o g h.lt).trans h
theorem Blk.set_ (h : Blk w g t cs) (i : Nat) (u : Value) : Blk (w.setCell ⟨g, i, none⟩ u) g t (cs.setIfInBounds i u) := by
  unfold Blk at h ⊢
  simp [World.setCell, Array.getElem?_modify, h]
theorem Blk.far (h : Blk w g t cs) {p : Addr} (hp : g ≠ p.block) (u : Value) : Blk (w.setCell p u) g t cs := (Below.heap_setCell w p u g hp).trans h
theorem Blk.below {B : Nat} (h : Blk w g t cs) (hb : Below B w w') (hg : g < B) : Blk w' g t cs := (hb.block g hg).trans h
theorem Blk.grown {row : Option Nat} (h : Blk w g t cs) (hb : w.grownBy w' row) (hg : some g ≠ row) : Blk w' g t cs := (hb.block g h.lt hg).trans h
theorem Blk.ne_ {g' : Nat} {t' : TypeId} {cs' : Array Value} (h : Blk w g t cs) (h' : Blk w g' t' cs') (hne : t ≠ t') : g ≠ g' := by
  rintro rfl
  unfold Blk at h h'
  rw [h] at h'
  injection h' with h'
  injection h' with _ ht
  exact hne ht
end

theorem only_drewN {a w : World} {row : Option Nat} (h : a.grownBy w row) (n : Nat) : a.grownBy (w.drewN n) row := ⟨h.os, h.tape, h.output, h.size, h.block⟩
theorem only_drew {a w : World} {row : Option Nat} (h : a.grownBy w row) : a.grownBy w.drew row := ⟨h.os, h.tape, h.output, h.size, h.block⟩
theorem only_alloc {a w : World} {row : Option Nat} (h : a.grownBy w row) (o : Obj) : a.grownBy (w.alloc o) row :=
  ⟨h.os, h.tape, h.output, Nat.le_trans h.size (by simp), fun i hi hne => (Below.heap_alloc w o i (Nat.lt_of_lt_of_le hi h.size)).trans (h.block i hi hne)⟩
theorem only_setCell {a w : World} {g : Nat} (h : a.grownBy w (some g)) {p : Addr} (hp : p.block = g ∨ a.heap.size ≤ p.block) (u : Value) : a.grownBy (w.setCell p u) (some g) :=
  ⟨h.os, h.tape, h.output, by simpa [World.setCell] using h.size, fun i hi hne => (Below.heap_setCell w p u i (by
    rintro rfl
    rcases hp with hp | hp
    · exact hne (by rw [hp])
    · omega)).trans (h.block i hi hne)⟩
theorem only_of_below {a w : World} (h : Below a.heap.size a w) (row : Option Nat) : a.grownBy w row := ⟨h.os, h.tape, h.output, h.size, fun i hi _ => h.block i hi⟩
theorem only_trans {a b c : World} {row : Option Nat} (h : a.grownBy b row) (k : b.grownBy c row) : a.grownBy c row :=
  ⟨k.os.trans h.os, k.tape.trans h.tape, k.output.trans h.output, Nat.le_trans h.size k.size, fun i hi hne => (k.block i (Nat.lt_of_lt_of_le hi h.size) hne).trans (h.block i hi hne)⟩
theorem below_drewN {B : Nat} {a w : World} (h : Below B a w) (n : Nat) : Below B a (w.drewN n) := ⟨h.os, h.tape, h.output, h.size, h.block⟩
theorem below_step {a w w' : World} {g : Nat} (h : Below a.heap.size a w) (hg : w.grownBy w' (some g)) (hgg : a.heap.size ≤ g) : Below a.heap.size a w' :=
  h.grown hg h.size (fun k hk => by injection hk with hk; omega)
theorem below_next {a w w' : World} (h : Below a.heap.size a w) (k : Below w.heap.size w w') : Below a.heap.size a w' := h.trans (k.mono h.size)
theorem below_alloc {a w : World} (h : Below a.heap.size a w) (o : Obj) : Below a.heap.size a (w.alloc o) := h.alloc h.size o
theorem set_same {cs : Array Value} {i : Nat} {u : Value} (h : cs[i]? = some u) : cs.setIfInBounds i u = cs := by
  apply Array.ext_getElem?
  intro j
  rw [Array.getElem?_setIfInBounds]
  split
  · rename_i hij
    subst hij
    split
    · rw [h]
    · rename_i hlt
      rw [Array.getElem?_eq_none (by omega)]
  · rfl

/-! ### numbers -/
def arnd (n m : Int) : Int := if n < 0 then (-(n + 1)) % m else n % m
theorem arnd_lo (n m : Int) (hm : 0 < m) : 0 ≤ arnd n m := by
  unfold arnd; split <;> exact Int.emod_nonneg _ (by omega)
theorem arnd_hi (n m : Int) (hm : 0 < m) : arnd n m < m := by
  unfold arnd; split <;> exact Int.emod_lt_of_pos _ hm

/-- A number from 0 on, below m. -/
def Arnd (m : Int) (w : World) (e : Ending) (w' : World) : Prop := ∃ k : Int, 0 ≤ k ∧ k < m ∧ e = .returned (.int .i64 k) ∧ w = w'

set_option maxHeartbeats 400000 in
theorem around_any (n m : Int) (w : World) (h1 : -9223372036854775808 ≤ n) (h2 : n ≤ 9223372036854775807) (hm : 0 < m) (hm2 : m ≤ 9223372036854775807) :
    Calls Try.prog 20 #[.int .i64 n, .int .i64 m] w fun e w' => e = .returned (.int .i64 (arnd n m)) ∧ w = w' := by
  by_cases h : n < 0
  · have e : arnd n m = -(n + 1).tmod m := by
      unfold arnd; rw [if_pos h, ← Int.neg_tmod, Int.tmod_eq_emod_of_nonneg (by omega)]
    rw [e]
    go_enter Try.func20, Try.ntmps20
    go_wp2
    go_ret
    exact ⟨rfl, rfl⟩
  · have e : arnd n m = n % m := by unfold arnd; rw [if_neg h]
    rw [e]
    go_enter Try.func20, Try.ntmps20
    go_wp2
    go_ret
    exact ⟨rfl, rfl⟩

theorem around_some (n m : Int) (w : World) (h1 : -9223372036854775808 ≤ n) (h2 : n ≤ 9223372036854775807) (hm : 0 < m) (hm2 : m ≤ 9223372036854775807) :
    Calls Try.prog 20 #[.int .i64 n, .int .i64 m] w (Arnd m w) :=
  (around_any n m w h1 h2 hm hm2).mono fun _ _ ⟨he, hw⟩ => ⟨arnd n m, arnd_lo n m hm, arnd_hi n m hm, he, hw⟩

set_option maxHeartbeats 400000 in
theorem horizon_some (n : Int) (w : World) (h1 : -9223372036854775808 ≤ n) (h2 : n ≤ 9223372036854775807) :
    Calls Try.prog 10 #[.int .i64 n] w fun e w' => ∃ k : Int, 1 ≤ k ∧ k ≤ 40 ∧ e = .returned (.int .i64 k) ∧ w = w' := by
  go_enter Try.func10, Try.ntmps10
  go_wp2_with fail
  refine (around_some n _ _ h1 h2 (by omega) (by omega)).mono ?_
  rintro e w' ⟨k, hk1, hk2, rfl, rfl⟩
  go_wp2_with fail
  go_ret
  exact ⟨1 + k, by omega, by omega, rfl, rfl⟩

def laters : Array Value := #[.int .i64 0, .int .i64 1, .int .i64 2, .int .i64 3, .int .i64 7, .int .i64 20]
def keys6 : Array Value := #[.string { data := #[] }, .string { data := #[55] }, .string { data := #[55, 47, 48] }, .string { data := #[56] }, .string { data := #[55, 47, 49] }, .string { data := #[97] }]
theorem laters_at (i : Nat) (hi : i < 6) : ∃ l : Int, 0 ≤ l ∧ l ≤ 20 ∧ laters[i]? = some (.int .i64 l) := by
  match i, hi with
  | 0, _ => exact ⟨0, by omega, by omega, rfl⟩
  | 1, _ => exact ⟨1, by omega, by omega, rfl⟩
  | 2, _ => exact ⟨2, by omega, by omega, rfl⟩
  | 3, _ => exact ⟨3, by omega, by omega, rfl⟩
  | 4, _ => exact ⟨7, by omega, by omega, rfl⟩
  | 5, _ => exact ⟨20, by omega, by omega, rfl⟩
theorem keys6_at (i : Nat) (hi : i < 6) : ∃ s : ByteArray, s.size ≤ 3 ∧ keys6[i]? = some (.string s) := by
  match i, hi with
  | 0, _ => exact ⟨_, by decide, rfl⟩
  | 1, _ => exact ⟨_, by decide, rfl⟩
  | 2, _ => exact ⟨_, by decide, rfl⟩
  | 3, _ => exact ⟨_, by decide, rfl⟩
  | 4, _ => exact ⟨_, by decide, rfl⟩
  | 5, _ => exact ⟨_, by decide, rfl⟩
theorem cell_new1 (w : World) (c : Array Value) (t : TypeId) (i : Nat) : (w.alloc (.cells c t)).cell? ⟨w.heap.size, i, none⟩ = c[i]? := (Blk.new w t c).cell i
theorem cell_new2 (w : World) (o : Obj) (c : Array Value) (t : TypeId) (i : Nat) : ((w.alloc o).alloc (.cells c t)).cell? ⟨w.heap.size + 1, i, none⟩ = c[i]? := by
  have h := (Blk.new (w.alloc o) t c).cell i
  rwa [World.size_alloc] at h
theorem cell_old1 (w : World) (o : Obj) (c : Array Value) (t : TypeId) (i : Nat) : ((w.alloc (.cells c t)).alloc o).cell? ⟨w.heap.size, i, none⟩ = c[i]? := ((Blk.new w t c).alloc o).cell i

theorem step_blk {W : World} {rb : Nat} {z : Int} {s : ByteArray} {p : Bool} (h : Blk W rb 28 #[.int .i64 0, .string { data := #[] }, .bool false]) :
    Blk (((W.setCell ⟨rb, 0, none⟩ (.int .i64 z)).setCell ⟨rb, 1, none⟩ (.string s)).setCell ⟨rb, 2, none⟩ (.bool p)).drew rb 28 #[.int .i64 z, .string s, .bool p] := by
  have h1 := ((h.set_ 0 (.int .i64 z)).set_ 1 (.string s)).set_ 2 (.bool p)
  exact h1
theorem below_set {a w : World} {g : Nat} (h : Below a.heap.size a w) (hg : a.heap.size ≤ g) (i : Nat) (u : Value) : Below a.heap.size a (w.setCell ⟨g, i, none⟩ u) := h.setCell (p := ⟨g, i, none⟩) hg u

/-- A step, made of a number. -/
def StepIs (w : World) (e : Ending) (w' : World) : Prop :=
  ∃ (l : Int) (s : ByteArray) (p : Bool), 0 ≤ l ∧ l ≤ 100 ∧ s.size ≤ 3 ∧ e = .returned (.agg #[.int .i64 l, .string s, .bool p]) ∧ Below w.heap.size w w'

set_option maxHeartbeats 400000 in
theorem of_any (n : Int) (w : World) (h1 : -9223372036854775808 ≤ n) (h2 : n ≤ 9223372036854775807) :
    Calls Try.prog 12 #[.int .i64 n] w (StepIs w) := by
  go_enter Try.func12, Try.ntmps12
  go_wp2_with fail
  refine (around_some n _ _ h1 h2 (by omega) (by omega)).mono ?_
  rintro e w' ⟨k, hk1, hk2, rfl, rfl⟩
  go_wp2_with fail
  have q1 : 0 ≤ k / 600 % 2 * (k / 1200 % 50) := Int.mul_nonneg (by omega) (by omega)
  have q2 : k / 600 % 2 * (k / 1200 % 50) ≤ 1 * 49 := Int.mul_le_mul (by omega) (by omega) (by omega) (by omega)
  have hb0 := Blk.new w 28 #[.int .i64 0, .string { data := #[] }, .bool false]
  have lb0 := below_alloc (Below.refl w.heap.size w) (.cells #[.int .i64 0, .string { data := #[] }, .bool false] 28)
  generalize (w.alloc (Obj.cells #[Value.int IntKind.i64 0, Value.string { data := #[] }, Value.bool false] 28)) = wd at *
  have LB := Lib.hid lb0
  have hA := (hb0.alloc (.cells laters 3)).alloc (.cells keys6 9)
  have hB := (hb0.alloc (.cells keys6 9)).alloc (.cells laters 3)
  have a0 := hA.cell 0
  have a1 := hA.cell 1
  have a2 := hA.cell 2
  have b0 := hB.cell 0
  have b1 := hB.cell 1
  have b2 := hB.cell 2
  have fa := hA.frozen 0
  have fa1 := hA.frozen 1
  have fa2 := hA.frozen 2
  have fb := hB.frozen 0
  have fb1 := hB.frozen 1
  have fb2 := hB.frozen 2
  unfold laters keys6 at a0 a1 a2 b0 b1 b2 fa fa1 fa2 fb fb1 fb2
  simp only [List.getElem?_toArray, List.getElem?_cons_zero, List.getElem?_cons_succ] at a0 a1 a2 b0 b1 b2
  have HA := Lib.hid hA
  have HB := Lib.hid hB
  clear hA hB hb0 lb0
  obtain ⟨l0, hl1, hl2, hl⟩ := laters_at (k % 6).toNat (by omega)
  obtain ⟨s0, hs1, hs⟩ := keys6_at (k / 6 % 6).toNat (by omega)
  have f1 := (cell_new1 wd laters 3 (k % 6).toNat).trans hl
  have f2 := (cell_new1 wd keys6 9 (k / 6 % 6).toNat).trans hs
  have f3 := (cell_new2 wd (.cells keys6 9) laters 3 (k % 6).toNat).trans hl
  have f4 := (cell_new2 wd (.cells laters 3) keys6 9 (k / 6 % 6).toNat).trans hs
  have f5 := (cell_old1 wd (.cells keys6 9) laters 3 (k % 6).toNat).trans hl
  have f6 := (cell_old1 wd (.cells laters 3) keys6 9 (k / 6 % 6).toNat).trans hs
  unfold laters at f1 f3 f4 f5 f6
  unfold keys6 at f2 f3 f4 f5 f6
  clear hl hs
  go_region
  all_goals clear a0 a1 a2 b0 b1 b2 fa fa1 fa2 fb fb1 fb2 f1 f2 f3 f4 f5 f6
  all_goals go_wp2
  all_goals generalize hz : l0 + k / 600 % 2 * (k / 1200 % 50) = z
  · have hr := step_blk (z := z) (s := s0) (p := decide (0 < k / 36 % 3)) HA.out
    unfold laters keys6 at hr
    have r0 := hr.cell 0
    have r1 := hr.cell 1
    have r2 := hr.cell 2
    simp only [List.getElem?_toArray, List.getElem?_cons_zero, List.getElem?_cons_succ] at r0 r1 r2
    refine bodyPost_ret (v := .agg #[.int .i64 z, .string s0, .bool (decide (0 < k / 36 % 3))]) (by simp [results, Try.results12, go_sem, r0, r1, r2]) rfl ?_
    exact ⟨_, _, _, by omega, by omega, hs1, rfl, (below_set (below_set (below_set (below_alloc (below_alloc LB.out _) _) (Nat.le_refl _) _ _) (Nat.le_refl _) _ _) (Nat.le_refl _) _ _).drew⟩
  · have hr := step_blk (z := z) (s := s0) (p := decide (0 < k / 36 % 3)) HB.out
    unfold laters keys6 at hr
    have r0 := hr.cell 0
    have r1 := hr.cell 1
    have r2 := hr.cell 2
    simp only [List.getElem?_toArray, List.getElem?_cons_zero, List.getElem?_cons_succ] at r0 r1 r2
    refine bodyPost_ret (v := .agg #[.int .i64 z, .string s0, .bool (decide (0 < k / 36 % 3))]) (by simp [results, Try.results12, go_sem, r0, r1, r2]) rfl ?_
    exact ⟨_, _, _, by omega, by omega, hs1, rfl, (below_set (below_set (below_set (below_alloc (below_alloc LB.out _) _) (Nat.le_refl _) _ _) (Nat.le_refl _) _ _) (Nat.le_refl _) _ _).drew⟩
end Go.Proofs.Ythbpimkbdkjcnaa
