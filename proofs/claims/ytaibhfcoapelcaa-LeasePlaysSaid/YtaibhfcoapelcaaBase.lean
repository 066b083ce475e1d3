/- What the small functions of layer 24 compute, each once: numbers made of a number, a limiter, a client. -/
import Derived.Test.YtaibhfcoapelcaaRows
import Derived.WalkKit
import Derived.WalkSpells
import Derived.WalkLawsBesides
import Derived.Handy
import Derived.Lib.Hide
import Derived.BigQuiet
import Derived.Deep.QuietTactic
import Derived.Deep.Draws
import Derived.Laws.Rows
namespace Go.Proofs.Ytaibhfcoapelcaa
open Go.RowKit

/-! ### blocks that are known whole -/
def Blk (w : World) (g : Nat) (t : TypeId) (cs : Array Value) : Prop := w.heap[g]? = some (.cells cs t (0, 0))

section
variable {w w' : World} {g : Nat} {t : TypeId} {cs : Array Value}
theorem Blk.lt (h : Blk w g t cs) : g < w.heap.size := by
  rcases Nat.lt_or_ge g w.heap.size with hlt | hge
  · exact hlt
  · unfold Blk at h; rw [Array.getElem?_eq_none hge] at h; cases h
theorem Blk.cell (h : Blk w g t cs) (i : Nat) : w.cell? ⟨g, i, none⟩ = cs[i]? := cell_of_row w g i cs t (0, 0) h
theorem Blk.frozen (h : Blk w g t cs) (i : Nat) : w.frozen? ⟨g, i, none⟩ = false := by
  unfold Blk at h
  simp [World.frozen?, h]
theorem Blk.new (w : World) (t : TypeId) (cs : Array Value) : Blk (w.alloc (.cells cs t)) w.heap.size t cs := heap_alloc_new w _
theorem Blk.drew (h : Blk w g t cs) : Blk w.drew g t cs := h
theorem Blk.drewN (h : Blk w g t cs) (n : Nat) : Blk (w.drewN n) g t cs := h
theorem Blk.alloc (h : Blk w g t cs) (o : Obj) : Blk (w.alloc o) g t cs := (Below.heap_alloc w o g h.lt).trans h
theorem Blk.set_ (h : Blk w g t cs) (i : Nat) (u : Value) : Blk (w.setCell ⟨g, i, none⟩ u) g t (cs.setIfInBounds i u) := by
  unfold Blk at h ⊢
  simp [World.setCell, Array.getElem?_modify, h]
theorem Blk.far (h : Blk w g t cs) {p : Addr} (hp : g ≠ p.block) (u : Value) : Blk (w.setCell p u) g t cs := (Below.heap_setCell w p u g hp).trans h
theorem Blk.below {B : Nat} (h : Blk w g t cs) (hb : Below B w w') (hg : g < B) : Blk w' g t cs := (hb.block g hg).trans h
theorem Blk.grown {row : Option Nat} (h : Blk w g t cs) (hb : w.grownBy w' row) (hg : some g ≠ row) : Blk w' g t cs := (hb.block g h.lt hg).trans h
theorem Blk.ne_ {g' : Nat} {t' : TypeId} {cs' : Array Value} (h : Blk w g t cs) (h' : Blk w g' t' cs') (hne : t ≠ t') : g ≠ g' := by
  rintro rfl
  unfold Blk at h h'
  rw [h] at h'
  injection h' with h'
  injection h' with _ ht
  exact hne ht
end

theorem only_drewN {a w : World} {row : Option Nat} (h : a.grownBy w row) (n : Nat) : a.grownBy (w.drewN n) row := ⟨h.os, h.tape, h.output, h.size, h.block⟩
theorem only_drew {a w : World} {row : Option Nat} (h : a.grownBy w row) : a.grownBy w.drew row := ⟨h.os, h.tape, h.output, h.size, h.block⟩
theorem only_alloc {a w : World} {row : Option Nat} (h : a.grownBy w row) (o : Obj) : a.grownBy (w.alloc o) row :=
  ⟨h.os, h.tape, h.output, Nat.le_trans h.size (by simp), fun i hi hne => (Below.heap_alloc w o i (Nat.lt_of_lt_of_le hi h.size)).trans (h.block i hi hne)⟩
theorem only_setCell {a w : World} {g : Nat} (h : a.grownBy w (some g)) {p : Addr} (hp : p.block = g ∨ a.heap.size ≤ p.block) (u : Value) : a.grownBy (w.setCell p u) (some g) :=
  ⟨h.os, h.tape, h.output, by simpa [World.setCell] using h.size, fun i hi hne => (Below.heap_setCell w p u i (by
    rintro rfl
    rcases hp with hp | hp
    · exact hne (by rw [hp])
    · omega)).trans (h.block i hi hne)⟩
theorem only_of_below {a w : World} (h : Below a.heap.size a w) (row : Option Nat) : a.grownBy w row := ⟨h.os, h.tape, h.output, h.size, fun i hi _ => h.block i hi⟩
theorem only_trans {a b c : World} {row : Option Nat} (h : a.grownBy b row) (k : b.grownBy c row) : a.grownBy c row :=
  ⟨k.os.trans h.os, k.tape.trans h.tape, k.output.trans h.output, Nat.le_trans h.size k.size, fun i hi hne => (k.block i (Nat.lt_of_lt_of_le hi h.size) hne).trans (h.block i hi hne)⟩
theorem below_drewN {B : Nat} {a w : World} (h : Below B a w) (n : Nat) : Below B a (w.drewN n) := ⟨h.os, h.tape, h.output, h.size, h.block⟩
theorem below_step {a w w' : World} {g : Nat} (h : Below a.heap.size a w) (hg : w.grownBy w' (some g)) (hgg : a.heap.size ≤ g) : Below a.heap.size a w' :=
  h.grown hg h.size (fun k hk => by injection hk with hk; omega)
theorem below_next {a w w' : World} (h : Below a.heap.size a w) (k : Below w.heap.size w w') : Below a.heap.size a w' := h.trans (k.mono h.size)
theorem below_alloc {a w : World} (h : Below a.heap.size a w) (o : Obj) : Below a.heap.size a (w.alloc o) := h.alloc h.size o
theorem set_same {cs : Array Value} {i : Nat} {u : Value} (h : cs[i]? = some u) : cs.setIfInBounds i u = cs := by
  apply Array.ext_getElem?
  intro j
  rw [Array.getElem?_setIfInBounds]
  split
  · rename_i hij
    subst hij
    split
    · rw [h]
    · rename_i hlt
      rw [Array.getElem?_eq_none (by omega)]
  · rfl

/-! ### numbers -/
def arnd (n m : Int) : Int := if n < 0 then (-(n + 1)) % m else n % m
theorem arnd_lo (n m : Int) (hm : 0 < m) : 0 ≤ arnd n m := by
  unfold arnd; split <;> exact Int.emod_nonneg _ (by omega)
theorem arnd_hi (n m : Int) (hm : 0 < m) : arnd n m < m := by
  unfold arnd; split <;> exact Int.emod_lt_of_pos _ hm

/-- A number from 0 on, below m. -/
def Arnd (m : Int) (w : World) (e : Ending) (w' : World) : Prop := ∃ k : Int, 0 ≤ k ∧ k < m ∧ e = .returned (.int .i64 k) ∧ w = w'

set_option maxHeartbeats 400000 in
theorem around_any (n m : Int) (w : World) (h1 : -9223372036854775808 ≤ n) (h2 : n ≤ 9223372036854775807) (hm : 0 < m) (hm2 : m ≤ 9223372036854775807) :
    Calls Try.prog 11 #[.int .i64 n, .int .i64 m] w fun e w' => e = .returned (.int .i64 (arnd n m)) ∧ w = w' := by
  by_cases h : n < 0
  · have e : arnd n m = -(n + 1).tmod m := by
      unfold arnd; rw [if_pos h, ← Int.neg_tmod, Int.tmod_eq_emod_of_nonneg (by omega)]
    rw [e]
    go_enter Try.func11, Try.ntmps11
    go_wp2
    go_ret
    exact ⟨rfl, rfl⟩
  · have e : arnd n m = n % m := by unfold arnd; rw [if_neg h]
    rw [e]
    go_enter Try.func11, Try.ntmps11
    go_wp2
    go_ret
    exact ⟨rfl, rfl⟩

theorem around_some (n m : Int) (w : World) (h1 : -9223372036854775808 ≤ n) (h2 : n ≤ 9223372036854775807) (hm : 0 < m) (hm2 : m ≤ 9223372036854775807) :
    Calls Try.prog 11 #[.int .i64 n, .int .i64 m] w (Arnd m w) :=
  (around_any n m w h1 h2 hm hm2).mono fun _ _ ⟨he, hw⟩ => ⟨arnd n m, arnd_lo n m hm, arnd_hi n m hm, he, hw⟩

/-- A rate that may be. -/
def RateIs (w : World) (e : Ending) (w' : World) : Prop :=
  ∃ L W S : Int, 1 ≤ L ∧ L ≤ 12 ∧ 1 ≤ W ∧ W ≤ 9 ∧ 1 ≤ S ∧ S ≤ L ∧ e = .returned (.agg #[.int .i64 L, .int .i64 W, .int .i64 S]) ∧ Below w.heap.size w w'

set_option maxHeartbeats 400000 in
theorem rate_any (n : Int) (w : World) (h1 : -9223372036854775808 ≤ n) (h2 : n ≤ 9223372036854775807) :
    Calls Try.prog 10 #[.int .i64 n] w (RateIs w) := by
  go_enter Try.func10, Try.ntmps10
  go_wp2_with fail
  refine (around_some _ _ _ (by omega) (by omega) (by omega) (by omega)).mono ?_
  rintro e w' ⟨a, ha1, ha2, rfl, rfl⟩
  have b1 : 0 ≤ a % 12 := by omega
  have b2 : a % 12 < 12 := by omega
  have b3 : 0 ≤ a / 108 % (1 + a % 12) := Int.emod_nonneg _ (by omega)
  have b4 : a / 108 % (1 + a % 12) < 1 + a % 12 := Int.emod_lt_of_pos _ (by omega)
  go_wp2_with fail
  refine bodyPost_ret (v := .agg #[.int .i64 (1 + a % 12), .int .i64 (1 + a / 12 % 9), .int .i64 (1 + a / 108 % (1 + a % 12))]) (by simp [results, Try.results10, go_sem]) rfl ?_
  exact ⟨_, _, _, by omega, by omega, by omega, by omega, by omega, by omega, rfl, (Below.refl _ _).alloc (Nat.le_refl _) _⟩

/-- A new limiter. -/
def LimiterNew (L W S : Int) (w : World) (e : Ending) (w' : World) : Prop :=
  ∃ g, w.heap.size ≤ g ∧ e = .returned (.pointer (some ⟨g, 0, none⟩)) ∧ Blk w' g 64 #[.int .i64 W, .int .i64 0, .int .i64 0, .int .i64 L, .int .i64 S] ∧ Below w.heap.size w w'

theorem blk_new2 (w : World) (o : Obj) (t : TypeId) (cs : Array Value) : Blk ((w.alloc o).alloc (.cells cs t)) (w.heap.size + 1) t cs := by
  have h := Blk.new (w.alloc o) t cs
  rwa [World.size_alloc] at h

set_option maxHeartbeats 400000 in
theorem limiter_new (L W S : Int) (w : World) :
    Calls Try.prog 12 #[.agg #[.int .i64 L, .int .i64 W, .int .i64 S]] w (LimiterNew L W S w) := by
  go_enter Try.func12, Try.ntmps12
  go_wp2_with fail
  go_ret
  exact ⟨w.heap.size + 1, by omega, rfl, blk_new2 _ _ _ _, ((Below.refl _ _).alloc (Nat.le_refl _) _).alloc (by simp) _⟩

/-- What stands in a window's count at a tick. -/
def kn (t k n now : Int) : Int := if now / t = k then n else 0

set_option maxHeartbeats 400000 in
theorem at_any (g : Nat) (T : TypeId) (cs : Array Value) (t k n now : Int) (w : World) (hb : Blk w g T cs) (h0 : cs[0]? = some (.int .i64 t)) (h1 : cs[1]? = some (.int .i64 k)) (h2 : cs[2]? = some (.int .i64 n))
   (ht : 1 ≤ t) (ht2 : t ≤ 1000) (hn : 0 ≤ now) (hn2 : now ≤ 1000000) :
    Calls Try.prog 29 #[.pointer (some ⟨g, 0, none⟩), .int .i64 now] w fun e w' => e = .returned (.tuple #[]) ∧ w.grownBy w' (some g) ∧
      Blk w' g T ((cs.setIfInBounds 1 (.int .i64 (now / t))).setIfInBounds 2 (.int .i64 (kn t k n now))) := by
  have c0 : w.cell? ⟨g, 0, none⟩ = some (.int .i64 t) := by rw [hb.cell, h0]
  have c1 : w.cell? ⟨g, 1, none⟩ = some (.int .i64 k) := by rw [hb.cell, h1]
  have c2 : w.cell? ⟨g, 2, none⟩ = some (.int .i64 n) := by rw [hb.cell, h2]
  have f1 := hb.frozen 1
  have f2 := hb.frozen 2
  have hmx : max t 1 = t := by omega
  have HB := Lib.hid hb; clear hb
  by_cases hk : now / t = k
  · have e1 : kn t k n now = n := by unfold kn; rw [if_pos hk]
    have hkb : (now / t != k) = false := by simp [hk]
    rw [e1, hk, set_same h1, set_same h2]
    clear h0 h1 h2 hk e1
    go_enter Try.func29, Try.ntmps29
    go_wp2
    go_end0
    exact ⟨rfl, World.grownBy.refl _ _, HB.out⟩
  · have e1 : kn t k n now = 0 := by unfold kn; rw [if_neg hk]
    have hkb : (now / t != k) = true := by simp [hk]
    rw [e1]
    clear h0 h1 h2 hk e1
    go_enter Try.func29, Try.ntmps29
    go_wp2
    go_end0
    refine ⟨rfl, ?_, ?_⟩
    · exact only_setCell (p := ⟨g, 2, none⟩) (only_setCell (p := ⟨g, 1, none⟩) (World.grownBy.refl w (some g)) (Or.inl rfl) _) (Or.inl rfl) _
    · have hb := HB.out
      have hb1 := hb.set_ 1 (.int .i64 (now / t))
      exact hb1.set_ 2 (.int .i64 0)

/-- Ask: what is leased. -/
def AskPost (g : Nat) (t k n L S now : Int) (w : World) (e : Ending) (w' : World) : Prop :=
  e = .returned (.int .i64 (min S (L - kn t k n now))) ∧ w.grownBy w' (some g) ∧
    Blk w' g 64 #[.int .i64 t, .int .i64 (now / t), .int .i64 (kn t k n now + min S (L - kn t k n now)), .int .i64 L, .int .i64 S]

theorem kn_range (t k n now m : Int) (h0 : 0 ≤ n) (h1 : n ≤ m) (hm : 0 ≤ m) : 0 ≤ kn t k n now ∧ kn t k n now ≤ m := by
  unfold kn; split <;> omega

set_option maxHeartbeats 400000 in
theorem ask_any (g : Nat) (t k n L S now : Int) (w : World) (hb : Blk w g 64 #[.int .i64 t, .int .i64 k, .int .i64 n, .int .i64 L, .int .i64 S])
   (ht : 1 ≤ t) (ht2 : t ≤ 1000) (hn : 0 ≤ now) (hn2 : now ≤ 1000000) (hL : 1 ≤ L) (hL2 : L ≤ 1000) (hS : 1 ≤ S) (hS2 : S ≤ 1000) (hq : 0 ≤ n) (hq2 : n ≤ L) :
    Calls Try.prog 13 #[.pointer (some ⟨g, 0, none⟩), .int .i64 now] w (AskPost g t k n L S now w) := by
  obtain ⟨r1, r2⟩ := kn_range t k n now L hq hq2 (by omega)
  have HB := Lib.hid hb; clear hb
  have c0 : w.cell? ⟨g, 0, none⟩ = some (.int .i64 t) := by rw [HB.out.cell]; rfl
  go_enter Try.func13, Try.ntmps13
  go_wp2_with fail
  refine (at_any g 64 _ t k n now _ HB.out rfl rfl rfl ht ht2 hn hn2).mono ?_
  rintro e w1 ⟨rfl, hg, hb1⟩
  simp only [List.setIfInBounds_toArray, List.set_cons_succ, List.set_cons_zero] at hb1
  have d2 := hb1.cell 2
  have d3 := hb1.cell 3
  have d4 := hb1.cell 4
  have d0 := hb1.cell 0
  have f2 := hb1.frozen 2
  simp at d0 d2 d3 d4
  have HG := Lib.hid hg
  have HB1 := Lib.hid hb1
  clear hg hb1 c0
  generalize hqe : kn t k n now = q at *
  generalize hke : now / t = k' at *
  have HQ := Lib.hid hqe
  have HK := Lib.hid hke
  clear hqe hke
  go_wp2_with fail
  go_quiet (fail)
  have hm : (if L - q < S then L - q else S) = min S (L - q) := by split <;> omega
  rw [hm]
  clear hm
  generalize hm : min S (L - q) = m
  have m1 : 0 ≤ m := by omega
  have m2 : m ≤ 1000 := by omega
  have m3 : 0 ≤ q + m := by omega
  have m4 : q + m ≤ 2000 := by omega
  have HM := Lib.hid hm
  clear hm
  go_wp2
  go_ret
  unfold AskPost
  rw [HQ.out, HK.out, HM.out]
  refine ⟨rfl, only_setCell (p := ⟨g, 2, none⟩) (only_drewN HG.out nq) (Or.inl rfl) _, ?_⟩
  have h1 := (HB1.out.drewN nq).set_ 2 (.int .i64 (q + m))
  exact h1

/-- Forget. -/
def ForgetPost (g : Nat) (t L S now : Int) (w : World) (e : Ending) (w' : World) : Prop :=
  e = .returned (.tuple #[]) ∧ w.grownBy w' (some g) ∧ Blk w' g 64 #[.int .i64 t, .int .i64 (now / t), .int .i64 L, .int .i64 L, .int .i64 S]

set_option maxHeartbeats 400000 in
theorem forget_any (g : Nat) (t k n L S now : Int) (w : World) (hb : Blk w g 64 #[.int .i64 t, .int .i64 k, .int .i64 n, .int .i64 L, .int .i64 S])
   (ht : 1 ≤ t) (ht2 : t ≤ 1000) (hn : 0 ≤ now) (hn2 : now ≤ 1000000) :
    Calls Try.prog 14 #[.pointer (some ⟨g, 0, none⟩), .int .i64 now] w (ForgetPost g t L S now w) := by
  have HB := Lib.hid hb; clear hb
  have c0 : w.cell? ⟨g, 0, none⟩ = some (.int .i64 t) := by rw [HB.out.cell]; rfl
  go_enter Try.func14, Try.ntmps14
  go_wp2_with fail
  refine (at_any g 64 _ t k n now _ HB.out rfl rfl rfl ht ht2 hn hn2).mono ?_
  rintro e w1 ⟨rfl, hg, hb1⟩
  simp only [List.setIfInBounds_toArray, List.set_cons_succ, List.set_cons_zero] at hb1
  have d0 := hb1.cell 0
  have d2 := hb1.cell 2
  have d3 := hb1.cell 3
  have f2 := hb1.frozen 2
  simp at d0 d2 d3
  have HG := Lib.hid hg
  have HB1 := Lib.hid hb1
  clear hg hb1 c0
  go_wp2_with fail
  go_end0
  refine ⟨rfl, only_setCell (p := ⟨g, 2, none⟩) HG.out (Or.inl rfl) _, ?_⟩
  have h1 := HB1.out.set_ 2 (.int .i64 L)
  exact h1

set_option maxHeartbeats 400000 in
theorem error_no (L W S k : Int) (w : World) (hS : 1 ≤ S) (hS2 : S ≤ 1000) (hk : 0 ≤ k) (hk2 : k ≤ 1000) :
    Calls Try.prog 19 #[.agg #[.int .i64 L, .int .i64 W, .int .i64 S], .int .i64 k, .bool false] w fun e w' => e = .returned (.int .i64 (k * (S - 1))) ∧ Below w.heap.size w w' := by
  have h1 : 0 ≤ k * (S - 1) := Int.mul_nonneg hk (by omega)
  have h2 : k * (S - 1) ≤ 1000 * 999 := Int.mul_le_mul hk2 (by omega) (by omega) (by omega)
  go_enter Try.func19, Try.ntmps19
  go_wp2_with fail
  go_ret
  exact ⟨rfl, (Below.refl _ _).alloc (Nat.le_refl _) _⟩

set_option maxHeartbeats 400000 in
theorem error_yes (L W S k : Int) (w : World) :
    Calls Try.prog 19 #[.agg #[.int .i64 L, .int .i64 W, .int .i64 S], .int .i64 k, .bool true] w fun e w' => e = .returned (.int .i64 L) ∧ Below w.heap.size w w' := by
  go_enter Try.func19, Try.ntmps19
  go_wp2_with fail
  go_ret
  exact ⟨rfl, (Below.refl _ _).alloc (Nat.le_refl _) _⟩

set_option maxHeartbeats 400000 in
theorem exact_any (L W S a : Int) (w : World) :
    Calls Try.prog 18 #[.agg #[.int .i64 L, .int .i64 W, .int .i64 S], .int .i64 a] w fun e w' => e = .returned (.int .i64 (min a L)) ∧ Below w.heap.size w w' := by
  have hm : (if L < a then L else a) = min a L := by split <;> omega
  go_enter Try.func18, Try.ntmps18
  go_wp2_with fail
  go_ret
  exact ⟨rfl, (Below.refl _ _).alloc (Nat.le_refl _) _⟩

end Go.Proofs.Ytaibhfcoapelcaa
