/- The document's answer for leases: what its functions compute, each once. -/
import Derived.Test.YtaibhfcoapelcaaRows2
import Derived.StillTailTactics
import Derived.RegionTactic
import Derived.ChangeAlike
import Derived.Deep.RegionHeld3
namespace Go.Proofs.Ytaibhfcoapelcaa
open Go.RowKit

def rin (k K N : Int) : Int := if k = K then N else 0
theorem rin_kn (t K N now : Int) : rin (now / t) K N = kn t K N now := rfl

set_option maxHeartbeats 400000 in
theorem in_any (K N k : Int) (w : World) :
    Calls Try.prog 31 #[.agg #[.int .i64 K, .int .i64 N], .int .i64 k] w fun e w' => e = .returned (.agg #[.int .i64 k, .int .i64 (rin k K N)]) ∧ Below w.heap.size w w' := by
  by_cases h : K = k
  · subst h
    have e : rin K K N = N := by unfold rin; rw [if_pos rfl]
    rw [e]
    clear e
    go_enter Try.func31, Try.ntmps31
    go_wp2_with fail
    refine bodyPost_ret (v := .agg #[.int .i64 K, .int .i64 N]) (by simp [results, Try.results31, go_sem]) rfl ⟨rfl, ?_⟩
    exact ((Below.refl _ _).alloc (Nat.le_refl _) _).alloc (by simp) _
  · have e : rin k K N = 0 := by unfold rin; rw [if_neg (fun h2 => h h2.symm)]
    have hb : (K != k) = true := by simp [h]
    rw [e]
    clear e h
    go_enter Try.func31, Try.ntmps31
    go_wp2_with fail
    refine bodyPost_ret (v := .agg #[.int .i64 k, .int .i64 0]) (by simp [results, Try.results31, go_sem]) rfl ⟨rfl, ?_⟩
    exact ((Below.refl _ _).alloc (Nat.le_refl _) _).alloc (by simp) _

set_option maxHeartbeats 400000 in
theorem rforget_any (L W S now : Int) (w : World) (ht : 1 ≤ W) (ht2 : W ≤ 1000) (hn : 0 ≤ now) (hn2 : now ≤ 1000000) :
    Calls Try.prog 22 #[.agg #[.int .i64 L, .int .i64 W, .int .i64 S], .int .i64 now] w fun e w' => e = .returned (.agg #[.int .i64 (now / W), .int .i64 L]) ∧ Below w.heap.size w w' := by
  go_enter Try.func22, Try.ntmps22
  go_wp2_with fail
  go_region
  go_wp2_with fail
  refine bodyPost_ret (v := .agg #[.int .i64 (now / W), .int .i64 L]) (by simp [results, Try.results22, go_sem]) rfl ⟨rfl, ?_⟩
  exact (((Below.refl _ _).alloc (Nat.le_refl _) _).alloc (by simp) _).drew

def RUse (W K N now : Int) (w : World) (e : Ending) (w' : World) : Prop :=
  e = .returned (.tuple #[.agg #[.int .i64 (now / W), .int .i64 (if 1 ≤ kn W K N now then kn W K N now - 1 else kn W K N now)], .bool (decide (1 ≤ kn W K N now))]) ∧ Below w.heap.size w w'
def RAsk (W L S K N now : Int) (w : World) (e : Ending) (w' : World) : Prop :=
  e = .returned (.tuple #[.agg #[.int .i64 (now / W), .int .i64 (kn W K N now + min S (L - kn W K N now))], .int .i64 (min S (L - kn W K N now))]) ∧ Below w.heap.size w w'
def RGive (W K N now m : Int) (w : World) (e : Ending) (w' : World) : Prop :=
  e = .returned (.agg #[.int .i64 (now / W), .int .i64 (kn W K N now + m)]) ∧ Below w.heap.size w w'

set_option maxHeartbeats 800000 in
theorem ruse_any (L W S K N now : Int) (w : World) (ht : 1 ≤ W) (ht2 : W ≤ 1000) (hn : 0 ≤ now) (hn2 : now ≤ 1000000) (hN : 0 ≤ N) (hN2 : N ≤ 1000000) :
    Calls Try.prog 23 #[.agg #[.int .i64 L, .int .i64 W, .int .i64 S], .agg #[.int .i64 K, .int .i64 N], .int .i64 now] w (RUse W K N now w) := by
  go_enter Try.func23, Try.ntmps23
  go_wp2_with fail
  have br := ((Blk.new w 23 #[.int .i64 L, .int .i64 W, .int .i64 S]).alloc (.cells #[.int .i64 K, .int .i64 N] 41)).alloc (.cells #[.int .i64 0, .int .i64 0] 41)
  have bx := (Blk.new (w.alloc (.cells #[.int .i64 L, .int .i64 W, .int .i64 S] 23)) 41 #[.int .i64 K, .int .i64 N]).alloc (.cells #[.int .i64 0, .int .i64 0] 41)
  have bo := Blk.new ((w.alloc (.cells #[.int .i64 L, .int .i64 W, .int .i64 S] 23)).alloc (.cells #[.int .i64 K, .int .i64 N] 41)) 41 #[.int .i64 0, .int .i64 0]
  have bel : Below w.heap.size w (((w.alloc (.cells #[.int .i64 L, .int .i64 W, .int .i64 S] 23)).alloc (.cells #[.int .i64 K, .int .i64 N] 41)).alloc (.cells #[.int .i64 0, .int .i64 0] 41)) := below_alloc (below_alloc (below_alloc (Below.refl _ _) _) _) _
  rw [World.size_alloc] at bx
  rw [World.size_alloc, World.size_alloc] at bo
  generalize ((w.alloc (.cells #[.int .i64 L, .int .i64 W, .int .i64 S] 23)).alloc (.cells #[.int .i64 K, .int .i64 N] 41)).alloc (.cells #[.int .i64 0, .int .i64 0] 41) = W3 at *
  have hxo : w.heap.size + 1 ≠ w.heap.size + 1 + 1 := by omega
  have hor : w.heap.size + 1 + 1 ≠ w.heap.size := by omega
  have hxr : w.heap.size + 1 ≠ w.heap.size := by omega
  have F1 : Hid (w.heap.size ≤ w.heap.size + 1) := by show w.heap.size ≤ w.heap.size + 1; omega
  have F2 : Hid (w.heap.size ≤ w.heap.size + 1 + 1) := by show w.heap.size ≤ w.heap.size + 1 + 1; omega
  generalize w.heap.size + 1 + 1 = bO at *
  generalize w.heap.size + 1 = bX at *
  have HB : Hid (w.heap.size ≤ w.heap.size) := Nat.le_refl _
  generalize hbR : w.heap.size = bR at br hxr hor ⊢
  have HBR := Lib.hid hbR
  clear hbR
  have c1 := br.cell 1
  have d0 := bx.cell 0
  have d1 := bx.cell 1
  simp only [List.getElem?_toArray, List.getElem?_cons_zero, List.getElem?_cons_succ] at c1 d0 d1
  have BR := Lib.hid br.drew
  have BX := Lib.hid bx.drew
  have BO := Lib.hid bo.drew
  have BEL := Lib.hid bel.drew
  clear br bx bo bel
  have hz : ¬ W = 0 := by omega
  have q0 : 0 ≤ now / W := Int.ediv_nonneg hn (by omega)
  have q1 : now / W ≤ now := Int.ediv_le_self _ hn
  have e2 : now.tdiv W = now / W := Int.tdiv_eq_ediv_of_nonneg hn
  have e3 : IntKind.i64.wrap (now / W) = now / W := IntWalk.i64_in _ (by omega)
  go_still_tail 5, (by kernel_rfl)
  change wpList _ _ _ _ _ W3.drew
  clear c1 d0 d1 hz e2 e3
  generalize W3.drew = W4 at *
  go_wp2_with fail
  refine (in_any K N (now / W) _).mono ?_
  rintro e w5 ⟨rfl, l5⟩
  rw [rin_kn]
  have c := (BR.out.below l5 BR.out.lt)
  have c0 := c.cell 0
  have c1 := c.cell 1
  have c2 := c.cell 2
  simp only [List.getElem?_toArray, List.getElem?_cons_zero, List.getElem?_cons_succ] at c0 c1 c2
  have bx := BX.out.below l5 BX.out.lt
  have bo := BO.out.below l5 BO.out.lt
  have d0 := bx.cell 0
  have d1 := bx.cell 1
  have g0 := bo.cell 0
  have g1 := bo.cell 1
  have fx0 := bx.frozen 0
  have fx1 := bx.frozen 1
  have fo0 := bo.frozen 0
  have fo1 := bo.frozen 1
  simp only [List.getElem?_toArray, List.getElem?_cons_zero, List.getElem?_cons_succ] at d0 d1 g0 g1
  have B5 := Lib.hid (below_next BEL.out l5)
  obtain ⟨r1, r2⟩ := kn_range W K N now 1000000 hN hN2 (by omega)
  generalize hq : kn W K N now = q at *
  have HQ := Lib.hid hq
  generalize hk : now / W = k at *
  have HK := Lib.hid hk
  clear l5 c hq hk BR BX BO BEL
  have bx6 := (bx.set_ 0 (.int .i64 k)).set_ 1 (.int .i64 q)
  simp only [List.setIfInBounds_toArray, List.set_cons_succ, List.set_cons_zero] at bx6
  have bx7 := bx6.set_ 1 (.int .i64 (q - 1))
  simp only [List.setIfInBounds_toArray, List.set_cons_succ, List.set_cons_zero] at bx7
  have x60 := bx6.cell 0
  have x61 := bx6.cell 1
  have x70 := bx7.cell 0
  have x71 := bx7.cell 1
  simp only [List.getElem?_toArray, List.getElem?_cons_zero, List.getElem?_cons_succ] at x60 x61 x70 x71
  clear bx bo bx6 bx7
  by_cases h1 : 1 ≤ q
  · have h1' : ¬ q < 1 := by omega
    go_wp2_with fail
    refine bodyPost_ret (v := .tuple #[.agg #[.int .i64 k, .int .i64 (q - 1)], .bool true]) (by simp [results, Try.results23, go_sem, *]) rfl ?_
    have h2 : decide (1 ≤ q) = true := by simpa using h1
    unfold RUse
    rw [HQ.out, HK.out, if_pos h1, h2]
    exact ⟨rfl, ((((B5.out.setCell F1.out _).setCell F1.out _).setCell F1.out _).setCell F2.out _).setCell F2.out _⟩
  · have h1' : q < 1 := by omega
    go_wp2_with fail
    refine bodyPost_ret (v := .tuple #[.agg #[.int .i64 k, .int .i64 q], .bool false]) (by simp [results, Try.results23, go_sem, *]) rfl ?_
    have h3 : ¬ 1 ≤ q := by omega
    have h2 : decide (1 ≤ q) = false := by simpa using h3
    unfold RUse
    rw [HQ.out, HK.out, if_neg h3, h2]
    exact ⟨rfl, (((B5.out.setCell F1.out _).setCell F1.out _).setCell F2.out _).setCell F2.out _⟩

set_option maxHeartbeats 800000 in
theorem rask_any (L W S K N now : Int) (w : World) (ht : 1 ≤ W) (ht2 : W ≤ 1000) (hn : 0 ≤ now) (hn2 : now ≤ 1000000) (hN : 0 ≤ N) (hN2 : N ≤ L) (hL : 1 ≤ L) (hL2 : L ≤ 1000) (hS : 1 ≤ S) (hS2 : S ≤ 1000) :
    Calls Try.prog 25 #[.agg #[.int .i64 L, .int .i64 W, .int .i64 S], .agg #[.int .i64 K, .int .i64 N], .int .i64 now] w (RAsk W L S K N now w) := by
  go_enter Try.func25, Try.ntmps25
  go_wp2_with fail
  have br := ((Blk.new w 23 #[.int .i64 L, .int .i64 W, .int .i64 S]).alloc (.cells #[.int .i64 K, .int .i64 N] 41)).alloc (.cells #[.int .i64 0, .int .i64 0] 41)
  have bx := (Blk.new (w.alloc (.cells #[.int .i64 L, .int .i64 W, .int .i64 S] 23)) 41 #[.int .i64 K, .int .i64 N]).alloc (.cells #[.int .i64 0, .int .i64 0] 41)
  have bo := Blk.new ((w.alloc (.cells #[.int .i64 L, .int .i64 W, .int .i64 S] 23)).alloc (.cells #[.int .i64 K, .int .i64 N] 41)) 41 #[.int .i64 0, .int .i64 0]
  have bel : Below w.heap.size w (((w.alloc (.cells #[.int .i64 L, .int .i64 W, .int .i64 S] 23)).alloc (.cells #[.int .i64 K, .int .i64 N] 41)).alloc (.cells #[.int .i64 0, .int .i64 0] 41)) := below_alloc (below_alloc (below_alloc (Below.refl _ _) _) _) _
  rw [World.size_alloc] at bx
  rw [World.size_alloc, World.size_alloc] at bo
  generalize ((w.alloc (.cells #[.int .i64 L, .int .i64 W, .int .i64 S] 23)).alloc (.cells #[.int .i64 K, .int .i64 N] 41)).alloc (.cells #[.int .i64 0, .int .i64 0] 41) = W3 at *
  have hxo : w.heap.size + 1 ≠ w.heap.size + 1 + 1 := by omega
  have hor : w.heap.size + 1 + 1 ≠ w.heap.size := by omega
  have hxr : w.heap.size + 1 ≠ w.heap.size := by omega
  have F1 : Hid (w.heap.size ≤ w.heap.size + 1) := by show w.heap.size ≤ w.heap.size + 1; omega
  have F2 : Hid (w.heap.size ≤ w.heap.size + 1 + 1) := by show w.heap.size ≤ w.heap.size + 1 + 1; omega
  generalize w.heap.size + 1 + 1 = bO at *
  generalize w.heap.size + 1 = bX at *
  have HB : Hid (w.heap.size ≤ w.heap.size) := Nat.le_refl _
  generalize hbR : w.heap.size = bR at br hxr hor ⊢
  have HBR := Lib.hid hbR
  clear hbR
  have c1 := br.cell 1
  have d0 := bx.cell 0
  have d1 := bx.cell 1
  simp only [List.getElem?_toArray, List.getElem?_cons_zero, List.getElem?_cons_succ] at c1 d0 d1
  have BR := Lib.hid br.drew
  have BX := Lib.hid bx.drew
  have BO := Lib.hid bo.drew
  have BEL := Lib.hid bel.drew
  clear br bx bo bel
  have hz : ¬ W = 0 := by omega
  have q0 : 0 ≤ now / W := Int.ediv_nonneg hn (by omega)
  have q1 : now / W ≤ now := Int.ediv_le_self _ hn
  have e2 : now.tdiv W = now / W := Int.tdiv_eq_ediv_of_nonneg hn
  have e3 : IntKind.i64.wrap (now / W) = now / W := IntWalk.i64_in _ (by omega)
  go_still_tail 5, (by kernel_rfl)
  change wpList _ _ _ _ _ W3.drew
  clear c1 d0 d1 hz e2 e3
  generalize W3.drew = W4 at *
  go_wp2_with fail
  refine (in_any K N (now / W) _).mono ?_
  rintro e w5 ⟨rfl, l5⟩
  rw [rin_kn]
  have c := (BR.out.below l5 BR.out.lt)
  have c0 := c.cell 0
  have c1 := c.cell 1
  have c2 := c.cell 2
  simp only [List.getElem?_toArray, List.getElem?_cons_zero, List.getElem?_cons_succ] at c0 c1 c2
  have bx := BX.out.below l5 BX.out.lt
  have bo := BO.out.below l5 BO.out.lt
  have d0 := bx.cell 0
  have d1 := bx.cell 1
  have g0 := bo.cell 0
  have g1 := bo.cell 1
  have fx0 := bx.frozen 0
  have fx1 := bx.frozen 1
  have fo0 := bo.frozen 0
  have fo1 := bo.frozen 1
  simp only [List.getElem?_toArray, List.getElem?_cons_zero, List.getElem?_cons_succ] at d0 d1 g0 g1
  have B5 := Lib.hid (below_next BEL.out l5)
  obtain ⟨r1, r2⟩ := kn_range W K N now L hN hN2 (by omega)
  generalize hq : kn W K N now = q at *
  have HQ := Lib.hid hq
  generalize hk : now / W = k at *
  have HK := Lib.hid hk
  clear l5 c hq hk BR BX BO BEL
  have e1 : (if L - q < S then L - q else S) = min S (L - q) := by split <;> omega
  obtain ⟨m, hm⟩ : ∃ m, m = min S (L - q) := ⟨_, rfl⟩
  have m1 : 0 ≤ m := by omega
  have m2 : m ≤ 1000 := by omega
  rw [← hm] at e1
  have HM := Lib.hid hm
  have bx6 := (bx.set_ 0 (.int .i64 k)).set_ 1 (.int .i64 q)
  simp only [List.setIfInBounds_toArray, List.set_cons_succ, List.set_cons_zero] at bx6
  have bx7 := bx6.set_ 1 (.int .i64 (q + m))
  simp only [List.setIfInBounds_toArray, List.set_cons_succ, List.set_cons_zero] at bx7
  have x60 := bx6.cell 0
  have x61 := bx6.cell 1
  have x70 := bx7.cell 0
  have x71 := bx7.cell 1
  simp only [List.getElem?_toArray, List.getElem?_cons_zero, List.getElem?_cons_succ] at x60 x61 x70 x71
  clear bx bo bx6 bx7 hm
  go_wp2_with fail
  refine bodyPost_ret (v := .tuple #[.agg #[.int .i64 k, .int .i64 (q + m)], .int .i64 m]) (by simp [results, Try.results25, go_sem, *]) rfl ?_
  unfold RAsk
  rw [HQ.out, HK.out, ← HM.out]
  exact ⟨rfl, ((((B5.out.setCell F1.out _).setCell F1.out _).setCell F1.out _).setCell F2.out _).setCell F2.out _⟩

set_option maxHeartbeats 800000 in
theorem rgive_any (L W S K N now m : Int) (w : World) (ht : 1 ≤ W) (ht2 : W ≤ 1000) (hn : 0 ≤ now) (hn2 : now ≤ 1000000) (hN : 0 ≤ N) (hN2 : N ≤ 1000000) (hm : 0 ≤ m) (hm2 : m ≤ 1000000) :
    Calls Try.prog 27 #[.agg #[.int .i64 L, .int .i64 W, .int .i64 S], .agg #[.int .i64 K, .int .i64 N], .int .i64 now, .int .i64 m] w (RGive W K N now m w) := by
  go_enter Try.func27, Try.ntmps27
  go_wp2_with fail
  have br := ((Blk.new w 23 #[.int .i64 L, .int .i64 W, .int .i64 S]).alloc (.cells #[.int .i64 K, .int .i64 N] 41)).alloc (.cells #[.int .i64 0, .int .i64 0] 41)
  have bx := (Blk.new (w.alloc (.cells #[.int .i64 L, .int .i64 W, .int .i64 S] 23)) 41 #[.int .i64 K, .int .i64 N]).alloc (.cells #[.int .i64 0, .int .i64 0] 41)
  have bo := Blk.new ((w.alloc (.cells #[.int .i64 L, .int .i64 W, .int .i64 S] 23)).alloc (.cells #[.int .i64 K, .int .i64 N] 41)) 41 #[.int .i64 0, .int .i64 0]
  have bel : Below w.heap.size w (((w.alloc (.cells #[.int .i64 L, .int .i64 W, .int .i64 S] 23)).alloc (.cells #[.int .i64 K, .int .i64 N] 41)).alloc (.cells #[.int .i64 0, .int .i64 0] 41)) := below_alloc (below_alloc (below_alloc (Below.refl _ _) _) _) _
  rw [World.size_alloc] at bx
  rw [World.size_alloc, World.size_alloc] at bo
  generalize ((w.alloc (.cells #[.int .i64 L, .int .i64 W, .int .i64 S] 23)).alloc (.cells #[.int .i64 K, .int .i64 N] 41)).alloc (.cells #[.int .i64 0, .int .i64 0] 41) = W3 at *
  have hxo : w.heap.size + 1 ≠ w.heap.size + 1 + 1 := by omega
  have hor : w.heap.size + 1 + 1 ≠ w.heap.size := by omega
  have hxr : w.heap.size + 1 ≠ w.heap.size := by omega
  have F1 : Hid (w.heap.size ≤ w.heap.size + 1) := by show w.heap.size ≤ w.heap.size + 1; omega
  have F2 : Hid (w.heap.size ≤ w.heap.size + 1 + 1) := by show w.heap.size ≤ w.heap.size + 1 + 1; omega
  generalize w.heap.size + 1 + 1 = bO at *
  generalize w.heap.size + 1 = bX at *
  have HB : Hid (w.heap.size ≤ w.heap.size) := Nat.le_refl _
  generalize hbR : w.heap.size = bR at br hxr hor ⊢
  have HBR := Lib.hid hbR
  clear hbR
  have c1 := br.cell 1
  have d0 := bx.cell 0
  have d1 := bx.cell 1
  simp only [List.getElem?_toArray, List.getElem?_cons_zero, List.getElem?_cons_succ] at c1 d0 d1
  have BR := Lib.hid br.drew
  have BX := Lib.hid bx.drew
  have BO := Lib.hid bo.drew
  have BEL := Lib.hid bel.drew
  clear br bx bo bel
  have hz : ¬ W = 0 := by omega
  have q0 : 0 ≤ now / W := Int.ediv_nonneg hn (by omega)
  have q1 : now / W ≤ now := Int.ediv_le_self _ hn
  have e2 : now.tdiv W = now / W := Int.tdiv_eq_ediv_of_nonneg hn
  have e3 : IntKind.i64.wrap (now / W) = now / W := IntWalk.i64_in _ (by omega)
  go_still_tail 5, (by kernel_rfl)
  change wpList _ _ _ _ _ W3.drew
  clear c1 d0 d1 hz e2 e3
  generalize W3.drew = W4 at *
  go_wp2_with fail
  refine (in_any K N (now / W) _).mono ?_
  rintro e w5 ⟨rfl, l5⟩
  rw [rin_kn]
  have c := (BR.out.below l5 BR.out.lt)
  have c0 := c.cell 0
  have c1 := c.cell 1
  have c2 := c.cell 2
  simp only [List.getElem?_toArray, List.getElem?_cons_zero, List.getElem?_cons_succ] at c0 c1 c2
  have bx := BX.out.below l5 BX.out.lt
  have bo := BO.out.below l5 BO.out.lt
  have d0 := bx.cell 0
  have d1 := bx.cell 1
  have g0 := bo.cell 0
  have g1 := bo.cell 1
  have fx0 := bx.frozen 0
  have fx1 := bx.frozen 1
  have fo0 := bo.frozen 0
  have fo1 := bo.frozen 1
  simp only [List.getElem?_toArray, List.getElem?_cons_zero, List.getElem?_cons_succ] at d0 d1 g0 g1
  have B5 := Lib.hid (below_next BEL.out l5)
  obtain ⟨r1, r2⟩ := kn_range W K N now 1000000 hN hN2 (by omega)
  generalize hq : kn W K N now = q at *
  have HQ := Lib.hid hq
  generalize hk : now / W = k at *
  have HK := Lib.hid hk
  clear l5 c hq hk BR BX BO BEL
  have bx6 := (bx.set_ 0 (.int .i64 k)).set_ 1 (.int .i64 q)
  simp only [List.setIfInBounds_toArray, List.set_cons_succ, List.set_cons_zero] at bx6
  have bx7 := bx6.set_ 1 (.int .i64 (q + m))
  simp only [List.setIfInBounds_toArray, List.set_cons_succ, List.set_cons_zero] at bx7
  have x60 := bx6.cell 0
  have x61 := bx6.cell 1
  have x70 := bx7.cell 0
  have x71 := bx7.cell 1
  simp only [List.getElem?_toArray, List.getElem?_cons_zero, List.getElem?_cons_succ] at x60 x61 x70 x71
  clear bx bo bx6 bx7
  go_wp2_with fail
  refine bodyPost_ret (v := .agg #[.int .i64 k, .int .i64 (q + m)]) (by simp [results, Try.results27, go_sem, *]) rfl ?_
  unfold RGive
  rw [HQ.out, HK.out]
  exact ⟨rfl, ((((B5.out.setCell F1.out _).setCell F1.out _).setCell F1.out _).setCell F2.out _).setCell F2.out _⟩

end Go.Proofs.Ytaibhfcoapelcaa
