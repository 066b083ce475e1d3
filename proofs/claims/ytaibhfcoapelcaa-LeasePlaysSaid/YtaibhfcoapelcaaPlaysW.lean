/- LeasePlays's walk: what is leased, and admitted, is the document's. No conditions. -/
import Derived.Test.YtaibhfcoapelcaaPlaysRef
import Derived.Test.YtaibhfcoapelcaaNeverW
namespace Go.Proofs.Ytaibhfcoapelcaa
open Go.RowKit

/-- The machine of LeasePlays in memory: a rate, a limiter, a client, the document's two, and the acts. -/
structure PlMid (w0 w : World) (rb gl gc ba bb : Nat) (L W S : Int) (lim cl a b : Int × Int) (A : Option Addr) (c : Nat) (l : List Ac) : Prop where
  r : Blk w rb 23 #[.int .i64 L, .int .i64 W, .int .i64 S]
  lim : Blk w gl 64 #[.int .i64 W, .int .i64 lim.1, .int .i64 lim.2, .int .i64 L, .int .i64 S]
  cl : Blk w gc 67 #[.int .i64 W, .int .i64 cl.1, .int .i64 cl.2]
  a : Blk w ba 41 #[.int .i64 a.1, .int .i64 a.2]
  b : Blk w bb 41 #[.int .i64 b.1, .int .i64 b.2]
  ne : ba ≠ bb
  from_ : w0.heap.size ≤ rb ∧ w0.heap.size ≤ gl ∧ w0.heap.size ≤ gc ∧ w0.heap.size ≤ ba ∧ w0.heap.size ≤ bb
  own : w.ownsRow w0.heap.size 45 3 (.slice A l.length c) l.length (l.flatMap acCells)
  bel : Below w0.heap.size w0 w

section
variable {w0 w w' : World} {rb gl gc ba bb : Nat} {L W S : Int} {lim cl a b : Int × Int} {A : Option Addr} {c : Nat} {l : List Ac}
theorem PlMid.below (h : PlMid w0 w rb gl gc ba bb L W S lim cl a b A c l) (hb : Below w.heap.size w w') : PlMid w0 w' rb gl gc ba bb L W S lim cl a b A c l :=
  ⟨h.r.below hb h.r.lt, h.lim.below hb h.lim.lt, h.cl.below hb h.cl.lt, h.a.below hb h.a.lt, h.b.below hb h.b.lt, h.ne, h.from_, own_below h.own hb, below_next h.bel hb⟩
theorem PlMid.toLim (h : PlMid w0 w rb gl gc ba bb L W S lim cl a b A c l) {k n : Int} (hg : w.grownBy w' (some gl)) (hn : Blk w' gl 64 #[.int .i64 W, .int .i64 k, .int .i64 n, .int .i64 L, .int .i64 S]) :
    PlMid w0 w' rb gl gc ba bb L W S (k, n) cl a b A c l :=
  ⟨h.r.grown hg (by simpa using h.r.ne_ h.lim (by decide)), hn, h.cl.grown hg (by simpa using h.cl.ne_ h.lim (by decide)), h.a.grown hg (by simpa using h.a.ne_ h.lim (by decide)), h.b.grown hg (by simpa using h.b.ne_ h.lim (by decide)), h.ne, h.from_,
    own_chg (F := fun i => i = gl) h.own (Chg.of_grown hg rfl) (fun g hg2 e => own_blk_ne h.own h.lim (by decide) (e ▸ hg2)), below_step h.bel hg h.from_.2.1⟩
theorem PlMid.toCl (h : PlMid w0 w rb gl gc ba bb L W S lim cl a b A c l) {k n : Int} (hg : w.grownBy w' (some gc)) (hn : Blk w' gc 67 #[.int .i64 W, .int .i64 k, .int .i64 n]) :
    PlMid w0 w' rb gl gc ba bb L W S lim (k, n) a b A c l :=
  ⟨h.r.grown hg (by simpa using h.r.ne_ h.cl (by decide)), h.lim.grown hg (by simpa using h.lim.ne_ h.cl (by decide)), hn, h.a.grown hg (by simpa using h.a.ne_ h.cl (by decide)), h.b.grown hg (by simpa using h.b.ne_ h.cl (by decide)), h.ne, h.from_,
    own_chg (F := fun i => i = gc) h.own (Chg.of_grown hg rfl) (fun g hg2 e => own_blk_ne h.own h.cl (by decide) (e ▸ hg2)), below_step h.bel hg h.from_.2.2.1⟩
theorem PlMid.toA (h : PlMid w0 w rb gl gc ba bb L W S lim cl a b A c l) (k n : Int) : PlMid w0 ((w.setCell ⟨ba, 0, none⟩ (.int .i64 k)).setCell ⟨ba, 1, none⟩ (.int .i64 n)) rb gl gc ba bb L W S lim cl (k, n) b A c l := by
  have hg : w.grownBy ((w.setCell ⟨ba, 0, none⟩ (.int .i64 k)).setCell ⟨ba, 1, none⟩ (.int .i64 n)) (some ba) := only_setCell (p := ⟨ba, 1, none⟩) (only_setCell (p := ⟨ba, 0, none⟩) (World.grownBy.refl w (some ba)) (Or.inl rfl) _) (Or.inl rfl) _
  have hn := (h.a.set_ 0 (.int .i64 k)).set_ 1 (.int .i64 n)
  simp only [List.setIfInBounds_toArray, List.set_cons_succ, List.set_cons_zero] at hn
  exact ⟨h.r.grown hg (by simpa using h.r.ne_ h.a (by decide)), h.lim.grown hg (by simpa using h.lim.ne_ h.a (by decide)), h.cl.grown hg (by simpa using h.cl.ne_ h.a (by decide)), hn, h.b.grown hg (by simpa using Ne.symm h.ne), h.ne, h.from_,
    own_chg (F := fun i => i = ba) h.own (Chg.of_grown hg rfl) (fun g hg2 e => own_blk_ne h.own h.a (by decide) (e ▸ hg2)), below_step h.bel hg h.from_.2.2.2.1⟩
theorem PlMid.toB (h : PlMid w0 w rb gl gc ba bb L W S lim cl a b A c l) (k n : Int) : PlMid w0 ((w.setCell ⟨bb, 0, none⟩ (.int .i64 k)).setCell ⟨bb, 1, none⟩ (.int .i64 n)) rb gl gc ba bb L W S lim cl a (k, n) A c l := by
  have hg : w.grownBy ((w.setCell ⟨bb, 0, none⟩ (.int .i64 k)).setCell ⟨bb, 1, none⟩ (.int .i64 n)) (some bb) := only_setCell (p := ⟨bb, 1, none⟩) (only_setCell (p := ⟨bb, 0, none⟩) (World.grownBy.refl w (some bb)) (Or.inl rfl) _) (Or.inl rfl) _
  have hn := (h.b.set_ 0 (.int .i64 k)).set_ 1 (.int .i64 n)
  simp only [List.setIfInBounds_toArray, List.set_cons_succ, List.set_cons_zero] at hn
  exact ⟨h.r.grown hg (by simpa using h.r.ne_ h.b (by decide)), h.lim.grown hg (by simpa using h.lim.ne_ h.b (by decide)), h.cl.grown hg (by simpa using h.cl.ne_ h.b (by decide)), h.a.grown hg (by simpa using h.ne), hn, h.ne, h.from_,
    own_chg (F := fun i => i = bb) h.own (Chg.of_grown hg rfl) (fun g hg2 e => own_blk_ne h.own h.b (by decide) (e ▸ hg2)), below_step h.bel hg h.from_.2.2.2.2⟩
theorem PlMid.alloc (h : PlMid w0 w rb gl gc ba bb L W S lim cl a b A c l) (o : Obj) : PlMid w0 (w.alloc o) rb gl gc ba bb L W S lim cl a b A c l := h.below (below_alloc (Below.refl _ _) o)
/-- What the walk wants to know. -/
theorem PlMid.cells (h : PlMid w0 w rb gl gc ba bb L W S lim cl a b A c l) :
    (w.cell? ⟨rb, 0, none⟩ = some (.int .i64 L) ∧ w.cell? ⟨rb, 1, none⟩ = some (.int .i64 W) ∧ w.cell? ⟨rb, 2, none⟩ = some (.int .i64 S)) ∧
    (w.cell? ⟨ba, 0, none⟩ = some (.int .i64 a.1) ∧ w.cell? ⟨ba, 1, none⟩ = some (.int .i64 a.2) ∧ w.frozen? ⟨ba, 0, none⟩ = false ∧ w.frozen? ⟨ba, 1, none⟩ = false) ∧
    (w.cell? ⟨bb, 0, none⟩ = some (.int .i64 b.1) ∧ w.cell? ⟨bb, 1, none⟩ = some (.int .i64 b.2) ∧ w.frozen? ⟨bb, 0, none⟩ = false ∧ w.frozen? ⟨bb, 1, none⟩ = false) :=
  ⟨⟨h.r.cell 0, h.r.cell 1, h.r.cell 2⟩, ⟨h.a.cell 0, h.a.cell 1, h.a.frozen 0, h.a.frozen 1⟩, ⟨h.b.cell 0, h.b.cell 1, h.b.frozen 0, h.b.frozen 1⟩⟩
end

theorem own_base {w : World} {base base' e size n : Nat} {v : Value} {xs : List Value} (h : w.ownsRow base e size v n xs) (hb : base' ≤ base) : w.ownsRow base' e size v n xs := by
  refine ⟨h.1, ?_⟩
  rcases h.2 with h2 | ⟨g, cap, cur, hv, h3, h4⟩
  · exact .inl h2
  · exact .inr ⟨g, cap, cur, hv, by omega, h4⟩

theorem ruse_is (L W S K N now nb : Int) (bv : Bool) (w : World) (h1 : (if 1 ≤ kn W K N now then kn W K N now - 1 else kn W K N now) = nb) (h2 : decide (1 ≤ kn W K N now) = bv) (ht : 1 ≤ W) (ht2 : W ≤ 1000) (hn : 0 ≤ now) (hn2 : now ≤ 1000000) (hN : 0 ≤ N) (hN2 : N ≤ 1000000) :
    Calls Try.prog 23 #[.agg #[.int .i64 L, .int .i64 W, .int .i64 S], .agg #[.int .i64 K, .int .i64 N], .int .i64 now] w fun e w' => e = .returned (.tuple #[.agg #[.int .i64 (now / W), .int .i64 nb], .bool bv]) ∧ Below w.heap.size w w' := by
  have h := ruse_any L W S K N now w ht ht2 hn hn2 hN hN2
  unfold RUse at h
  rwa [h1, h2] at h
theorem use_is (g : Nat) (t k n now nb : Int) (bv : Bool) (w : World) (h1 : (if 1 ≤ kn t k n now then kn t k n now - 1 else kn t k n now) = nb) (h2 : decide (1 ≤ kn t k n now) = bv) (hb : Blk w g 67 #[.int .i64 t, .int .i64 k, .int .i64 n])
   (ht : 1 ≤ t) (ht2 : t ≤ 1000) (hn : 0 ≤ now) (hn2 : now ≤ 1000000) (hq : 0 ≤ n) (hq2 : n ≤ 1000000) :
    Calls Try.prog 24 #[.pointer (some ⟨g, 0, none⟩), .int .i64 now] w fun e w' => e = .returned (.bool bv) ∧ w.grownBy w' (some g) ∧ Blk w' g 67 #[.int .i64 t, .int .i64 (now / t), .int .i64 nb] := by
  have h := use_any g t k n now w hb ht ht2 hn hn2 hq hq2
  unfold UsePost at h
  rwa [h1, h2] at h
theorem rask_is (L W S K N now m q : Int) (w : World) (h1 : min S (L - kn W K N now) = m) (h2 : kn W K N now + m = q) (ht : 1 ≤ W) (ht2 : W ≤ 1000) (hn : 0 ≤ now) (hn2 : now ≤ 1000000) (hN : 0 ≤ N) (hN2 : N ≤ L) (hL : 1 ≤ L) (hL2 : L ≤ 1000) (hS : 1 ≤ S) (hS2 : S ≤ 1000) :
    Calls Try.prog 25 #[.agg #[.int .i64 L, .int .i64 W, .int .i64 S], .agg #[.int .i64 K, .int .i64 N], .int .i64 now] w fun e w' => e = .returned (.tuple #[.agg #[.int .i64 (now / W), .int .i64 q], .int .i64 m]) ∧ Below w.heap.size w w' := by
  have h := rask_any L W S K N now w ht ht2 hn hn2 hN hN2 hL hL2 hS hS2
  unfold RAsk at h
  rwa [h1, h2] at h
theorem ask_at (g : Nat) (t k n L S now m q : Int) (w : World) (e1 : min S (L - kn t k n now) = m) (e2 : kn t k n now + m = q) (hb : Blk w g 64 #[.int .i64 t, .int .i64 k, .int .i64 n, .int .i64 L, .int .i64 S])
   (ht : 1 ≤ t) (ht2 : t ≤ 1000) (hn : 0 ≤ now) (hn2 : now ≤ 1000000) (hL : 1 ≤ L) (hL2 : L ≤ 1000) (hS : 1 ≤ S) (hS2 : S ≤ 1000) (hq : 0 ≤ n) (hq2 : n ≤ L) :
    Calls Try.prog 13 #[.pointer (some ⟨g, 0, none⟩), .int .i64 now] w fun e w' => e = .returned (.int .i64 m) ∧ w.grownBy w' (some g) ∧ Blk w' g 64 #[.int .i64 t, .int .i64 (now / t), .int .i64 q, .int .i64 L, .int .i64 S] := by
  have h := ask_any g t k n L S now w hb ht ht2 hn hn2 hL hL2 hS hS2 hq hq2
  unfold AskPost at h
  rwa [e1, e2] at h
theorem give_at (g : Nat) (t n now m : Int) (w : World) (hb : Blk w g 67 #[.int .i64 t, .int .i64 (now / t), .int .i64 n])
   (ht : 1 ≤ t) (ht2 : t ≤ 1000) (hn : 0 ≤ now) (hn2 : now ≤ 1000000) (hq : 0 ≤ n) (hq2 : n ≤ 1000000) (hm : 0 ≤ m) (hm2 : m ≤ 1000000) :
    Calls Try.prog 26 #[.pointer (some ⟨g, 0, none⟩), .int .i64 now, .int .i64 m] w fun e w' => e = .returned (.tuple #[]) ∧ w.grownBy w' (some g) ∧ Blk w' g 67 #[.int .i64 t, .int .i64 (now / t), .int .i64 (n + m)] := by
  have h := give_any g t (now / t) n now m w hb ht ht2 hn hn2 hq hq2 hm hm2
  unfold GivePost at h
  rwa [kn_same] at h
theorem rgive_at (L W S N now m : Int) (w : World) (ht : 1 ≤ W) (ht2 : W ≤ 1000) (hn : 0 ≤ now) (hn2 : now ≤ 1000000) (hN : 0 ≤ N) (hN2 : N ≤ 1000000) (hm : 0 ≤ m) (hm2 : m ≤ 1000000) :
    Calls Try.prog 27 #[.agg #[.int .i64 L, .int .i64 W, .int .i64 S], .agg #[.int .i64 (now / W), .int .i64 N], .int .i64 now, .int .i64 m] w fun e w' => e = .returned (.agg #[.int .i64 (now / W), .int .i64 (N + m)]) ∧ Below w.heap.size w w' := by
  have h := rgive_any L W S (now / W) N now m w ht ht2 hn hn2 hN hN2 hm hm2
  unfold RGive at h
  rwa [kn_same] at h

def PlRel (w0 : World) (rb gl gc ba bb : Nat) (L W S : Int) (A : Option Addr) (c : Nat) (l : List Ac) (i : Value) (wr : World) : Prop :=
  ∃ (j : Nat) (lk ln kc nc : Int), j ≤ l.length ∧ i = .int .i64 j ∧ 0 ≤ ln ∧ ln ≤ L ∧ 0 ≤ nc ∧ nc ≤ 14 * (j : Int) ∧ PlMid w0 wr rb gl gc ba bb L W S (lk, ln) (kc, nc) (lk, ln) (kc, nc) A c l

set_option maxRecDepth 100000 in
set_option maxHeartbeats 8000000 in
theorem plays_walk (n : Int) (a : Option Addr) (len cap : Nat) (zs : List Int) (a2 : Option Addr) (len2 cap2 : Nat) (zs2 : List Int) (w : World) (h1 : -9223372036854775808 ≤ n) (h2 : n ≤ 9223372036854775807) (hr : IsRow w a len cap zs) (hr2 : IsRow w a2 len2 cap2 zs2) :
    Calls Try.prog 5 #[.int .i64 n, .slice a len cap, .slice a2 len2 cap2] w fun e w' => e = .returned (.bool true) ∧ Below w.heap.size w w' := by
  have HR := Lib.hid hr
  have HR2 := Lib.hid hr2
  have hlen2 := hr2.len
  clear hr hr2
  go_enter Try.func5, Try.ntmps5
  go_wp2_with fail
  refine (rate_any n _ h1 h2).mono ?_
  rintro e w1 ⟨L, W, S, hL1, hL2, hW1, hW2, hS1, hS2, rfl, l1⟩
  have L1 := Lib.hid l1
  clear l1 h1 h2
  have R1 := Lib.hid (Blk.new w1 23 #[.int .i64 L, .int .i64 W, .int .i64 S])
  have L2 := Lib.hid (below_alloc L1.out (.cells #[.int .i64 L, .int .i64 W, .int .i64 S] 23))
  have HRB : Hid (w.heap.size ≤ w1.heap.size) := L1.out.size
  go_wp2_with fail
  generalize w1.alloc (.cells #[.int .i64 L, .int .i64 W, .int .i64 S] 23) = W1 at *
  generalize w1.heap.size = rb at *
  refine (limiter_new L W S _).mono ?_
  rintro e w2 ⟨gl, hgl, rfl, b1, l2⟩
  have HGL : Hid (w.heap.size ≤ gl) := Nat.le_trans L2.out.size hgl
  have R2 := R1.out.below l2 R1.out.lt
  have c0 := R2.cell 0
  have c1 := R2.cell 1
  have c2 := R2.cell 2
  simp only [List.getElem?_toArray, List.getElem?_cons_zero, List.getElem?_cons_succ] at c0 c1 c2
  have RB := Lib.hid R2
  have LIM := Lib.hid b1
  have L3 := Lib.hid (below_next L2.out l2)
  clear R1 R2 L1 L2 hgl b1 l2
  go_wp2_with fail
  refine (client_new L W S _).mono ?_
  rintro e w3 ⟨gc, hgc, rfl, b2, l3⟩
  have HGC : Hid (w.heap.size ≤ gc) := Nat.le_trans L3.out.size hgc
  have RC := Lib.hid (RB.out.below l3 RB.out.lt)
  have LIM3 := Lib.hid (LIM.out.below l3 LIM.out.lt)
  have CL3 := Lib.hid b2
  have L4 := Lib.hid (below_next L3.out l3)
  clear RB LIM L3 hgc b2 l3 c0 c1 c2
  go_wp2_with fail
  have BA := Lib.hid ((Blk.new w3 41 #[.int .i64 0, .int .i64 0]).alloc (.cells #[.int .i64 0, .int .i64 0] 41))
  have bb0 := Blk.new (w3.alloc (.cells #[.int .i64 0, .int .i64 0] 41)) 41 #[.int .i64 0, .int .i64 0]
  rw [World.size_alloc] at bb0
  have BB := Lib.hid bb0
  have L5 := Lib.hid (below_alloc (below_alloc L4.out (.cells #[.int .i64 0, .int .i64 0] 41)) (.cells #[.int .i64 0, .int .i64 0] 41))
  have LIM5 := Lib.hid ((LIM3.out.alloc (.cells #[.int .i64 0, .int .i64 0] 41)).alloc (.cells #[.int .i64 0, .int .i64 0] 41))
  have CL5 := Lib.hid ((CL3.out.alloc (.cells #[.int .i64 0, .int .i64 0] 41)).alloc (.cells #[.int .i64 0, .int .i64 0] 41))
  have R5 := Lib.hid ((RC.out.alloc (.cells #[.int .i64 0, .int .i64 0] 41)).alloc (.cells #[.int .i64 0, .int .i64 0] 41))
  have HAB : Hid (w3.heap.size ≠ w3.heap.size + 1) := by show w3.heap.size ≠ w3.heap.size + 1; omega
  have HBA : Hid (w.heap.size ≤ w3.heap.size) := L4.out.size
  have HBB : Hid (w.heap.size ≤ w3.heap.size + 1) := Nat.le_trans L4.out.size (Nat.le_succ _)
  clear bb0 LIM3 CL3 RC L4
  generalize (w3.alloc (.cells #[.int .i64 0, .int .i64 0] 41)).alloc (.cells #[.int .i64 0, .int .i64 0] 41) = W3 at *
  generalize w3.heap.size + 1 = bb at *
  generalize w3.heap.size = ba at *
  refine (acts_any a len cap zs _ (HR.out.keep L5.out)).mono ?_
  rintro e wa ⟨v, l, rfl, good, own, bel⟩
  obtain ⟨A, c, rfl⟩ := own_form own
  have GOOD := Lib.hid good
  have hfew := good.few
  have IS0 : Hid (PlMid w wa rb gl gc ba bb L W S (0, 0) (0, 0) (0, 0) (0, 0) A c l) :=
    ⟨R5.out.below bel R5.out.lt, LIM5.out.below bel LIM5.out.lt, CL5.out.below bel CL5.out.lt, BA.out.below bel BA.out.lt, BB.out.below bel BB.out.lt, HAB.out,
      ⟨HRB.out, HGL.out, HGC.out, HBA.out, HBB.out⟩, own_base own L5.out.size, below_next L5.out bel⟩
  clear good own bel R5 LIM5 CL5 BA BB HAB HRB HGL HGC HBA HBB L5 HR
  go_wp2_with fail
  go_loopw [13] (fun i wr => PlRel w rb gl gc ba bb L W S A c l i wr) (fun i _ => l.length - (intOf i).toNat)
  case atStart => exact ⟨0, 0, 0, 0, 0, Nat.zero_le _, rfl, by omega, by omega, by omega, by omega, IS0.out⟩
  case round =>
    clear IS0
    obtain ⟨j, lk, ln, kc, nc, hj, rfl, hl0, hl1, hc0, hc1, is⟩ := hrel
    have IS := Lib.hid is
    clear is
    by_cases hlt : j < l.length
    · obtain ⟨x, hx⟩ : ∃ x, l[j]? = some x := ⟨_, List.getElem?_eq_getElem hlt⟩
      have hmem := List.mem_of_getElem? hx
      have gx1 := GOOD.out.at0 x hmem
      have gx2 := GOOD.out.at1 x hmem
      obtain ⟨g, off, rfl, _, x0, x1, _⟩ := (RdActs.of_own IS.out.own).2 j x hx
      have nab := IS.out.ne
      have nba := Ne.symm nab
      have nra := IS.out.r.ne_ IS.out.a (by decide)
      have nrb := IS.out.r.ne_ IS.out.b (by decide)
      have nar := Ne.symm nra
      have nbr := Ne.symm nrb
      obtain ⟨⟨r0, r1, r2⟩, ⟨a0, a1, fa0, fa1⟩, ⟨b0, b1, fb0, fb1⟩⟩ := IS.out.cells
      clear hx hmem
      by_cases hdo : x.do_ = 2
      focus
        have hdo2 : (x.do_ == 2) = true := by simpa using hdo
        clear hdo
        go_wp2_with fail
        refine (forget_any gl W _ _ L S x.at_ _ IS.out.lim hW1 (by omega) gx1 (by omega)).mono ?_
        rintro e w5 ⟨rfl, hg, hb⟩
        have IS5 := Lib.hid (IS.out.toLim hg hb)
        clear hg hb r0 r1 r2 a0 a1 fa0 fa1 b0 b1 fb0 fb1 x0 x1
        obtain ⟨⟨r0, r1, r2⟩, ⟨a0, a1, fa0, fa1⟩, ⟨b0, b1, fb0, fb1⟩⟩ := IS5.out.cells
        go_wp2_with fail
        refine (rforget_any L W S x.at_ _ hW1 (by omega) gx1 (by omega)).mono ?_
        rintro e w6 ⟨rfl, l6⟩
        have IS6 := Lib.hid (IS5.out.below l6)
        clear l6 r0 r1 r2 a0 a1 fa0 fa1 b0 b1 fb0 fb1 IS IS5
        obtain ⟨⟨r0, r1, r2⟩, ⟨a0, a1, fa0, fa1⟩, ⟨b0, b1, fb0, fb1⟩⟩ := IS6.out.cells
        go_wp2_with fail
        have IS := Lib.hid (IS6.out.toA (x.at_ / W) L)
        clear r0 r1 r2 a0 a1 fa0 fa1 b0 b1 fb0 fb1 IS6 hl0 hl1 hdo2
        generalize (w6.setCell ⟨ba, 0, none⟩ (.int .i64 (x.at_ / W))).setCell ⟨ba, 1, none⟩ (.int .i64 L) = wr at *
        generalize x.at_ / W = lk at *
        obtain ⟨ln, hln⟩ : ∃ ln, ln = L := ⟨_, rfl⟩
        have hl0 : 0 ≤ ln := by omega
        have hl1 : ln ≤ L := by omega
        have IS : Hid (PlMid w wr rb gl gc ba bb L W S (lk, ln) (kc, nc) (lk, ln) (kc, nc) (some ⟨g, off, none⟩) c l) := by rw [hln]; exact IS
        clear hln
      rotate_left 1
      focus
        have hdo2 : (x.do_ == 2) = false := by simpa using hdo
        clear hdo
        go_wp2_with fail
        clear r0 r1 r2 a0 a1 fa0 fa1 b0 b1 fb0 fb1 hdo2 x0 x1
      all_goals
        obtain ⟨nb, hnb⟩ : ∃ nb, (if 1 ≤ kn W kc nc x.at_ then kn W kc nc x.at_ - 1 else kn W kc nc x.at_) = nb := ⟨_, rfl⟩
        obtain ⟨bv, hbv⟩ : ∃ bv, decide (1 ≤ kn W kc nc x.at_) = bv := ⟨_, rfl⟩
        obtain ⟨mm, hmm⟩ : ∃ mm, min S (L - kn W lk ln x.at_) = mm := ⟨_, rfl⟩
        obtain ⟨qq, hqq⟩ : ∃ qq, kn W lk ln x.at_ + mm = qq := ⟨_, rfl⟩
        have hnb0 : 0 ≤ nb ∧ nb ≤ nc := by
          have := kn_range W kc nc x.at_ nc hc0 (Int.le_refl _) hc0
          split at hnb <;> omega
        obtain ⟨hnb1, hnb2⟩ := hnb0
        have hmq : 0 ≤ mm ∧ mm ≤ S ∧ 0 ≤ qq ∧ qq ≤ L := by
          have := kn_range W lk ln x.at_ L hl0 hl1 (by omega)
          omega
        obtain ⟨hm0, hm1, hq0, hq1⟩ := hmq
        have HNB := Lib.hid hnb
        have HBV := Lib.hid hbv
        have HMM := Lib.hid hmm
        have HQQ := Lib.hid hqq
        clear hnb hbv hmm hqq
        refine (ruse_is L W S kc nc x.at_ nb bv _ HNB.out HBV.out hW1 (by omega) gx1 (by omega) hc0 (by omega)).mono ?_
        rintro e w7 ⟨rfl, l7⟩
        have IS7 := Lib.hid (IS.out.below l7)
        clear l7 IS
        obtain ⟨⟨r0, r1, r2⟩, ⟨a0, a1, fa0, fa1⟩, ⟨b0, b1, fb0, fb1⟩⟩ := IS7.out.cells
        have hbs := IS7.out.b.lt
        go_wp2_with fail
        have IS8 := Lib.hid ((IS7.out.toB (x.at_ / W) nb).alloc (.cells #[.int .i64 (x.at_ / W), .int .i64 nb] 41))
        clear r0 r1 r2 a0 a1 fa0 fa1 b0 b1 fb0 fb1 IS7 hbs
        generalize ((w7.setCell ⟨bb, 0, none⟩ (.int .i64 (x.at_ / W))).setCell ⟨bb, 1, none⟩ (.int .i64 nb)).alloc (.cells #[.int .i64 (x.at_ / W), .int .i64 nb] 41) = w8 at *
        refine (use_is gc W kc nc x.at_ nb bv _ HNB.out HBV.out IS8.out.cl hW1 (by omega) gx1 (by omega) hc0 (by omega)).mono ?_
        rintro e w9 ⟨rfl, hg, hb⟩
        have IS9 := Lib.hid (IS8.out.toCl hg hb)
        clear hg hb IS8 HNB HBV
        obtain ⟨⟨r0, r1, r2⟩, ⟨a0, a1, fa0, fa1⟩, ⟨b0, b1, fb0, fb1⟩⟩ := IS9.out.cells
        go_wp2_with fail
        refine (rask_is L W S lk ln x.at_ mm qq _ HMM.out HQQ.out hW1 (by omega) gx1 (by omega) hl0 hl1 hL1 (by omega) hS1 (by omega)).mono ?_
        rintro e w10 ⟨rfl, l10⟩
        have IS10 := Lib.hid (IS9.out.below l10)
        clear l10 r0 r1 r2 a0 a1 fa0 fa1 b0 b1 fb0 fb1 IS9
        obtain ⟨⟨r0, r1, r2⟩, ⟨a0, a1, fa0, fa1⟩, ⟨b0, b1, fb0, fb1⟩⟩ := IS10.out.cells
        have hbs := IS10.out.a.lt
        go_wp2_with fail
        have IS11 := Lib.hid ((IS10.out.toA (x.at_ / W) qq).alloc (.cells #[.int .i64 (x.at_ / W), .int .i64 qq] 41))
        clear r0 r1 r2 a0 a1 fa0 fa1 b0 b1 fb0 fb1 IS10 hbs
        generalize ((w10.setCell ⟨ba, 0, none⟩ (.int .i64 (x.at_ / W))).setCell ⟨ba, 1, none⟩ (.int .i64 qq)).alloc (.cells #[.int .i64 (x.at_ / W), .int .i64 qq] 41) = w11 at *
        refine (ask_at gl W lk ln L S x.at_ mm qq _ HMM.out HQQ.out IS11.out.lim hW1 (by omega) gx1 (by omega) hL1 (by omega) hS1 (by omega) hl0 hl1).mono ?_
        rintro e w12 ⟨rfl, hg, hb⟩
        have IS12 := Lib.hid (IS11.out.toLim hg hb)
        clear hg hb IS11 HMM HQQ
        by_cases hj2 : j < len2
        · obtain ⟨x2, z, rfl, hcz, hz1, hz2⟩ := HR2.out.later IS12.out.bel hj2
          go_wp2_with fail
          refine (around_some z 3 _ hz1 hz2 (by omega) (by omega)).mono ?_
          rintro e w13 ⟨t, ht0, ht3, rfl, rfl⟩
          clear hcz hz1 hz2
          go_wp2_with fail
          refine (give_at gc W nb x.at_ (mm + t) _ IS12.out.cl hW1 (by omega) gx1 (by omega) hnb1 (by omega) (by omega) (by omega)).mono ?_
          rintro e w14 ⟨rfl, hg, hb⟩
          have IS14 := Lib.hid (IS12.out.toCl hg hb)
          clear hg hb IS12
          obtain ⟨⟨r0, r1, r2⟩, ⟨a0, a1, fa0, fa1⟩, ⟨b0, b1, fb0, fb1⟩⟩ := IS14.out.cells
          go_wp2_with fail
          refine (rgive_at L W S nb x.at_ (mm + t) _ hW1 (by omega) gx1 (by omega) hnb1 (by omega) (by omega) (by omega)).mono ?_
          rintro e w15 ⟨rfl, l15⟩
          have IS15 := Lib.hid (IS14.out.below l15)
          clear l15 r0 r1 r2 a0 a1 fa0 fa1 b0 b1 fb0 fb1 IS14
          obtain ⟨⟨r0, r1, r2⟩, ⟨a0, a1, fa0, fa1⟩, ⟨b0, b1, fb0, fb1⟩⟩ := IS15.out.cells
          go_wp2_with fail
          exact ⟨⟨j + 1, _, _, _, _, by omega, by go_num, hq0, hq1, by omega, by omega, IS15.out.toB _ _⟩, by simp [intOf]; omega⟩
        · go_wp2_with fail
          refine (give_at gc W nb x.at_ mm _ IS12.out.cl hW1 (by omega) gx1 (by omega) hnb1 (by omega) (by omega) (by omega)).mono ?_
          rintro e w14 ⟨rfl, hg, hb⟩
          have IS14 := Lib.hid (IS12.out.toCl hg hb)
          clear hg hb IS12
          obtain ⟨⟨r0, r1, r2⟩, ⟨a0, a1, fa0, fa1⟩, ⟨b0, b1, fb0, fb1⟩⟩ := IS14.out.cells
          go_wp2_with fail
          refine (rgive_at L W S nb x.at_ mm _ hW1 (by omega) gx1 (by omega) hnb1 (by omega) (by omega) (by omega)).mono ?_
          rintro e w15 ⟨rfl, l15⟩
          have IS15 := Lib.hid (IS14.out.below l15)
          clear l15 r0 r1 r2 a0 a1 fa0 fa1 b0 b1 fb0 fb1 IS14
          obtain ⟨⟨r0, r1, r2⟩, ⟨a0, a1, fa0, fa1⟩, ⟨b0, b1, fb0, fb1⟩⟩ := IS15.out.cells
          go_wp2_with fail
          exact ⟨⟨j + 1, _, _, _, _, by omega, by go_num, hq0, hq1, by omega, by omega, IS15.out.toB _ _⟩, by simp [intOf]; omega⟩
    · go_wp2_with fail
      refine (lives_any _).mono ?_
      rintro e w9 ⟨rfl, l9⟩
      go_wp2_with fail
      go_ret
      exact ⟨rfl, below_next IS.out.bel l9⟩

end Go.Proofs.Ytaibhfcoapelcaa
