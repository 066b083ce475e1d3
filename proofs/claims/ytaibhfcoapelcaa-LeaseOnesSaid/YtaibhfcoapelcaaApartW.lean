/- LeaseApart's walk: what happens from a window on is the same, whatever happened ahead of it. No conditions. -/
import Derived.Test.YtaibhfcoapelcaaNeverW
namespace Go.Proofs.Ytaibhfcoapelcaa
open Go.RowKit

theorem wins_at (W L S : Int) (A : Option Addr) (m c : Nat) (l : List Ac) (w : World) (hm : l.length = m) (ha : RdActs w w.heap.size A m l) (hg : GoodActs l) (hL1 : 1 ≤ L) (hL2 : L ≤ 12) (hW1 : 1 ≤ W) (hW2 : W ≤ 9) (hS1 : 1 ≤ S) (hS2 : S ≤ L) :
    Calls Try.prog 28 #[.agg #[.int .i64 L, .int .i64 W, .int .i64 S], .slice A m c] w (WinsIs W L S l w) := by
  subst hm
  exact wins_any W L S A c l w ha hg hL1 hL2 hW1 hW2 hS1 hS2

theorem RdActs.drewN {w : World} {A : Option Addr} {n : Nat} {l : List Ac} (h : RdActs w w.heap.size A n l) (m : Nat) : RdActs (w.drewN m) (w.drewN m).heap.size A n l := h
theorem below_undrew {a w : World} (h : Below a.drew.heap.size a.drew w) : Below a.heap.size a w := ⟨h.os, h.tape, h.output, h.size, h.block⟩
theorem RdActs.more {w : World} {B B' : Nat} {A : Option Addr} {n : Nat} {l : List Ac} (h : RdActs w B A n l) (hB : B ≤ B') : RdActs w B' A n l := by
  refine ⟨h.1, fun i x hx => ?_⟩
  obtain ⟨g, off, e, hg, r⟩ := h.2 i x hx
  exact ⟨g, off, e, by omega, r⟩
theorem own_cap {w : World} {base e size n c : Nat} {A : Option Addr} {xs : List Value} (h : w.ownsRow base e size (.slice A n c) n xs) : n ≤ c := by
  rcases h.2 with ⟨h2, h3⟩ | ⟨g, cap, cur, hv, h3, h4, h5, h6, h7, h8⟩
  · injection h2 with _ e1 _
    omega
  · injection hv with _ _ e3
    omega
theorem RdActs.cut {w : World} {B : Nat} {A : Option Addr} {n : Nat} {l : List Ac} (h : RdActs w B A n l) {k cap : Nat} (hk : k ≤ n) (hc : n ≤ cap) : RdActs w B (if cap = k then A else A.map (·.add (k * 3))) (n - k) (l.drop k) := by
  refine ⟨by rw [List.length_drop, h.1], fun i x hx => ?_⟩
  rw [List.getElem?_drop] at hx
  have hl := (List.getElem?_eq_some_iff.1 hx).1
  have hn := h.1
  obtain ⟨g, off, rfl, hg, c0, c1, c2⟩ := h.2 _ x hx
  rw [if_neg (by omega)]
  have e : (k + i) * 3 = k * 3 + i * 3 := Nat.add_mul _ _ _
  refine ⟨g, off + k * 3, ?_, hg, ?_, ?_, ?_⟩
  · show some (Addr.add ⟨g, off, none⟩ (k * 3)) = _
    unfold Addr.add
    split <;> simp_all
  · rw [show off + k * 3 + i * 3 = off + (k + i) * 3 from by omega]; exact c0
  · rw [show off + k * 3 + i * 3 + 1 = off + (k + i) * 3 + 1 from by omega]; exact c1
  · rw [show off + k * 3 + i * 3 + 2 = off + (k + i) * 3 + 2 from by omega]; exact c2

/-- The place from which on the acts are played again begins a window. -/
def Begins (W : Int) (l : List Ac) (k : Nat) : Prop := ∀ x y, 0 < k → l[k]? = some x → l[k - 1]? = some y → x.at_ / W ≠ y.at_ / W

set_option maxHeartbeats 8000000 in
theorem apart_walk (n away : Int) (a : Option Addr) (len cap : Nat) (zs : List Int) (w : World) (h1 : -9223372036854775808 ≤ n) (h2 : n ≤ 9223372036854775807) (h3 : -9223372036854775808 ≤ away) (h4 : away ≤ 9223372036854775807) (hr : IsRow w a len cap zs) :
    Calls Try.prog 7 #[.int .i64 n, .slice a len cap, .int .i64 away] w fun e w' => e = .returned (.bool true) ∧ Below w.heap.size w w' := by
  have HR := Lib.hid hr
  clear hr
  go_enter Try.func7, Try.ntmps7
  go_wp2_with fail
  refine (rate_any n _ h1 h2).mono ?_
  rintro e w1 ⟨L, W, S, hL1, hL2, hW1, hW2, hS1, hS2, rfl, l1⟩
  have L1 := Lib.hid l1
  clear l1 h1 h2
  have R1 := Lib.hid (Blk.new w1 23 #[.int .i64 L, .int .i64 W, .int .i64 S])
  have L2 := Lib.hid (below_alloc L1.out (.cells #[.int .i64 L, .int .i64 W, .int .i64 S] 23))
  go_wp2_with fail
  generalize w1.alloc (.cells #[.int .i64 L, .int .i64 W, .int .i64 S] 23) = W1 at *
  generalize w1.heap.size = rb at *
  refine (acts_any a len cap zs _ (HR.out.keep L2.out)).mono ?_
  rintro e wa ⟨v, l, rfl, good, own, bel⟩
  obtain ⟨A, c, rfl⟩ := own_form own
  have GOOD := Lib.hid good
  have RDA := Lib.hid (RdActs.of_own own)
  have RA := Lib.hid (R1.out.below bel R1.out.lt)
  have LA := Lib.hid (below_next L2.out bel)
  have OWA := Lib.hid own
  have hfew := good.few
  clear good own bel R1 L2 L1 HR
  go_wp2_with fail
  refine (around_some away _ _ h3 h4 (by omega) (by omega)).mono ?_
  rintro e w' ⟨b, hb1, hb2, rfl, rfl⟩
  obtain ⟨k0, hk0⟩ : ∃ k0 : Nat, b = (k0 : Int) := ⟨b.toNat, by omega⟩
  subst hk0
  clear h3 h4
  go_wp2_with fail
  go_loopw [9] (fun i wr => ∃ k : Nat, k ≤ l.length ∧ i = .int .i64 k ∧ ∃ q, wr = wa.drewN q) (fun i _ => l.length - (intOf i).toNat)
  case atStart => exact ⟨k0, by omega, rfl, 0, rfl⟩
  case round =>
    clear hb1 hb2
    obtain ⟨k, hk, rfl, q, rfl⟩ := hrel
    have r1 := RA.out.cell 1
    simp only [List.getElem?_toArray, List.getElem?_cons_zero, List.getElem?_cons_succ] at r1
    by_cases hC : 0 < k ∧ k < l.length
    · obtain ⟨hC1, hC2⟩ := hC
      obtain ⟨x, hx⟩ : ∃ x, l[k]? = some x := ⟨_, List.getElem?_eq_getElem hC2⟩
      obtain ⟨y, hy⟩ : ∃ y, l[k - 1]? = some y := ⟨_, List.getElem?_eq_getElem (by omega)⟩
      obtain ⟨g, off, rfl, _, _, x1, _⟩ := RDA.out.2 k x hx
      obtain ⟨g', off', e, _, _, y1, _⟩ := RDA.out.2 (k - 1) y hy
      injection e with e
      injection e with e e2
      subst e
      subst e2
      have gx1 := GOOD.out.at0 x (List.mem_of_getElem? hx)
      have gy1 := GOOD.out.at0 y (List.mem_of_getElem? hy)
      have gx2 := GOOD.out.at1 x (List.mem_of_getElem? hx)
      have gy2 := GOOD.out.at1 y (List.mem_of_getElem? hy)
      have hd0 : decide ((0 : Int) < k) = true := by simpa using hC1
      have hd1 : decide (k < l.length) = true := by simpa using hC2
      have HX := Lib.hid hx
      have HY := Lib.hid hy
      clear hx hy
      by_cases hE : x.at_ / W = y.at_ / W
      · have hE2 : (x.at_ / W == y.at_ / W) = true := by simpa using hE
        clear hE
        go_wp2_with fail
        go_quiet (fail)
        go_wp2
        exact ⟨⟨k + 1, by omega, by go_num, _, rfl⟩, by simp [intOf]; omega⟩
      · have hE2 : (x.at_ / W == y.at_ / W) = false := by simpa using hE
        have NB : Hid (Begins W l k) := by
          intro x' y' _ hx' hy'
          rw [HX.out] at hx'
          rw [HY.out] at hy'
          injection hx' with hx'
          injection hy' with hy'
          subst hx'
          subst hy'
          exact hE
        clear hE HX HY
        have q0 := RA.out.cell 0
        have q2 := RA.out.cell 2
        simp only [List.getElem?_toArray, List.getElem?_cons_zero, List.getElem?_cons_succ] at q0 q2
        go_wp2_with fail
        go_quiet (fail)
        clear gx1 gx2 gy1 gy2 hE2 hd0 hd1 x1 y1
        go_wp2_with fail
        generalize hA : (some (⟨g, off, none⟩ : Addr)) = A at *
        clear hA
        (refine (wins_any W L S A c l _ (RDA.out.drewN _) GOOD.out hL1 hL2 hW1 hW2 hS1 hS2).mono ?_)
        rintro e wb ⟨A1, n1, c1, rfl, hn1, hn2, own1, bel1⟩
        have HN1 := Lib.hid hn1
        have RD1 := Lib.hid (RdWns.of_own hn1 own1)
        have BW : Hid (Below wa.heap.size wa wb) := (below_drewN (Below.refl wa.heap.size wa) _).trans bel1
        clear hn1 own1 bel1 q0 q2 r1
        have RB : Hid (Blk wb.drew rb 23 #[.int .i64 L, .int .i64 W, .int .i64 S]) := (RA.out.below BW.out RA.out.lt).drew
        have RDB : Hid (RdActs wb.drew wb.drew.heap.size A l.length l) := (RDA.out.below BW.out).more BW.out.size
        have hcap : l.length ≤ c := own_cap OWA.out
        go_wp2_with fail
        have hki : (k : Int) ≤ (l.length : Int) := by omega
        have hk0 : (0 : Int) ≤ (k : Int) := by omega
        go_region_held3 (fun w' => w'.cell? ⟨rb, 0, none⟩ = some (.int .i64 L) ∧ w'.cell? ⟨rb, 1, none⟩ = some (.int .i64 W) ∧ w'.cell? ⟨rb, 2, none⟩ = some (.int .i64 S))
          (exact ⟨(Hid.out ‹Hid (Blk _ rb 23 _)›).cell 0, (Hid.out ‹Hid (Blk _ rb 23 _)›).cell 1, (Hid.out ‹Hid (Blk _ rb 23 _)›).cell 2⟩)
          ((go_at_call 28; (with_reducible refine (wins_at W L S _ _ _ (l.drop k) _ List.length_drop (RDB.out.cut hk hcap) (GOOD.out.drop k) hL1 hL2 hW1 hW2 hS1 hS2).mono ?_); rintro e wc ⟨A2, n2, c2, rfl, hn3, hn4, own2, bel2⟩; have HN2 := Lib.hid hn3; have RD2 := Lib.hid (RdWns.of_own hn3 own2); have BW2 := Lib.hid bel2; have RB2 := Lib.hid (RB.out.below bel2 RB.out.lt); clear hn3 own2 bel2 RDB RB; generalize (if c = k then A else Option.map (fun x => x.add (k * 3)) A) = A9))
        rename_i hHeld
        clear hHeld
        obtain ⟨B, hB⟩ := run_apart (W := W) (L := L) (S := S) GOOD.out hL1 hS1 hW1 k NB.out
        have hn12 : n1 = B.length + n2 := by rw [HN1.out, HN2.out, hB, List.length_append]
        have PR : Hid (∀ i, i < n2 → ∃ x, (run W L S (l.drop k)).out[i]? = some x ∧ (run W L S l).out[n1 - n2 + i]? = some x) := by
          intro i hi
          have hlt : i < (run W L S (l.drop k)).out.length := by have := HN2.out; omega
          refine ⟨_, List.getElem?_eq_getElem hlt, ?_⟩
          rw [hB, List.getElem?_append_right (by omega), show n1 - n2 + i - B.length = i from by omega, List.getElem?_eq_getElem hlt]
        have hle : n2 ≤ n1 := by omega
        have RD3 : Hid (RdWns wb.drew A1 (run W L S l).out) := RD1.out
        have BC : Hid (Below wb.heap.size wb wc) := below_undrew BW2.out
        have LC : Hid (Below w.heap.size w wc) := below_next (below_next LA.out BW.out) BC.out
        clear hB hn12 NB HN1 HN2 RD1 BW2 BW LA
        have hd3 : decide (n1 < n2) = false := by simp; omega
        generalize (run W L S l).out = ws at *
        generalize (run W L S (l.drop k)).out = xs at *
        go_wp2_with fail
        go_loopw [12] (fun i wr => ∃ m : Nat, m ≤ n2 ∧ i = .int .i64 m ∧ ∃ q, wr = wc.drewN q) (fun i _ => n2 - (intOf i).toNat)
        case atStart => exact ⟨0, Nat.zero_le _, rfl, 0, rfl⟩
        case round =>
          obtain ⟨m, hm, rfl, q3, rfl⟩ := hrel
          by_cases hmlt : m < n2
          · obtain ⟨z, hz1, hz2⟩ := PR.out m hmlt
            obtain ⟨g2, rfl, _, x0, x1, x2, x3⟩ := RD2.out m z hz1
            obtain ⟨g1, rfl, hg1, y0, y1, y2, y3⟩ := RD3.out _ z hz2
            have y0 : wc.cell? ⟨g1, (n1 - n2 + m) * 4, none⟩ = _ := (BC.out.cell (p := ⟨g1, _, none⟩) hg1).trans y0
            have y1 : wc.cell? ⟨g1, (n1 - n2 + m) * 4 + 1, none⟩ = _ := (BC.out.cell (p := ⟨g1, _, none⟩) hg1).trans y1
            have y2 : wc.cell? ⟨g1, (n1 - n2 + m) * 4 + 2, none⟩ = _ := (BC.out.cell (p := ⟨g1, _, none⟩) hg1).trans y2
            have y3 : wc.cell? ⟨g1, (n1 - n2 + m) * 4 + 3, none⟩ = _ := (BC.out.cell (p := ⟨g1, _, none⟩) hg1).trans y3
            clear hz1 hz2 hg1
            go_wp2
            go_quiet (fail)
            go_wp2
            exact ⟨⟨m + 1, by omega, by go_num, _, rfl⟩, by simp [intOf]; omega⟩
          · go_wp2_with fail
            refine (lives_any _).mono ?_
            rintro e w9 ⟨rfl, l9⟩
            go_wp2_with fail
            go_ret
            exact ⟨rfl, below_next (below_drewN LC.out q3) l9⟩
    · have q0 := RA.out.cell 0
      have q2 := RA.out.cell 2
      simp only [List.getElem?_toArray, List.getElem?_cons_zero, List.getElem?_cons_succ] at q0 q2
      by_cases hk1 : 0 < k
      · have hd0 : decide ((0 : Int) < k) = true := by simpa using hk1
        have hd1 : decide (k < l.length) = false := by simp; omega
        have NB : Hid (Begins W l k) := by
          intro x' y' _ hx'
          rw [List.getElem?_eq_none (by omega)] at hx'
          cases hx'
        clear hC
        go_wp2_with fail
        go_quiet (fail)
        go_wp2_with fail
        (refine (wins_any W L S A c l _ (RDA.out.drewN _) GOOD.out hL1 hL2 hW1 hW2 hS1 hS2).mono ?_)
        rintro e wb ⟨A1, n1, c1, rfl, hn1, hn2, own1, bel1⟩
        have HN1 := Lib.hid hn1
        have RD1 := Lib.hid (RdWns.of_own hn1 own1)
        have BW : Hid (Below wa.heap.size wa wb) := (below_drewN (Below.refl wa.heap.size wa) _).trans bel1
        clear hn1 own1 bel1 q0 q2 r1
        have RB : Hid (Blk wb.drew rb 23 #[.int .i64 L, .int .i64 W, .int .i64 S]) := (RA.out.below BW.out RA.out.lt).drew
        have RDB : Hid (RdActs wb.drew wb.drew.heap.size A l.length l) := (RDA.out.below BW.out).more BW.out.size
        have hcap : l.length ≤ c := own_cap OWA.out
        go_wp2_with fail
        have hki : (k : Int) ≤ (l.length : Int) := by omega
        have hk0 : (0 : Int) ≤ (k : Int) := by omega
        go_region_held3 (fun w' => w'.cell? ⟨rb, 0, none⟩ = some (.int .i64 L) ∧ w'.cell? ⟨rb, 1, none⟩ = some (.int .i64 W) ∧ w'.cell? ⟨rb, 2, none⟩ = some (.int .i64 S))
          (exact ⟨(Hid.out ‹Hid (Blk _ rb 23 _)›).cell 0, (Hid.out ‹Hid (Blk _ rb 23 _)›).cell 1, (Hid.out ‹Hid (Blk _ rb 23 _)›).cell 2⟩)
          ((go_at_call 28; (with_reducible refine (wins_at W L S _ _ _ (l.drop k) _ List.length_drop (RDB.out.cut hk hcap) (GOOD.out.drop k) hL1 hL2 hW1 hW2 hS1 hS2).mono ?_); rintro e wc ⟨A2, n2, c2, rfl, hn3, hn4, own2, bel2⟩; have HN2 := Lib.hid hn3; have RD2 := Lib.hid (RdWns.of_own hn3 own2); have BW2 := Lib.hid bel2; have RB2 := Lib.hid (RB.out.below bel2 RB.out.lt); clear hn3 own2 bel2 RDB RB; generalize (if c = k then A else Option.map (fun x => x.add (k * 3)) A) = A9))
        rename_i hHeld
        clear hHeld
        obtain ⟨B, hB⟩ := run_apart (W := W) (L := L) (S := S) GOOD.out hL1 hS1 hW1 k NB.out
        have hn12 : n1 = B.length + n2 := by rw [HN1.out, HN2.out, hB, List.length_append]
        have PR : Hid (∀ i, i < n2 → ∃ x, (run W L S (l.drop k)).out[i]? = some x ∧ (run W L S l).out[n1 - n2 + i]? = some x) := by
          intro i hi
          have hlt : i < (run W L S (l.drop k)).out.length := by have := HN2.out; omega
          refine ⟨_, List.getElem?_eq_getElem hlt, ?_⟩
          rw [hB, List.getElem?_append_right (by omega), show n1 - n2 + i - B.length = i from by omega, List.getElem?_eq_getElem hlt]
        have hle : n2 ≤ n1 := by omega
        have RD3 : Hid (RdWns wb.drew A1 (run W L S l).out) := RD1.out
        have BC : Hid (Below wb.heap.size wb wc) := below_undrew BW2.out
        have LC : Hid (Below w.heap.size w wc) := below_next (below_next LA.out BW.out) BC.out
        clear hB hn12 NB HN1 HN2 RD1 BW2 BW LA
        have hd3 : decide (n1 < n2) = false := by simp; omega
        generalize (run W L S l).out = ws at *
        generalize (run W L S (l.drop k)).out = xs at *
        go_wp2_with fail
        go_loopw [12] (fun i wr => ∃ m : Nat, m ≤ n2 ∧ i = .int .i64 m ∧ ∃ q, wr = wc.drewN q) (fun i _ => n2 - (intOf i).toNat)
        case atStart => exact ⟨0, Nat.zero_le _, rfl, 0, rfl⟩
        case round =>
          obtain ⟨m, hm, rfl, q3, rfl⟩ := hrel
          by_cases hmlt : m < n2
          · obtain ⟨z, hz1, hz2⟩ := PR.out m hmlt
            obtain ⟨g2, rfl, _, x0, x1, x2, x3⟩ := RD2.out m z hz1
            obtain ⟨g1, rfl, hg1, y0, y1, y2, y3⟩ := RD3.out _ z hz2
            have y0 : wc.cell? ⟨g1, (n1 - n2 + m) * 4, none⟩ = _ := (BC.out.cell (p := ⟨g1, _, none⟩) hg1).trans y0
            have y1 : wc.cell? ⟨g1, (n1 - n2 + m) * 4 + 1, none⟩ = _ := (BC.out.cell (p := ⟨g1, _, none⟩) hg1).trans y1
            have y2 : wc.cell? ⟨g1, (n1 - n2 + m) * 4 + 2, none⟩ = _ := (BC.out.cell (p := ⟨g1, _, none⟩) hg1).trans y2
            have y3 : wc.cell? ⟨g1, (n1 - n2 + m) * 4 + 3, none⟩ = _ := (BC.out.cell (p := ⟨g1, _, none⟩) hg1).trans y3
            clear hz1 hz2 hg1
            go_wp2
            go_quiet (fail)
            go_wp2
            exact ⟨⟨m + 1, by omega, by go_num, _, rfl⟩, by simp [intOf]; omega⟩
          · go_wp2_with fail
            refine (lives_any _).mono ?_
            rintro e w9 ⟨rfl, l9⟩
            go_wp2_with fail
            go_ret
            exact ⟨rfl, below_next (below_drewN LC.out q3) l9⟩
      · have hd0 : decide ((0 : Int) < k) = false := by simp; omega
        have hd2 : decide (0 < k) = false := by simp; omega
        have NB : Hid (Begins W l k) := fun x' y' h => by omega
        clear hC
        go_wp2_with fail
        go_quiet (fail)
        go_wp2_with fail
        (refine (wins_any W L S A c l _ (RDA.out.drewN _) GOOD.out hL1 hL2 hW1 hW2 hS1 hS2).mono ?_)
        rintro e wb ⟨A1, n1, c1, rfl, hn1, hn2, own1, bel1⟩
        have HN1 := Lib.hid hn1
        have RD1 := Lib.hid (RdWns.of_own hn1 own1)
        have BW : Hid (Below wa.heap.size wa wb) := (below_drewN (Below.refl wa.heap.size wa) _).trans bel1
        clear hn1 own1 bel1 q0 q2 r1
        have RB : Hid (Blk wb.drew rb 23 #[.int .i64 L, .int .i64 W, .int .i64 S]) := (RA.out.below BW.out RA.out.lt).drew
        have RDB : Hid (RdActs wb.drew wb.drew.heap.size A l.length l) := (RDA.out.below BW.out).more BW.out.size
        have hcap : l.length ≤ c := own_cap OWA.out
        go_wp2_with fail
        have hki : (k : Int) ≤ (l.length : Int) := by omega
        have hk0 : (0 : Int) ≤ (k : Int) := by omega
        go_region_held3 (fun w' => w'.cell? ⟨rb, 0, none⟩ = some (.int .i64 L) ∧ w'.cell? ⟨rb, 1, none⟩ = some (.int .i64 W) ∧ w'.cell? ⟨rb, 2, none⟩ = some (.int .i64 S))
          (exact ⟨(Hid.out ‹Hid (Blk _ rb 23 _)›).cell 0, (Hid.out ‹Hid (Blk _ rb 23 _)›).cell 1, (Hid.out ‹Hid (Blk _ rb 23 _)›).cell 2⟩)
          ((go_at_call 28; (with_reducible refine (wins_at W L S _ _ _ (l.drop k) _ List.length_drop (RDB.out.cut hk hcap) (GOOD.out.drop k) hL1 hL2 hW1 hW2 hS1 hS2).mono ?_); rintro e wc ⟨A2, n2, c2, rfl, hn3, hn4, own2, bel2⟩; have HN2 := Lib.hid hn3; have RD2 := Lib.hid (RdWns.of_own hn3 own2); have BW2 := Lib.hid bel2; have RB2 := Lib.hid (RB.out.below bel2 RB.out.lt); clear hn3 own2 bel2 RDB RB; generalize (if c = k then A else Option.map (fun x => x.add (k * 3)) A) = A9))
        rename_i hHeld
        clear hHeld
        obtain ⟨B, hB⟩ := run_apart (W := W) (L := L) (S := S) GOOD.out hL1 hS1 hW1 k NB.out
        have hn12 : n1 = B.length + n2 := by rw [HN1.out, HN2.out, hB, List.length_append]
        have PR : Hid (∀ i, i < n2 → ∃ x, (run W L S (l.drop k)).out[i]? = some x ∧ (run W L S l).out[n1 - n2 + i]? = some x) := by
          intro i hi
          have hlt : i < (run W L S (l.drop k)).out.length := by have := HN2.out; omega
          refine ⟨_, List.getElem?_eq_getElem hlt, ?_⟩
          rw [hB, List.getElem?_append_right (by omega), show n1 - n2 + i - B.length = i from by omega, List.getElem?_eq_getElem hlt]
        have hle : n2 ≤ n1 := by omega
        have RD3 : Hid (RdWns wb.drew A1 (run W L S l).out) := RD1.out
        have BC : Hid (Below wb.heap.size wb wc) := below_undrew BW2.out
        have LC : Hid (Below w.heap.size w wc) := below_next (below_next LA.out BW.out) BC.out
        clear hB hn12 NB HN1 HN2 RD1 BW2 BW LA
        have hd3 : decide (n1 < n2) = false := by simp; omega
        generalize (run W L S l).out = ws at *
        generalize (run W L S (l.drop k)).out = xs at *
        go_wp2_with fail
        go_loopw [12] (fun i wr => ∃ m : Nat, m ≤ n2 ∧ i = .int .i64 m ∧ ∃ q, wr = wc.drewN q) (fun i _ => n2 - (intOf i).toNat)
        case atStart => exact ⟨0, Nat.zero_le _, rfl, 0, rfl⟩
        case round =>
          obtain ⟨m, hm, rfl, q3, rfl⟩ := hrel
          by_cases hmlt : m < n2
          · obtain ⟨z, hz1, hz2⟩ := PR.out m hmlt
            obtain ⟨g2, rfl, _, x0, x1, x2, x3⟩ := RD2.out m z hz1
            obtain ⟨g1, rfl, hg1, y0, y1, y2, y3⟩ := RD3.out _ z hz2
            have y0 : wc.cell? ⟨g1, (n1 - n2 + m) * 4, none⟩ = _ := (BC.out.cell (p := ⟨g1, _, none⟩) hg1).trans y0
            have y1 : wc.cell? ⟨g1, (n1 - n2 + m) * 4 + 1, none⟩ = _ := (BC.out.cell (p := ⟨g1, _, none⟩) hg1).trans y1
            have y2 : wc.cell? ⟨g1, (n1 - n2 + m) * 4 + 2, none⟩ = _ := (BC.out.cell (p := ⟨g1, _, none⟩) hg1).trans y2
            have y3 : wc.cell? ⟨g1, (n1 - n2 + m) * 4 + 3, none⟩ = _ := (BC.out.cell (p := ⟨g1, _, none⟩) hg1).trans y3
            clear hz1 hz2 hg1
            go_wp2
            go_quiet (fail)
            go_wp2
            exact ⟨⟨m + 1, by omega, by go_num, _, rfl⟩, by simp [intOf]; omega⟩
          · go_wp2_with fail
            refine (lives_any _).mono ?_
            rintro e w9 ⟨rfl, l9⟩
            go_wp2_with fail
            go_ret
            exact ⟨rfl, below_next (below_drewN LC.out q3) l9⟩

end Go.Proofs.Ytaibhfcoapelcaa
