/- LeaseMuch's walk: no window admits fewer than an exact limiter, less the error. No conditions. -/
import Derived.Test.YtaibhfcoapelcaaNeverW
namespace Go.Proofs.Ytaibhfcoapelcaa
open Go.RowKit

theorem exact_is (L W S a m : Int) (w : World) (h : min a L = m) :
    Calls Try.prog 18 #[.agg #[.int .i64 L, .int .i64 W, .int .i64 S], .int .i64 a] w fun e w' => e = .returned (.int .i64 m) ∧ Below w.heap.size w w' := by
  rw [← h]
  exact exact_any L W S a w

theorem below_drew0 {B : Nat} {a w : World} (h : Below B a.drew w) : Below B a w := ⟨h.os, h.tape, h.output, h.size, h.block⟩

set_option maxHeartbeats 4000000 in
theorem much_walk (n : Int) (a : Option Addr) (len cap : Nat) (zs : List Int) (w : World) (h1 : -9223372036854775808 ≤ n) (h2 : n ≤ 9223372036854775807) (hr : IsRow w a len cap zs) :
    Calls Try.prog 8 #[.int .i64 n, .slice a len cap] w fun e w' => e = .returned (.bool true) ∧ Below w.heap.size w w' := by
  have HR := Lib.hid hr
  clear hr
  go_enter Try.func8, Try.ntmps8
  go_wp2_with fail
  refine (rate_any n _ h1 h2).mono ?_
  rintro e w1 ⟨L, W, S, hL1, hL2, hW1, hW2, hS1, hS2, rfl, l1⟩
  have L1 := Lib.hid l1
  clear l1 h1 h2
  have R1 := Lib.hid (Blk.new w1 23 #[.int .i64 L, .int .i64 W, .int .i64 S])
  have L2 := Lib.hid (below_alloc L1.out (.cells #[.int .i64 L, .int .i64 W, .int .i64 S] 23))
  go_wp2_with fail
  generalize w1.alloc (.cells #[.int .i64 L, .int .i64 W, .int .i64 S] 23) = W1 at *
  generalize w1.heap.size = rb at *
  have RD := Lib.hid R1.out.drew
  have LD : Hid (Below w.heap.size w W1.drew) := L2.out.drew
  have HRD := Lib.hid (HR.out.keep LD.out)
  clear L1 L2 R1
  go_region_held3 (fun w' => w'.cell? ⟨rb, 0, none⟩ = some (.int .i64 L) ∧ w'.cell? ⟨rb, 1, none⟩ = some (.int .i64 W) ∧ w'.cell? ⟨rb, 2, none⟩ = some (.int .i64 S))
    (exact ⟨(Hid.out ‹Hid (Blk _ rb 23 _)›).cell 0, (Hid.out ‹Hid (Blk _ rb 23 _)›).cell 1, (Hid.out ‹Hid (Blk _ rb 23 _)›).cell 2⟩)
    (first | (go_at_call 21; (with_reducible refine (acts_any a len cap zs _ HRD.out).mono ?_); rintro e wa ⟨v, l, rfl, good, own, bel⟩; obtain ⟨A, c, rfl⟩ := own_form own; have GOOD := Lib.hid good; have RDA := Lib.hid (RdActs.of_own own); have RA := Lib.hid (RD.out.below bel RD.out.lt); have LA := Lib.hid (below_next LD.out bel); clear good own bel RD HRD LD) | (go_at_call 28; (with_reducible refine (wins_any W L S A c l _ RDA.out GOOD.out hL1 hL2 hW1 hW2 hS1 hS2).mono ?_); rintro e wb ⟨A', m, c', rfl, hm, hm2, own, bel⟩; have RB := Lib.hid (RA.out.below bel RA.out.lt); have HM := Lib.hid hm; have OWN := Lib.hid (RdWns.of_own hm own); have LB := Lib.hid (below_next LA.out bel); clear hm own bel RA LA RDA))
  rename_i hHeld
  clear hHeld
  have GD : Hid (∀ x ∈ (run W L S l).out, Good L S False x) := run_good GOOD.out hL1 hS1 hW1 False (fun h => h.elim)
  generalize (run W L S l).out = xs at *
  clear GOOD HR
  go_wp2_with fail
  go_loopw [7] (fun i wr => ∃ k : Nat, k ≤ m ∧ i = .int .i64 k ∧ Below wb.heap.size wb wr) (fun i _ => m - (intOf i).toNat)
  case atStart => exact ⟨0, Nat.zero_le _, rfl, Below.refl _ _⟩
  case round =>
    obtain ⟨k, hk, rfl, hbw⟩ := hrel
    have HBW := Lib.hid hbw
    clear hbw
    by_cases hlt : k < m
    · obtain ⟨x, hx⟩ : ∃ x, xs[k]? = some x := ⟨_, List.getElem?_eq_getElem (by have := HM.out; omega)⟩
      obtain ⟨g, rfl, hgl, _, c1, c2, c3⟩ := OWN.out k x hx
      have gd := GD.out x (List.mem_of_getElem? hx)
      have p1 := gd.adm0
      have p3 := gd.le
      have GX := Lib.hid gd
      clear hx gd
      have r0 := RB.out.cell 0
      have r1 := RB.out.cell 1
      have r2 := RB.out.cell 2
      simp only [List.getElem?_toArray, List.getElem?_cons_zero, List.getElem?_cons_succ] at r0 r1 r2
      have e1 : 0 ≤ min x.asked L := by omega
      have e2 : min x.asked L ≤ L := by omega
      have NCH : Hid (∀ w5, Below wr.heap.size wr.drew w5 → (w5.cell? ⟨g, k * 4 + 1, none⟩ = some (.int .i64 x.asked) ∧ w5.cell? ⟨g, k * 4 + 2, none⟩ = some (.int .i64 x.adm) ∧ w5.cell? ⟨g, k * 4 + 3, none⟩ = some (.bool x.forgot) ∧
          w5.cell? ⟨rb, 0, none⟩ = some (.int .i64 L) ∧ w5.cell? ⟨rb, 1, none⟩ = some (.int .i64 W) ∧ w5.cell? ⟨rb, 2, none⟩ = some (.int .i64 S))) := by
        intro w5 h5
        have hrl := RB.out.lt
        have hsz := HBW.out.size
        have keep : ∀ (g' o : Nat) (u : Value), wb.cell? ⟨g', o, none⟩ = some u → g' < wb.heap.size → w5.cell? ⟨g', o, none⟩ = some u := by
          intro g' o u hu hl
          rw [h5.cell (p := ⟨g', o, none⟩) (by show g' < _; omega)]
          exact (HBW.out.cell (p := ⟨g', o, none⟩) hl).trans hu
        exact ⟨keep _ _ _ c1 hgl, keep _ _ _ c2 hgl, keep _ _ _ c3 hgl, keep _ _ _ r0 hrl, keep _ _ _ r1 hrl, keep _ _ _ r2 hrl⟩
      have B0 : Hid (Below wr.heap.size wr.drew wr.drew) := Below.refl _ _
      clear r0 r1 r2 c1 c2 c3 hgl
      have tst : Hid (∀ f, x.forgot = f → decide (x.adm < min x.asked L - (if f then L else 3 * (S - 1))) = false) := by
        intro f hf
        have h1 := GX.out.much
        have h0 := GX.out.adm0
        simp only [decide_eq_false_iff_not]
        cases f
        · have := h1 hf
          simp only [Bool.false_eq_true, if_false]
          omega
        · simp only [if_true]
          omega
      go_wp2
      rcases hf : x.forgot with _ | _
      · rw [hf] at NCH
        have T := tst.out _ hf
        simp only [Bool.false_eq_true, if_false] at T
        clear tst hf
        generalize hmn : min x.asked L = mn at *
        have MN := Lib.hid hmn
        clear hmn
        have WR : IntKind.i64.wrap (mn - 3 * (S - 1)) = mn - 3 * (S - 1) := IntWalk.i64_in _ (by omega)
        go_region_held3 (fun w' => w'.cell? ⟨g, k * 4 + 1, none⟩ = some (.int .i64 x.asked) ∧ w'.cell? ⟨g, k * 4 + 2, none⟩ = some (.int .i64 x.adm) ∧ w'.cell? ⟨g, k * 4 + 3, none⟩ = some (.bool false) ∧ w'.cell? ⟨rb, 0, none⟩ = some (.int .i64 L) ∧ w'.cell? ⟨rb, 1, none⟩ = some (.int .i64 W) ∧ w'.cell? ⟨rb, 2, none⟩ = some (.int .i64 S))
          (exact NCH.out _ (Hid.out ‹Hid (Below wr.heap.size wr.drew _)›))
          (first | (go_at_call 18; (with_reducible refine (exact_is L W S x.asked mn _ MN.out).mono ?_); rintro e w5 ⟨rfl, l5⟩; have B1 : Hid (Below wr.heap.size wr.drew w5) := below_next (a := wr.drew) B0.out l5; clear l5 B0) | (go_at_call 19; (with_reducible refine (error_no L W S 3 _ hS1 (by omega) (by omega) (by omega)).mono ?_); rintro e w6 ⟨rfl, l6⟩; have B2 : Hid (Below wr.heap.size wr.drew w6) := below_next (a := wr.drew) B1.out l6; clear l6 B1))
        go_wp2
        exact ⟨⟨k + 1, by omega, by go_num, HBW.out.trans ((below_drew0 B2.out).mono HBW.out.size)⟩, by simp [intOf]; omega⟩
      · rw [hf] at NCH
        have T := tst.out _ hf
        simp only [if_true] at T
        clear tst hf
        generalize hmn : min x.asked L = mn at *
        have MN := Lib.hid hmn
        clear hmn
        have WR : IntKind.i64.wrap (mn - L) = mn - L := IntWalk.i64_in _ (by omega)
        go_region_held3 (fun w' => w'.cell? ⟨g, k * 4 + 1, none⟩ = some (.int .i64 x.asked) ∧ w'.cell? ⟨g, k * 4 + 2, none⟩ = some (.int .i64 x.adm) ∧ w'.cell? ⟨g, k * 4 + 3, none⟩ = some (.bool true) ∧ w'.cell? ⟨rb, 0, none⟩ = some (.int .i64 L) ∧ w'.cell? ⟨rb, 1, none⟩ = some (.int .i64 W) ∧ w'.cell? ⟨rb, 2, none⟩ = some (.int .i64 S))
          (exact NCH.out _ (Hid.out ‹Hid (Below wr.heap.size wr.drew _)›))
          (first | (go_at_call 18; (with_reducible refine (exact_is L W S x.asked mn _ MN.out).mono ?_); rintro e w5 ⟨rfl, l5⟩; have B1 : Hid (Below wr.heap.size wr.drew w5) := below_next (a := wr.drew) B0.out l5; clear l5 B0) | (go_at_call 19; (with_reducible refine (error_yes L W S 3 _).mono ?_); rintro e w6 ⟨rfl, l6⟩; have B2 : Hid (Below wr.heap.size wr.drew w6) := below_next (a := wr.drew) B1.out l6; clear l6 B1))
        go_wp2
        exact ⟨⟨k + 1, by omega, by go_num, HBW.out.trans ((below_drew0 B2.out).mono HBW.out.size)⟩, by simp [intOf]; omega⟩
    · go_wp2_with fail
      refine (lives_any _).mono ?_
      rintro e w9 ⟨rfl, l9⟩
      go_wp2_with fail
      go_ret
      exact ⟨rfl, below_next (below_next LB.out HBW.out) l9⟩

end Go.Proofs.Ytaibhfcoapelcaa
