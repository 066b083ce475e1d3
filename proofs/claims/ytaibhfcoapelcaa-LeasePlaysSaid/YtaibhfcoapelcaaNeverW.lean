/- LeaseNever's walk: no window admits more than the limit. No conditions. -/
import Derived.Test.YtaibhfcoapelcaaPlain
namespace Go.Proofs.Ytaibhfcoapelcaa
open Go.RowKit

/-- Windows as a slice. -/
def RdWns (w : World) (A : Option Addr) (l : List Wn) : Prop :=
  ∀ i x, l[i]? = some x → ∃ g, A = some ⟨g, 0, none⟩ ∧ g < w.heap.size ∧ w.cell? ⟨g, i * 4, none⟩ = some (.int .i64 x.k) ∧ w.cell? ⟨g, i * 4 + 1, none⟩ = some (.int .i64 x.asked) ∧ w.cell? ⟨g, i * 4 + 2, none⟩ = some (.int .i64 x.adm) ∧ w.cell? ⟨g, i * 4 + 3, none⟩ = some (.bool x.forgot)

theorem RdWns.of_own {w : World} {base : Nat} {A : Option Addr} {n c : Nat} {l : List Wn} (hn : n = l.length) (h : w.ownsRow base 58 4 (.slice A n c) n (l.flatMap wnCells)) : RdWns w A l := by
  subst hn
  intro i x hx
  have hl := (List.getElem?_eq_some_iff.1 hx).1
  obtain ⟨g, cap', hv, _, hg⟩ := h.form (by omega)
  injection hv with e1 e2 e3
  subst e1
  subst e3
  have f := fun j (hj : j < 4) => flat_get wnCells 4 wnCells_len l i j x hx hj
  refine ⟨g, rfl, hg, ?_, ?_, ?_, ?_⟩
  · rw [h.cellAt _ (by omega)]; have := f 0 (by omega); rw [show i * 4 = i * 4 + 0 from by omega, this]; rfl
  · rw [h.cellAt _ (by omega)]; have := f 1 (by omega); rw [this]; rfl
  · rw [h.cellAt _ (by omega)]; have := f 2 (by omega); rw [this]; rfl
  · rw [h.cellAt _ (by omega)]; have := f 3 (by omega); rw [this]; rfl

/-- What windows leaves: a slice, its form, its windows. -/
def WinsIs (W L S : Int) (l : List Ac) (w : World) (e : Ending) (w' : World) : Prop :=
  ∃ A n c, e = .returned (.slice A n c) ∧ n = (run W L S l).out.length ∧ n ≤ 60 ∧ w'.ownsRow w.heap.size 58 4 (.slice A n c) n ((run W L S l).out.flatMap wnCells) ∧ Below w.heap.size w w'

theorem out_few {W L S : Int} {l : List Ac} (hL : 1 ≤ L) (hS : 1 ≤ S) (hl : l.length ≤ 60) : (run W L S l).out.length ≤ 60 := by
  have h : ∀ j, j ≤ l.length → (run W L S (l.take j)).Fine L S j := by
    intro j
    induction j with
    | zero => intro _; simpa [run] using St.Fine.start L S hL hS
    | succ j ih =>
      intro hj
      obtain ⟨x, hx⟩ : ∃ x, l[j]? = some x := ⟨_, List.getElem?_eq_getElem (by omega)⟩
      rw [run_take hx]
      exact (ih (by omega)).step x hS hL
  have := (h l.length (Nat.le_refl _)).few
  rw [List.take_length] at this
  omega

theorem wins_any (W L S : Int) (A : Option Addr) (c : Nat) (l : List Ac) (w : World) (ha : RdActs w w.heap.size A l.length l) (hg : GoodActs l) (hL1 : 1 ≤ L) (hL2 : L ≤ 12) (hW1 : 1 ≤ W) (hW2 : W ≤ 9) (hS1 : 1 ≤ S) (hS2 : S ≤ L) :
    Calls Try.prog 28 #[.agg #[.int .i64 L, .int .i64 W, .int .i64 S], .slice A l.length c] w (WinsIs W L S l w) := by
  refine (windows_any W L S A c l w ha hg hL1 hL2 hW1 hW2 hS1 hS2).mono ?_
  rintro e w' ⟨v, rfl, own, bel⟩
  obtain ⟨A', c', rfl⟩ := own_form own
  exact ⟨A', _, c', rfl, rfl, out_few hL1 hS1 hg.few, own, bel⟩

set_option maxHeartbeats 4000000 in
theorem never_walk (n : Int) (a : Option Addr) (len cap : Nat) (zs : List Int) (w : World) (h1 : -9223372036854775808 ≤ n) (h2 : n ≤ 9223372036854775807) (hr : IsRow w a len cap zs) :
    Calls Try.prog 6 #[.int .i64 n, .slice a len cap] w fun e w' => e = .returned (.bool true) ∧ Below w.heap.size w w' := by
  have HR := Lib.hid hr
  clear hr
  go_enter Try.func6, Try.ntmps6
  go_wp2_with fail
  refine (rate_any n _ h1 h2).mono ?_
  rintro e w1 ⟨L, W, S, hL1, hL2, hW1, hW2, hS1, hS2, rfl, l1⟩
  have L1 := Lib.hid l1
  clear l1 h1 h2
  have R1 := Lib.hid (Blk.new w1 23 #[.int .i64 L, .int .i64 W, .int .i64 S])
  have L2 := Lib.hid (below_alloc L1.out (.cells #[.int .i64 L, .int .i64 W, .int .i64 S] 23))
  go_wp2_with fail
  generalize w1.alloc (.cells #[.int .i64 L, .int .i64 W, .int .i64 S] 23) = W1 at *
  generalize w1.heap.size = rb at *
  have RD := Lib.hid R1.out.drew
  have LD : Hid (Below w.heap.size w W1.drew) := L2.out.drew
  have HRD := Lib.hid (HR.out.keep LD.out)
  clear L1 L2 R1
  go_region_held3 (fun w' => w'.cell? ⟨rb, 0, none⟩ = some (.int .i64 L) ∧ w'.cell? ⟨rb, 1, none⟩ = some (.int .i64 W) ∧ w'.cell? ⟨rb, 2, none⟩ = some (.int .i64 S))
    (exact ⟨(Hid.out ‹Hid (Blk _ rb 23 _)›).cell 0, (Hid.out ‹Hid (Blk _ rb 23 _)›).cell 1, (Hid.out ‹Hid (Blk _ rb 23 _)›).cell 2⟩)
    (first | (go_at_call 21; (with_reducible refine (acts_any a len cap zs _ HRD.out).mono ?_); rintro e wa ⟨v, l, rfl, good, own, bel⟩; obtain ⟨A, c, rfl⟩ := own_form own; have GOOD := Lib.hid good; have RDA := Lib.hid (RdActs.of_own own); have RA := Lib.hid (RD.out.below bel RD.out.lt); have LA := Lib.hid (below_next LD.out bel); clear good own bel RD HRD LD) | (go_at_call 28; (with_reducible refine (wins_any W L S A c l _ RDA.out GOOD.out hL1 hL2 hW1 hW2 hS1 hS2).mono ?_); rintro e wb ⟨A', m, c', rfl, hm, hm2, own, bel⟩; have RB := Lib.hid (RA.out.below bel RA.out.lt); have HM := Lib.hid hm; have OWN := Lib.hid (RdWns.of_own hm own); have LB := Lib.hid (below_next LA.out bel); clear hm own bel RA LA RDA))
  rename_i hHeld
  clear hHeld
  have GD : Hid (∀ x ∈ (run W L S l).out, Good L S False x) := run_good GOOD.out hL1 hS1 hW1 False (fun h => h.elim)
  generalize (run W L S l).out = xs at *
  clear GOOD HR
  go_wp2_with fail
  go_loopw [7] (fun i wr => ∃ k : Nat, k ≤ m ∧ i = .int .i64 k ∧ ∃ q, wr = wb.drewN q) (fun i _ => m - (intOf i).toNat)
  case atStart => exact ⟨0, Nat.zero_le _, rfl, 0, rfl⟩
  case round =>
    obtain ⟨k, hk, rfl, q, rfl⟩ := hrel
    by_cases hlt : k < m
    · obtain ⟨x, hx⟩ : ∃ x, xs[k]? = some x := ⟨_, List.getElem?_eq_getElem (by have := HM.out; omega)⟩
      obtain ⟨g, rfl, _, _, c1, c2, _⟩ := OWN.out k x hx
      have gd := GD.out x (List.mem_of_getElem? hx)
      have p1 := gd.most
      have p2 := gd.le
      clear hx gd
      have d1 : decide (L < x.adm) = false := by simp; omega
      have d2 : decide (x.asked < x.adm) = false := by simp; omega
      have r0 := RB.out.cell 0
      simp only [List.getElem?_toArray, List.getElem?_cons_zero] at r0
      go_wp2
      go_quiet (fail)
      go_wp2
      exact ⟨⟨k + 1, by omega, by go_num, _, rfl⟩, by simp [intOf]; omega⟩
    · go_wp2_with fail
      refine (lives_any _).mono ?_
      rintro e w9 ⟨rfl, l9⟩
      go_wp2_with fail
      go_ret
      exact ⟨rfl, below_next (below_drewN LB.out q) l9⟩

end Go.Proofs.Ytaibhfcoapelcaa
