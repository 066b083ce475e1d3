/- CertOver's walk: what was OK is OK for as long as a rotation says, and no longer; what is given out behind it is OK at once. No conditions. -/
import Derived.Test.YtjknlijikojbmaaLaw
import Derived.Deep.RegionHeld3
namespace Go.Proofs.Ytjknlijikojbmaa
open Go.RowKit

/-- Roots of what was given out that there are. -/
def RootsIn (a : Au) : Prop := ∀ c ∈ a.l, 1 ≤ c.r ∧ c.r ≤ a.n
theorem RootsIn.gave {a : Au} (h : RootsIn a) {c : Ce} (hg : a.gave c = true) : 1 ≤ c.r ∧ c.r ≤ a.n := h c (gave_mem hg)
theorem RootsIn.issue {a : Au} (h : RootsIn a) (v t life : Int) : RootsIn (a.issue v t life) := by
  intro c hc
  rcases List.mem_append.1 hc with h1 | h1
  · exact h c h1
  · simp only [List.mem_singleton] at h1
    subst h1
    exact ⟨by show (1 : Int) ≤ (a.u.length + 1 : Nat); omega, Int.le_refl _⟩
theorem RootsIn.rotate {a : Au} (h : RootsIn a) (t k : Int) : RootsIn (a.rotate t k) := by
  intro c hc
  have := h c hc
  have := rotate_n a t k
  omega
theorem Inv.rootsIn {s : Au × Int} (h : Inv s) : RootsIn s.1 := fun c hc => ⟨h.r1 c hc, h.r2 c hc⟩

theorem filter_take {l : List Ce} {j : Nat} {d : Ce} (p : Ce → Bool) (hd : l[j]? = some d) : (l.take (j + 1)).filter p = if p d then (l.take j).filter p ++ [d] else (l.take j).filter p := by
  obtain ⟨hlt, e⟩ := List.getElem?_eq_some_iff.1 hd
  rw [List.take_succ_eq_append_getElem hlt, e, List.filter_append]
  simp only [List.filter_cons, List.filter_nil]
  split <;> simp

/-- An authority, what it gave out, and one certificate more, in memory. -/
structure OSt (wb : World) (B1 : Nat) (w : World) (g : Nat) (vG : Value) (b : Nat) (vU : Value) (a : Au) (A : Option Addr) (n co : Nat) (ls : List Ce) (px : Nat) (c : Ce) : Prop where
  au : AuIs B1 w g vG b vU a
  out : w.ownsRow B1 24 5 (.slice A n co) n (ls.flatMap ceCells)
  bx : Blk w px 24 (ceCells c).toArray
  bel : Below wb.heap.size wb w
  lo : wb.heap.size ≤ B1
  hf : ∀ i, Foot g vG b vU i → i < px
  ho : ∀ i, (Value.slice A n co).ownBlock = some i → i < px

section
variable {wb : World} {B1 : Nat} {w w' : World} {g : Nat} {vG : Value} {b : Nat} {vU : Value} {a : Au} {A : Option Addr} {n co : Nat} {ls : List Ce} {px : Nat} {c : Ce}
theorem OSt.below (h : OSt wb B1 w g vG b vU a A n co ls px c) (hb : Below w.heap.size w w') : OSt wb B1 w' g vG b vU a A n co ls px c :=
  ⟨h.au.below hb, own_below h.out hb, h.bx.below hb h.bx.lt, below_next h.bel hb, h.lo, h.hf, h.ho⟩
theorem OSt.foot (h : OSt wb B1 w g vG b vU a A n co ls px c) {i : Nat} (hi : Foot g vG b vU i) : wb.heap.size ≤ i := Nat.le_trans h.lo (h.au.foot_lt hi).1
theorem OSt.chg {F : Nat → Prop} (h : OSt wb B1 w g vG b vU a A n co ls px c) (ch : Chg F w w') (hF : ∀ i, F i → px < i) : OSt wb B1 w' g vG b vU a A n co ls px c := by
  have h0 : wb.heap.size ≤ px := by have := h.foot (.inl rfl); have := h.hf g (.inl rfl); omega
  refine ⟨h.au.chg ch (fun i hi e => ?_), own_chg h.out ch (fun i hi e => ?_), h.bx.chg ch (fun e => ?_), h.bel.trans (ch.below (fun i hi => ?_) h.bel.size), h.lo, h.hf, h.ho⟩
  · have := h.hf i hi; have := hF i e; omega
  · have := h.ho i hi; have := hF i e; omega
  · have := hF px e; omega
  · have := hF i hi; omega
theorem OSt.cells (h : OSt wb B1 w g vG b vU a A n co ls px c) : w.cell? ⟨px, 0, none⟩ = some (.int .i64 c.s) ∧ w.cell? ⟨px, 1, none⟩ = some (.int .i64 c.r) ∧ w.cell? ⟨px, 2, none⟩ = some (.int .i64 c.v) ∧ w.cell? ⟨px, 3, none⟩ = some (.int .i64 c.f) ∧ w.cell? ⟨px, 4, none⟩ = some (.int .i64 c.t) :=
  ⟨h.bx.cell 0, h.bx.cell 1, h.bx.cell 2, h.bx.cell 3, h.bx.cell 4⟩
end
/-- An authority behind a rotation, what was fine ahead of it, the roots, and one certificate more, in memory. -/
structure OvSt (wb : World) (B1 : Nat) (w : World) (g : Nat) (vG : Value) (b : Nat) (vU : Value) (a : Au) (AF : Option Addr) (fn cf : Nat) (FL : List Ce) (AR : Option Addr) (rn cr : Nat) (R : List Int) (px : Nat) (c : Ce) : Prop where
  au : AuIs B1 w g vG b vU a
  fi : w.ownsRow (px + 1) 24 5 (.slice AF fn cf) fn (FL.flatMap ceCells)
  ro : w.ownsRow (px + 1) 3 1 (.slice AR rn cr) rn (R.map (Value.int .i64))
  bx : Blk w px 24 (ceCells c).toArray
  bel : Below wb.heap.size wb w
section
variable {wb : World} {B1 : Nat} {w w' : World} {g : Nat} {vG : Value} {b : Nat} {vU : Value} {a : Au} {AF : Option Addr} {fn cf : Nat} {FL : List Ce} {AR : Option Addr} {rn cr : Nat} {R : List Int} {px : Nat} {c : Ce}
theorem OvSt.below (h : OvSt wb B1 w g vG b vU a AF fn cf FL AR rn cr R px c) (hb : Below w.heap.size w w') : OvSt wb B1 w' g vG b vU a AF fn cf FL AR rn cr R px c :=
  ⟨h.au.below hb, own_below h.fi hb, own_below h.ro hb, h.bx.below hb h.bx.lt, below_next h.bel hb⟩
theorem OvSt.step {F : Nat → Prop} {vG' vU' : Value} {a' : Au} (h : OvSt wb B1 w g vG b vU a AF fn cf FL AR rn cr R px c) (au : AuIs B1 w' g vG' b vU' a') (ch : Chg F w w') (hF : ∀ i, F i → wb.heap.size ≤ i ∧ i < px) : OvSt wb B1 w' g vG' b vU' a' AF fn cf FL AR rn cr R px c := by
  refine ⟨au, own_chg h.fi ch (fun i hi e => ?_), own_chg h.ro ch (fun i hi e => ?_), h.bx.chg ch (fun e => ?_), h.bel.trans (ch.below (fun i hi => (hF i hi).1) h.bel.size)⟩
  · have := (hF i e).2; have := (h.fi.lt i hi).1; omega
  · have := (hF i e).2; have := (h.ro.lt i hi).1; omega
  · have := (hF px e).2; omega
end
/-- Those of a list that are OK at a tick. -/
def okAt (a : Au) (t : Int) (l : List Ce) : List Ce := l.filter (fun c => decide (a.check c c.v t = 0))
def OverRel (wb : World) (B1 : Nat) (g : Nat) (vG : Value) (b : Nat) (vU : Value) (a : Au) (A : Option Addr) (n co : Nat) (ls : List Ce) (px : Nat) (c : Ce) (t : Int) (v i : Value) (wr : World) : Prop :=
  ∃ j : Nat, j ≤ n ∧ i = .int .i64 j ∧ wr.ownsRow (px + 1) 24 5 v (okAt a t (ls.take j)).length ((okAt a t (ls.take j)).flatMap ceCells) ∧ OSt wb B1 wr g vG b vU a A n co ls px c ∧ px + 1 ≤ wr.heap.size
theorem okAt_yes {a : Au} {t : Int} {l : List Ce} {j : Nat} {d : Ce} (hd : l[j]? = some d) (h : a.check d d.v t = 0) : okAt a t (l.take (j + 1)) = okAt a t (l.take j) ++ [d] := by
  unfold okAt
  rw [filter_take _ hd, if_pos (decide_eq_true h)]
theorem okAt_no {a : Au} {t : Int} {l : List Ce} {j : Nat} {d : Ce} (hd : l[j]? = some d) (h : ¬ a.check d d.v t = 0) : okAt a t (l.take (j + 1)) = okAt a t (l.take j) := by
  unfold okAt
  rw [filter_take _ hd, if_neg (by simpa using h)]
theorem okAt_len (a : Au) (t : Int) (l : List Ce) (j : Nat) : (okAt a t (l.take j)).length ≤ j := by
  unfold okAt
  exact Nat.le_trans (List.length_filter_le _ _) (by simp; omega)

theorem blk5 {w : World} {px : Nat} {c : Ce} (h : Blk w px 24 (ceCells c).toArray) : w.cell? ⟨px, 0, none⟩ = some (.int .i64 c.s) ∧ w.cell? ⟨px, 1, none⟩ = some (.int .i64 c.r) ∧ w.cell? ⟨px, 2, none⟩ = some (.int .i64 c.v) ∧ w.cell? ⟨px, 3, none⟩ = some (.int .i64 c.f) ∧ w.cell? ⟨px, 4, none⟩ = some (.int .i64 c.t) :=
  ⟨h.cell 0, h.cell 1, h.cell 2, h.cell 3, h.cell 4⟩

set_option maxRecDepth 100000 in
set_option maxHeartbeats 8000000 in
theorem over_walk (a : Option Addr) (len cap : Nat) (zs : List Int) (over later : Int) (w : World) (hr : IsRow w a len cap zs)
    (h1 : -9223372036854775808 ≤ over) (h2 : over ≤ 9223372036854775807) (h3 : -9223372036854775808 ≤ later) (h4 : later ≤ 9223372036854775807) :
    Calls Try.prog 4 #[.slice a len cap, .int .i64 over, .int .i64 later] w fun e w' => e = .returned (.bool true) ∧ Below w.heap.size w w' := by
  have HR := Lib.hid hr
  clear hr
  go_enter Try.func4, Try.ntmps4
  go_wp2_with fail
  refine (acts_any a len cap zs _ HR.out).mono ?_
  rintro e wa ⟨v, l, rfl, good, own, bel⟩
  obtain ⟨A, ca, rfl⟩ := own_form own
  have GOOD := Lib.hid good
  have RDA := Lib.hid (RdActs.of_own own)
  have BA := Lib.hid bel
  clear good own bel HR
  go_wp2_with fail
  refine (played_any A ca l _ RDA.out GOOD.out).mono ?_
  rintro e w1 ⟨g, vG, b, vU, vO, rfl, is⟩
  obtain ⟨AO, co, rfl⟩ := own_form is.out
  have IS := Lib.hid is
  have B1 := Lib.hid (below_next BA.out is.bel)
  obtain ⟨INV0, FINE0⟩ := prun_is GOOD.out
  have INV := Lib.hid INV0
  have FINE := Lib.hid FINE0
  have hfew := GOOD.out.few
  have ht0 := INV0.t0
  have ht1 := INV0.t1
  have hfl := FINE0.fl
  have hfu := FINE0.fu
  clear is INV0 FINE0 GOOD RDA
  generalize prun l = s at *
  obtain ⟨n, hn⟩ : ∃ n, n = s.1.l.length := ⟨_, rfl⟩
  have OUT : Hid (w1.ownsRow wa.heap.size 24 5 (.slice AO n co) n (s.1.l.flatMap ceCells)) := by have h := IS.out.out; rw [← hn] at h; exact h
  have HN := Lib.hid hn
  have hn16 : n ≤ 16 := by omega
  rw [← hn]
  clear hn
  go_wp2_with fail
  refine (around_some over 51 _ h1 h2 (by omega) (by omega)).mono ?_
  rintro e w' ⟨k, hk0, hk1, rfl, rfl⟩
  go_wp2_with fail
  refine (around_some later 81 _ h3 h4 (by omega) (by omega)).mono ?_
  rintro e w' ⟨la, hl0, hl1, rfl, rfl⟩
  go_wp2_with fail
  have hat0 : s.2 ≤ s.2 + la := by omega
  have hat1 : s.2 + la ≤ s.2 + 80 := by omega
  generalize s.2 + la = at_ at *
  refine (issue_any 1 s.2 1000 IS.out.au IS.out.bel.size (by omega) ht0 (by omega) (by omega) (by omega)).mono ?_
  rintro e w2 ⟨vG2, rfl, au2, ch2, nn2⟩
  obtain ⟨lo, hlo⟩ : ∃ lo, lo = s.1.cert 1 s.2 1000 := ⟨_, rfl⟩
  have HLO := Lib.hid hlo
  rw [← hlo]
  have O2 := IS.out.out5 ch2
  have AU2 := Lib.hid au2
  have B2 : Hid (Below w.heap.size w w2) := B1.out.trans (ch2.below (B := w.heap.size) (by
    have hz := BA.out.size
    rintro i (rfl | e)
    · have := IS.out.au.hg; omega
    · have := (IS.out.au.own.lt i e).1; omega) B1.out.size)
  rw [← HN.out] at O2
  have O2 := Lib.hid O2
  have LOB : Hid (w.heap.size ≤ wa.heap.size) := BA.out.size
  clear au2 ch2 nn2 hlo IS OUT B1 BA
  go_wp2_with fail
  have ST : Hid (OSt w wa.heap.size (w2.alloc (.cells #[.int .i64 lo.s, .int .i64 lo.r, .int .i64 lo.v, .int .i64 lo.f, .int .i64 lo.t] 24)) g vG2 b vU (s.1.issue 1 s.2 1000) AO n co s.1.l w2.heap.size lo) :=
    ⟨AU2.out.alloc _, O2.out.alloc _, Blk.new _ _ _, below_alloc B2.out _, LOB.out, fun i hi => (AU2.out.foot_lt hi).2, fun i hi => (O2.out.lt i hi).2⟩
  have HPX : Hid (w2.heap.size + 1 ≤ (w2.alloc (.cells #[.int .i64 lo.s, .int .i64 lo.r, .int .i64 lo.v, .int .i64 lo.f, .int .i64 lo.t] 24)).heap.size) := by show _ ≤ _; simp
  clear AU2 O2 B2 LOB
  generalize w2.alloc (.cells #[.int .i64 lo.s, .int .i64 lo.r, .int .i64 lo.v, .int .i64 lo.f, .int .i64 lo.t] 24) = w3 at *
  generalize w2.heap.size = px at *
  have RIN := Lib.hid (INV.out.rootsIn.issue 1 s.2 1000)
  go_loopw [13, 14] (fun v i wr => OverRel w wa.heap.size g vG2 b vU (s.1.issue 1 s.2 1000) AO n co s.1.l px lo s.2 v i wr) (fun _ i _ => n - (intOf i).toNat)
  case atStart => exact ⟨0, Nat.zero_le _, rfl, World.ownsRow_nil _ _ _ _, ST.out, HPX.out⟩
  case round =>
    clear ST HPX
    obtain ⟨j, hj, rfl, own, st, hpx⟩ := hrel
    have ST := Lib.hid st
    have OWN := Lib.hid own
    have HPX := Lib.hid hpx
    clear own st hpx
    by_cases hlt : j < n
    · obtain ⟨d, hd⟩ : ∃ d, s.1.l[j]? = some d := ⟨_, List.getElem?_eq_getElem (by have := HN.out; omega)⟩
      obtain ⟨gg, rfl, _, y0, y1, y2, y3, y4⟩ := out_at HN.out ST.out.out hd
      have MD := INV.out.mem (List.mem_of_getElem? hd)
      have hds1 : -9223372036854775808 ≤ d.s := by omega
      have hds2 : d.s ≤ 9223372036854775807 := by have := HN.out; omega
      have DWN : Hid (∀ w5, Below wr.heap.size wr.drew w5 → OSt w wa.heap.size w5 g vG2 b vU (s.1.issue 1 s.2 1000) (some ⟨gg, 0, none⟩) n co s.1.l px lo) := fun w5 h5 => ST.out.below (below_drew0 h5)
      have NCH : Hid (∀ w5, Below wr.heap.size wr.drew w5 → (fun w' : World => w'.cell? ⟨gg, j * 5, none⟩ = some (.int .i64 d.s) ∧ w'.cell? ⟨gg, j * 5 + 1, none⟩ = some (.int .i64 d.r) ∧ w'.cell? ⟨gg, j * 5 + 2, none⟩ = some (.int .i64 d.v) ∧ w'.cell? ⟨gg, j * 5 + 3, none⟩ = some (.int .i64 d.f) ∧ w'.cell? ⟨gg, j * 5 + 4, none⟩ = some (.int .i64 d.t)) w5) := by
        intro w5 h5
        obtain ⟨g9, e9, _, x0, x1, x2, x3, x4⟩ := out_at HN.out (DWN.out w5 h5).out hd
        injection e9 with e9
        injection e9 with e9
        subst e9
        exact ⟨x0, x1, x2, x3, x4⟩
      have B0 : Hid (Below wr.heap.size wr.drew wr.drew) := Below.refl _ _
      have WR1 : (0 : Int) ≤ (j : Int) := by omega
      have WR2 : (j : Int) < (n : Int) := by omega
      have HL := Lib.hid (okAt_len (s.1.issue 1 s.2 1000) s.2 s.1.l j)
      have ROOT : Hid ((s.1.issue 1 s.2 1000).gave d = true → 1 ≤ d.r ∧ d.r ≤ (s.1.issue 1 s.2 1000).n) := RIN.out.gave
      obtain ⟨q, hq⟩ : ∃ q, (s.1.issue 1 s.2 1000).check d d.v s.2 = q := ⟨_, rfl⟩
      have HQ := Lib.hid hq
      have Y0 := fun (h : q = 0) => okAt_yes (a := s.1.issue 1 s.2 1000) (t := s.2) hd (hq.trans h)
      have N0 := fun (h : ¬ q = 0) => okAt_no (a := s.1.issue 1 s.2 1000) (t := s.2) hd (fun e => h (hq.symm.trans e))
      have YES := Lib.hid Y0
      have NO := Lib.hid N0
      clear MD hd hq Y0 N0
      go_wp2_with fail
      go_region_held3 (fun w' => w'.cell? ⟨gg, j * 5, none⟩ = some (.int .i64 d.s) ∧ w'.cell? ⟨gg, j * 5 + 1, none⟩ = some (.int .i64 d.r) ∧ w'.cell? ⟨gg, j * 5 + 2, none⟩ = some (.int .i64 d.v) ∧ w'.cell? ⟨gg, j * 5 + 3, none⟩ = some (.int .i64 d.f) ∧ w'.cell? ⟨gg, j * 5 + 4, none⟩ = some (.int .i64 d.t))
        (exact NCH.out _ (Hid.out ‹Hid (Below wr.heap.size wr.drew _)›))
        ((go_at_call 9; (with_reducible refine (check_any d d.v s.2 (DWN.out _ B0.out).au hds1 hds2 ROOT.out).mono ?_); rintro e w5 ⟨he, l5⟩; rw [HQ.out] at he; subst he; have B1 : Hid (Below wr.heap.size wr.drew w5) := below_next (a := wr.drew) B0.out l5; clear l5 B0))
      rename_i hHeld
      obtain ⟨x0, x1, x2, x3, x4⟩ := hHeld
      clear NCH y0 y1 y2 y3 y4
      have ST5 := Lib.hid (DWN.out w5 B1.out)
      have OW5 := Lib.hid (own_below OWN.out (below_drew0 B1.out))
      have HPX5 : Hid (px + 1 ≤ w5.heap.size) := Nat.le_trans HPX.out B1.out.size
      clear ST OWN HPX DWN B1
      by_cases hq0 : q = 0
      · have e1 : (q == 0) = true := by simpa using hq0
        have HF := Lib.hid (YES.out hq0)
        have hl2 := HL.out
        clear hq0 YES NO HQ HL
        generalize okAt (s.1.issue 1 s.2 1000) s.2 (s.1.l.take j) = FL at *
        have NC : Hid (∀ j u, (ceCells d)[j]? = some u → (w5.alloc (.cells #[.int .i64 d.s, .int .i64 d.r, .int .i64 d.v, .int .i64 d.f, .int .i64 d.t] 24)).cell? ((⟨w5.heap.size, 0, none⟩ : Addr).add j) = some u) := new_cells w5 24 (ceCells d)
        have OWA := Lib.hid (OW5.out.alloc (.cells #[.int .i64 d.s, .int .i64 d.r, .int .i64 d.v, .int .i64 d.f, .int .i64 d.t] 24))
        have STA := Lib.hid (ST5.out.below (below_alloc (Below.refl _ _) (.cells #[.int .i64 d.s, .int .i64 d.r, .int .i64 d.v, .int .i64 d.f, .int .i64 d.t] 24)))
        have HB : Hid (px + 1 ≤ (w5.alloc (.cells #[.int .i64 d.s, .int .i64 d.r, .int .i64 d.v, .int .i64 d.f, .int .i64 d.t] 24)).heap.size) := by
          have := HPX5.out
          show _ ≤ _
          rw [World.size_alloc]
          omega
        go_wp2_with (at_builtin; refine wpList_pushn _ rfl (.tmp 57) (.tmp 62) 26 24 (by rfl) Try.underlying26 _ 5 40 info24 rfl (by omega) (by omega) (px + 1) u13 FL.length (FL.flatMap ceCells) (by rfl) OWA.out (by omega) ⟨w5.heap.size, 0, none⟩ 1 (ceCells d) rfl (by rfl) NC.out (ceCells_one _) HB.out ?_; intro v6 w6 own6 ch6 nn6; have O6 := Lib.hid own6; have C6 := Lib.hid ch6; clear own6 ch6 nn6)
        refine ⟨⟨j + 1, by omega, by go_num, ?_, STA.out.chg C6.out (fun i hi => (OWA.out.lt i hi).1), Nat.le_trans HB.out C6.out.size⟩, by simp [intOf]; omega⟩
        rw [HF.out, List.length_append, List.length_singleton, List.flatMap_append]
        have h := O6.out
        simpa using h
      · have e1 : (q == 0) = false := by simpa using hq0
        have HF := Lib.hid (NO.out hq0)
        clear hq0 YES NO HQ HL
        go_wp2_with fail
        exact ⟨⟨j + 1, by omega, by go_num, by rw [HF.out]; exact OW5.out, ST5.out, HPX5.out⟩, by simp [intOf]; omega⟩
    · obtain rfl : j = n := by omega
      have etk : s.1.l.take j = s.1.l := by rw [HN.out, List.take_length]
      rw [etk] at OWN
      clear etk hlt hj O2
      obtain ⟨FL, hFL⟩ : ∃ FL, FL = okAt (s.1.issue 1 s.2 1000) s.2 s.1.l := ⟨_, rfl⟩
      rw [← hFL] at OWN
      obtain ⟨fn, hfn⟩ : ∃ fn, fn = FL.length := ⟨_, rfl⟩
      have hfn16 : fn ≤ 16 := by
        have := okAt_len (s.1.issue 1 s.2 1000) s.2 s.1.l j
        rw [HN.out, List.take_length, ← hFL, ← hfn] at this
        have := HN.out
        omega
      rw [← hfn] at OWN
      have HFL := Lib.hid hFL
      have HFN := Lib.hid hfn
      clear hFL hfn
      obtain ⟨AF, cf, rfl⟩ := own_form OWN.out
      have NS : Hid (okAt (s.1.issue 1 s.2 1000) s.2 s.1.l = FL) := HFL.out.symm
      go_wp2_with fail
      refine (roots_any at_ ST.out.au).mono ?_
      rintro e w5 ⟨v5, rfl, own5, l5⟩
      obtain ⟨R, hR⟩ : ∃ R, R = (s.1.issue 1 s.2 1000).roots at_ := ⟨_, rfl⟩
      obtain ⟨rn, hrn⟩ : ∃ rn, rn = R.length := ⟨_, rfl⟩
      rw [← hR, ← hrn] at own5
      have few5 : rn ≤ 1000 := by
        rw [hrn, hR]
        refine Nat.le_trans (rootsTo_len (s.1.issue 1 s.2 1000) at_ (s.1.issue 1 s.2 1000).n) ?_
        show s.1.u.length + 1 ≤ 1000
        omega
      obtain ⟨AR, cr, rfl⟩ := own_form own5
      have HRR := Lib.hid hR
      have HRN := Lib.hid hrn
      have FT : Hid (∀ i, Foot g vG2 b vU i → w.heap.size ≤ i ∧ i < px) := fun i hi => ⟨ST.out.foot hi, ST.out.hf i hi⟩
      have OV : Hid (OvSt w wa.heap.size w5 g vG2 b vU (s.1.issue 1 s.2 1000) AF fn cf FL AR rn cr R px lo) :=
        ⟨ST.out.au.below l5, own_below OWN.out l5, own_base own5 HPX.out, ST.out.bx.below l5 ST.out.bx.lt, below_next ST.out.bel l5⟩
      clear own5 l5 hR hrn OWN ST HPX
      go_wp2_with fail
      refine (rotate_any s.2 k OV.out.au (Nat.le_trans OV.out.au.hg (Nat.le_of_lt OV.out.au.blk.lt)) (show s.1.u.length < 1000 by omega) FINE.out.up ht0 (by omega) hk0 (by omega)).mono ?_
      rintro e w6 ⟨vU2, rfl, au6, ch6, _⟩
      have OV6 := Lib.hid (OV.out.step au6 ch6 (fun i hi => FT.out i (by rcases hi with h | h; exact .inl h; exact .inr (.inr (.inr h)))))
      obtain ⟨nn, hnn⟩ : ∃ nn, nn = ((s.1.issue 1 s.2 1000).rotate s.2 k).n := ⟨_, rfl⟩
      rw [← hnn]
      have HNN := Lib.hid hnn
      clear au6 ch6 OV hnn
      go_wp2_with fail
      refine (issue_any 2 s.2 1000 OV6.out.au (Nat.le_trans OV6.out.au.hg (Nat.le_of_lt OV6.out.au.blk.lt)) (by have := HN.out; simp [Au.rotate, Au.issue]; omega) ht0 (by omega) (by omega) (by omega)).mono ?_
      rintro e w7 ⟨vG3, rfl, au7, ch7, _⟩
      have OV7 := Lib.hid (OV6.out.step au7 ch7 (fun i hi => FT.out i (by rcases hi with h | h; exact .inl h; exact .inr (.inl h))))
      obtain ⟨⟨fs, fR, fv, ff, ft⟩, hfr⟩ : ∃ fr, fr = ((s.1.issue 1 s.2 1000).rotate s.2 k).cert 2 s.2 1000 := ⟨_, rfl⟩
      rw [← hfr]
      have HFR := Lib.hid hfr
      obtain rfl : fR = (nn : Int) := by
        have h := congrArg Ce.r hfr
        rw [HNN.out]
        exact h
      have hfrs : fs = (s.1.l.length : Int) + 1 + 1 := by
        have h := congrArg Ce.s hfr
        simpa [Au.cert, Au.rotate, Au.issue] using h
      have hfrs1 : -9223372036854775808 ≤ fs := by omega
      have hfrs2 : fs ≤ 9223372036854775807 := by omega
      clear au7 ch7 OV6 hfr FT hfrs
      go_wp2_with fail
      have OV8 := Lib.hid (OV7.out.below (below_alloc (Below.refl _ _) (.cells #[.int .i64 fs, .int .i64 nn, .int .i64 fv, .int .i64 ff, .int .i64 ft] 24)))
      have BF8 : Hid (Blk (w7.alloc (.cells #[.int .i64 fs, .int .i64 nn, .int .i64 fv, .int .i64 ff, .int .i64 ft] 24)) w7.heap.size 24 (ceCells ⟨fs, nn, fv, ff, ft⟩).toArray) := Blk.new _ _ _
      have OK1 := Lib.hid (fresh_ok INV.out k (Int.le_refl _) (show s.2 ≤ s.2 + 80 by omega))
      have OK2 := Lib.hid (fresh_ok INV.out k hat0 hat1)
      have OK3 := Lib.hid (fresh_else s.1 s.2 k)
      have efr : s.1.fresh s.2 k = ⟨fs, nn, fv, ff, ft⟩ := HFR.out.symm
      have eov : s.1.over s.2 k = ((s.1.issue 1 s.2 1000).rotate s.2 k).issue 2 s.2 1000 := rfl
      have LONG := Lib.hid (long_ok INV.out k hat0 hat1)
      have FIN := Lib.hid (fun c (hc : c ∈ s.1.l) (h : (s.1.issue 1 s.2 1000).check c c.v s.2 = 0) => fine_ok INV.out k hat0 hc h)
      have ROOT3 : Hid (RootsIn (((s.1.issue 1 s.2 1000).rotate s.2 k).issue 2 s.2 1000)) := (RIN.out.rotate s.2 k).issue 2 s.2 1000
      rw [efr, eov] at OK1 OK2 OK3
      rw [eov] at LONG FIN
      rw [← HLO.out] at LONG
      clear OV7 efr eov RIN
      generalize w7.alloc (.cells #[.int .i64 fs, .int .i64 nn, .int .i64 fv, .int .i64 ff, .int .i64 ft] 24) = w8 at *
      generalize w7.heap.size = pf at *
      generalize ((s.1.issue 1 s.2 1000).rotate s.2 k).issue 2 s.2 1000 = a3 at *
      obtain ⟨z0, z1, z2, z3, z4⟩ := blk5 BF8.out
      refine (check_any ⟨fs, nn, fv, ff, ft⟩ 2 s.2 OV8.out.au hfrs1 hfrs2 ROOT3.out.gave).mono ?_
      rintro e w9 ⟨he, l9⟩
      rw [OK1.out] at he
      subst he
      have OV9 := Lib.hid (OV8.out.below l9)
      have BF9 := Lib.hid (BF8.out.below l9 BF8.out.lt)
      clear z0 z1 z2 z3 z4 l9 OV8 BF8 OK1
      obtain ⟨z0, z1, z2, z3, z4⟩ := blk5 BF9.out
      go_wp2_with fail
      refine (check_any ⟨fs, nn, fv, ff, ft⟩ 2 at_ OV9.out.au hfrs1 hfrs2 ROOT3.out.gave).mono ?_
      rintro e w10 ⟨he, l9⟩
      rw [OK2.out] at he
      subst he
      have OV10 := Lib.hid (OV9.out.below l9)
      have BF10 := Lib.hid (BF9.out.below l9 BF9.out.lt)
      clear z0 z1 z2 z3 z4 l9 OV9 BF9 OK2
      obtain ⟨z0, z1, z2, z3, z4⟩ := blk5 BF10.out
      go_wp2_with fail
      refine (check_any ⟨fs, nn, fv, ff, ft⟩ 1 s.2 OV10.out.au hfrs1 hfrs2 ROOT3.out.gave).mono ?_
      rintro e w11 ⟨he, l9⟩
      rw [OK3.out] at he
      subst he
      have OV11 := Lib.hid (OV10.out.below l9)
      clear z0 z1 z2 z3 z4 l9 OV10 BF10 OK3
      obtain ⟨z0, z1, z2, z3, z4⟩ := blk5 OV11.out.bx
      go_wp2_with fail
      have hlos : lo.s = (s.1.l.length : Int) + 1 := by rw [HLO.out]; rfl
      have hlos1 : -9223372036854775808 ≤ lo.s := by omega
      have hlos2 : lo.s ≤ 9223372036854775807 := by omega
      clear hlos
      refine (check_any lo 1 at_ OV11.out.au hlos1 hlos2 ROOT3.out.gave).mono ?_
      rintro e w12 ⟨rfl, l9⟩
      have OV12 := Lib.hid (OV11.out.below l9)
      clear z0 z1 z2 z3 z4 l9 OV11 hlos1 hlos2
      obtain ⟨qq, hqq⟩ : ∃ qq, qq = a3.check lo 1 at_ := ⟨_, rfl⟩
      rw [← hqq]
      have hl := LONG.out
      rw [← hqq] at hl
      have HM : Hid (∀ c ∈ FL, c ∈ s.1.l ∧ (a3.check c c.v at_ = 0 ↔ at_ < s.2 + k ∧ at_ < c.t ∧ c.r ∈ R)) := by
        intro c hc
        rw [HFL.out] at hc
        unfold okAt at hc
        rw [List.mem_filter] at hc
        have h := FIN.out c hc.1 (by simpa using hc.2)
        rw [← HRR.out] at h
        exact ⟨hc.1, h⟩
      clear hqq LONG FIN HFL HRR NS HFR
      rcases hA : decide (at_ < s.2 + k) with _ | _
      focus
        have hq : (qq == 0) = false := by
          simp at hA ⊢
          rw [hl]
          omega
      rotate_left 1
      focus
        have hq : (qq == 0) = true := by
          simp at hA ⊢
          rw [hl]
          omega
      all_goals
        have HA := Lib.hid hA
        clear hl
        go_wp2_with fail
        clear hq
        go_loopw [18] (fun i wr => ∃ j : Nat, j ≤ fn ∧ i = .int .i64 j ∧ Below w12.heap.size w12 wr) (fun i _ => fn - (intOf i).toNat)
        case atStart => exact ⟨0, Nat.zero_le _, rfl, Below.refl _ _⟩
        case round =>
          obtain ⟨j2, hj2, rfl, bel⟩ := hrel
          have OVR := Lib.hid (OV12.out.below bel)
          have BR := Lib.hid bel
          clear bel
          by_cases hlt : j2 < fn
          · obtain ⟨d, hd⟩ : ∃ d, FL[j2]? = some d := ⟨_, List.getElem?_eq_getElem (by have := HFN.out; omega)⟩
            obtain ⟨gf, rfl, _, y0, y1, y2, y3, y4⟩ := out_at HFN.out OVR.out.fi hd
            obtain ⟨hdm, hdk⟩ := HM.out d (List.mem_of_getElem? hd)
            have MD := INV.out.mem hdm
            have hds1 : -9223372036854775808 ≤ d.s := by omega
            have hds2 : d.s ≤ 9223372036854775807 := by omega
            have HDK := Lib.hid hdk
            clear hd hdm hdk MD
            go_wp2_with fail
            have OVA := Lib.hid (OVR.out.below (below_alloc (Below.refl _ _) (.cells #[.int .i64 d.s, .int .i64 d.r, .int .i64 d.v, .int .i64 d.f, .int .i64 d.t] 24)))
            have BXA : Hid (Blk (wr.alloc (.cells #[.int .i64 d.s, .int .i64 d.r, .int .i64 d.v, .int .i64 d.f, .int .i64 d.t] 24)) wr.heap.size 24 (ceCells d).toArray) := Blk.new _ _ _
            have BRA := Lib.hid (below_alloc BR.out (.cells #[.int .i64 d.s, .int .i64 d.r, .int .i64 d.v, .int .i64 d.f, .int .i64 d.t] 24))
            clear y0 y1 y2 y3 y4 OVR BR
            generalize wr.alloc (.cells #[.int .i64 d.s, .int .i64 d.r, .int .i64 d.v, .int .i64 d.f, .int .i64 d.t] 24) = wc at *
            generalize wr.heap.size = pc at *
            go_loopw [20, 21] (fun v i w' => ∃ j : Nat, j ≤ rn ∧ i = .int .i64 j ∧ v = .bool (decide (d.r ∈ R.take j)) ∧ ∃ q, w' = wc.drewN q) (fun _ i _ => rn - (intOf i).toNat)
            case atStart => exact ⟨0, Nat.zero_le _, rfl, by simp, 0, rfl⟩
            case round =>
              obtain ⟨j3, hj3, rfl, rfl, q, rfl⟩ := hrel
              by_cases hlt3 : j3 < rn
              · obtain ⟨x, hx⟩ : ∃ x, R[j3]? = some x := ⟨_, List.getElem?_eq_getElem (by have := HRN.out; omega)⟩
                obtain ⟨g7, c7', e7⟩ := own_some OVA.out.ro (by omega)
                injection e7 with e7 _ e7'
                subst e7
                subst e7'
                have x0 : wc.cell? ⟨g7, j3, none⟩ = some (.int .i64 x) := by
                  rw [OVA.out.ro.cellAt _ (by omega), List.getElem?_map, hx]
                  rfl
                obtain ⟨_, z1, _⟩ := blk5 BXA.out
                have htk := take_mem_int d.r hx
                clear hx
                rcases hb : decide (d.r ∈ R.take j3) with _ | _
                · rw [hb, Bool.false_or] at htk
                  have HT := Lib.hid htk
                  clear htk hb
                  go_wp2_with fail
                  go_quiet (fail)
                  go_wp2_with fail
                  exact ⟨⟨j3 + 1, by omega, by go_num, by rw [HT.out], _, rfl⟩, by simp [intOf]; omega⟩
                · rw [hb, Bool.true_or] at htk
                  have HT := Lib.hid htk
                  clear htk hb
                  go_wp2_with fail
                  go_quiet (fail)
                  go_wp2_with fail
                  exact ⟨⟨j3 + 1, by omega, by go_num, by rw [HT.out], _, rfl⟩, by simp [intOf]; omega⟩
              · obtain rfl : j3 = rn := by omega
                have etk : R.take j3 = R := by rw [HRN.out, List.take_length]
                rw [etk]
                clear etk
                have OVB := Lib.hid (OVA.out.below (below_drewN (Below.refl _ _) q))
                have BXB := Lib.hid (BXA.out.drewN q)
                have BRB := Lib.hid (below_drewN BRA.out q)
                clear OVA BXA BRA hlt3 hj3
                generalize wc.drewN q = wd at *
                obtain ⟨z0, z1, z2, z3, z4⟩ := blk5 BXB.out
                go_wp2_with fail
                refine (check_any d d.v at_ OVB.out.au hds1 hds2 ROOT3.out.gave).mono ?_
                rintro e we ⟨rfl, l9⟩
                have BRE := Lib.hid (below_next BRB.out l9)
                have BXE := Lib.hid (BXB.out.below l9 BXB.out.lt)
                clear z0 z1 z2 z3 z4 l9 OVB BXB BRB
                obtain ⟨z0, z1, z2, z3, z4⟩ := blk5 BXE.out
                obtain ⟨q3, hq3⟩ : ∃ q3, q3 = a3.check d d.v at_ := ⟨_, rfl⟩
                rw [← hq3]
                have hk3 := HDK.out
                rw [← hq3] at hk3
                clear hq3 HDK z0 z1 z2 z3
                have hq : (q3 == 0) = (decide (at_ < s.2 + k) && (decide (at_ < d.t) && decide (d.r ∈ R))) := by
                  rw [Bool.eq_iff_iff]
                  simp only [beq_iff_eq, Bool.and_eq_true, decide_eq_true_eq]
                  exact hk3
                clear hk3
                rw [HA.out] at hq
                rcases hB : decide (at_ < d.t) with _ | _ <;> rcases hW : decide (d.r ∈ R) with _ | _
                all_goals
                  rw [hB, hW] at hq
                  simp only [Bool.and_true, Bool.and_false, Bool.true_and, Bool.false_and] at hq
                  clear hW
                  go_wp2_with fail
                  exact ⟨⟨j2 + 1, by omega, by go_num, BRE.out⟩, by simp [intOf]; omega⟩
          · obtain rfl : j2 = fn := by omega
            have B9 := Lib.hid OVR.out.bel
            clear hlt hj2 OV12 OVR BR
            go_wp2_with fail
            refine (lives_any _).mono ?_
            rintro e wz ⟨rfl, lz⟩
            go_wp2_with fail
            go_ret
            exact ⟨rfl, below_next B9.out lz⟩

end Go.Proofs.Ytjknlijikojbmaa
