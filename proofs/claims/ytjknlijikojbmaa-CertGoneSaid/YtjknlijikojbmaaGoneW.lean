/- CertGone's walk: what is revoked is of no use from then on, and nothing else is touched. No conditions. -/
import Derived.Test.YtjknlijikojbmaaLaw
namespace Go.Proofs.Ytjknlijikojbmaa
open Go.RowKit

theorem RdActs.mono {w : World} {B B' : Nat} {A : Option Addr} {n : Nat} {l : List Ac} (h : RdActs w B A n l) (hB : B ≤ B') : RdActs w B' A n l := by
  refine ⟨h.1, fun i x hx => ?_⟩
  obtain ⟨g, e, hg, c⟩ := h.2 i x hx
  exact ⟨g, e, by omega, c⟩

/-- Two authorities, what the first one gave out, and one certificate of these, in memory. -/
structure GSt (wb : World) (B1 B2 : Nat) (w : World) (g : Nat) (vG : Value) (b : Nat) (vU : Value) (a : Au) (g' : Nat) (vG' : Value) (b' : Nat) (vU' : Value) (a' : Au) (gg n co : Nat) (ls : List Ce) (px : Nat) (c : Ce) : Prop where
  au : AuIs B1 w g vG b vU a
  bu : AuIs B2 w g' vG' b' vU' a'
  out : w.ownsRow B1 24 5 (.slice (some ⟨gg, 0, none⟩) n co) n (ls.flatMap ceCells)
  bx : Blk w px 24 (ceCells c).toArray
  bel : Below wb.heap.size wb w
  lo : wb.heap.size ≤ b
  hi : b < B2

section
variable {wb : World} {B1 B2 : Nat} {w w' : World} {g : Nat} {vG : Value} {b : Nat} {vU : Value} {a : Au} {g' : Nat} {vG' : Value} {b' : Nat} {vU' : Value} {a' : Au} {gg n co : Nat} {ls : List Ce} {px : Nat} {c : Ce}
theorem GSt.below (h : GSt wb B1 B2 w g vG b vU a g' vG' b' vU' a' gg n co ls px c) (hb : Below w.heap.size w w') : GSt wb B1 B2 w' g vG b vU a g' vG' b' vU' a' gg n co ls px c :=
  ⟨h.au.below hb, h.bu.below hb, own_below h.out hb, h.bx.below hb h.bx.lt, below_next h.bel hb, h.lo, h.hi⟩
theorem GSt.drewN (h : GSt wb B1 B2 w g vG b vU a g' vG' b' vU' a' gg n co ls px c) (q : Nat) : GSt wb B1 B2 (w.drewN q) g vG b vU a g' vG' b' vU' a' gg n co ls px c :=
  h.below (below_drewN (Below.refl _ _) q)
theorem GSt.revoke {s : Int} (h : GSt wb B1 B2 w g vG b vU a g' vG' b' vU' a' gg n co ls px c) (au : AuIs B1 w' g vG b vU (a.revoke s)) (ch : Chg (fun i => i = b) w w') : GSt wb B1 B2 w' g vG b vU (a.revoke s) g' vG' b' vU' a' gg n co ls px c := by
  refine ⟨au, h.bu.chg ch ?_, own_chg h.out ch (fun i hi e => h.au.set.ne_own h.out (e ▸ hi)), h.bx.chg ch (fun e => h.au.set.ne_blk h.bx e), h.bel.trans (ch.below (by rintro i rfl; exact h.lo) h.bel.size), h.lo, h.hi⟩
  intro i hi e
  have h1 := (h.bu.foot_lt hi).1
  have h2 := h.hi
  omega
theorem GSt.cells (h : GSt wb B1 B2 w g vG b vU a g' vG' b' vU' a' gg n co ls px c) : w.cell? ⟨px, 0, none⟩ = some (.int .i64 c.s) ∧ w.cell? ⟨px, 1, none⟩ = some (.int .i64 c.r) ∧ w.cell? ⟨px, 2, none⟩ = some (.int .i64 c.v) ∧ w.cell? ⟨px, 3, none⟩ = some (.int .i64 c.f) ∧ w.cell? ⟨px, 4, none⟩ = some (.int .i64 c.t) :=
  ⟨h.bx.cell 0, h.bx.cell 1, h.bx.cell 2, h.bx.cell 3, h.bx.cell 4⟩
end

set_option maxRecDepth 100000 in
set_option maxHeartbeats 8000000 in
theorem gone_walk (a : Option Addr) (len cap : Nat) (zs : List Int) (which later : Int) (w : World) (hr : IsRow w a len cap zs)
    (h1 : -9223372036854775808 ≤ which) (h2 : which ≤ 9223372036854775807) (h3 : -9223372036854775808 ≤ later) (h4 : later ≤ 9223372036854775807) :
    Calls Try.prog 5 #[.slice a len cap, .int .i64 which, .int .i64 later] w fun e w' => e = .returned (.bool true) ∧ Below w.heap.size w w' := by
  have HR := Lib.hid hr
  clear hr
  go_enter Try.func5, Try.ntmps5
  go_wp2_with fail
  refine (acts_any a len cap zs _ HR.out).mono ?_
  rintro e wa ⟨v, l, rfl, good, own, bel⟩
  obtain ⟨A, ca, rfl⟩ := own_form own
  have GOOD := Lib.hid good
  have RDA := Lib.hid (RdActs.of_own own)
  have BA := Lib.hid bel
  clear good own bel HR
  go_wp2_with fail
  refine (played_any A ca l _ RDA.out GOOD.out).mono ?_
  rintro e w1 ⟨g, vG, b, vU, vO, rfl, is⟩
  have RD1 := Lib.hid ((RDA.out.below is.bel).mono is.bel.size)
  have AU1 := Lib.hid is.au
  have OUT1 := Lib.hid is.out
  have B1 := Lib.hid (below_next BA.out is.bel)
  have HBW : Hid (b < w1.heap.size) := is.au.set.lt
  obtain ⟨AO, co, rfl⟩ := own_form is.out
  have HBS : Hid (w.heap.size ≤ b) := Nat.le_trans BA.out.size is.au.hb
  clear is RDA BA
  go_wp2_with fail
  refine (played_any A ca l _ RD1.out GOOD.out).mono ?_
  rintro e w2 ⟨g', vG', b', vU', vO', rfl, is⟩
  have AU2 := Lib.hid (AU1.out.below is.bel)
  have OUT2 := Lib.hid (own_below OUT1.out is.bel)
  have BU2 := Lib.hid is.au
  have B2 := Lib.hid (below_next B1.out is.bel)
  obtain ⟨INV0, FINE0⟩ := prun_is GOOD.out
  have INV := Lib.hid INV0
  have hfew := GOOD.out.few
  have ht0 := INV0.t0
  have ht1 := INV0.t1
  have hfl := FINE0.fl
  clear is INV0 FINE0 GOOD RD1 AU1 OUT1 B1
  generalize prun l = s at *
  obtain ⟨n, hn⟩ : ∃ n, n = s.1.l.length := ⟨_, rfl⟩
  have OUT : Hid (w2.ownsRow wa.heap.size 24 5 (.slice AO n co) n (s.1.l.flatMap ceCells)) := by have h := OUT2.out; rw [← hn] at h; exact h
  have HN := Lib.hid hn
  have hn16 : n ≤ 16 := by omega
  rw [← hn]
  clear hn hfl OUT2
  by_cases hn0 : n = 0
  · have f0 : ((n : Int) == 0) = true := by simp; omega
    have CG : Hid (s.1.canGo 1 = false) := by
      show _ = _
      have := HN.out
      unfold Au.canGo
      rw [decide_eq_false (show ¬ (1 : Int) ≤ (s.1.l.length : Nat) by omega)]
      simp
    clear hn0
    go_wp2_with fail
    refine (revoke_any 1 AU2.out).mono ?_
    rintro e w3 ⟨he, au3, ch3⟩
    rw [CG.out] at he
    subst he
    have B3 : Hid (Below w.heap.size w w3) := B2.out.trans (ch3.below (B := w.heap.size) (fun i hi => by have := HBS.out; omega) B2.out.size)
    clear au3 ch3
    go_wp2_with fail
    refine (lives_any _).mono ?_
    rintro e w9 ⟨rfl, l9⟩
    go_wp2_with fail
    go_ret
    exact ⟨rfl, below_next B3.out l9⟩
  · have f0 : ((n : Int) == 0) = false := by simp; omega
    have hn1 : 0 < n := by omega
    clear hn0
    go_wp2_with fail
    refine (around_some which n _ h1 h2 (by omega) (by omega)).mono ?_
    rintro e w' ⟨m0, hm0, hm1, rfl, rfl⟩
    obtain ⟨m, rfl⟩ : ∃ m : Nat, m0 = (m : Int) := ⟨m0.toNat, by omega⟩
    obtain ⟨c, hc⟩ : ∃ c, s.1.l[m]? = some c := ⟨_, List.getElem?_eq_getElem (by have := HN.out; omega)⟩
    obtain ⟨gg, rfl, hgg, y0, y1, y2, y3, y4⟩ := out_at HN.out OUT.out hc
    have MEM := Lib.hid (List.mem_of_getElem? hc)
    clear hc
    go_wp2_with fail
    have ST : Hid (GSt w wa.heap.size w1.heap.size (w2.alloc (.cells #[.int .i64 c.s, .int .i64 c.r, .int .i64 c.v, .int .i64 c.f, .int .i64 c.t] 24)) g vG b vU s.1 g' vG' b' vU' s.1 gg n co s.1.l w2.heap.size c) :=
      ⟨AU2.out.alloc _, BU2.out.alloc _, OUT.out.alloc _, Blk.new _ _ _, below_alloc B2.out _, HBS.out, HBW.out⟩
    clear AU2 BU2 OUT B2 HBS HBW y0 y1 y2 y3 y4 hgg
    generalize w2.alloc (.cells #[.int .i64 c.s, .int .i64 c.r, .int .i64 c.v, .int .i64 c.f, .int .i64 c.t] 24) = w3 at *
    generalize w2.heap.size = px at *
    have hcs := INV.out.mem MEM.out
    have hcs1 : -9223372036854775808 ≤ c.s := by omega
    have hcs2 : c.s ≤ 9223372036854775807 := by have := HN.out; omega
    clear hcs
    refine (check_any c c.v s.2 ST.out.au hcs1 hcs2 (INV.out.root)).mono ?_
    rintro e w4 ⟨rfl, l4⟩
    have ST4 := Lib.hid (ST.out.below l4)
    obtain ⟨z0, z1, z2, z3, z4⟩ := ST4.out.cells
    obtain ⟨was, hwas⟩ : ∃ was, was = s.1.check c c.v s.2 := ⟨_, rfl⟩
    have HWAS := Lib.hid hwas
    rw [← hwas]
    clear hwas l4 ST
    go_wp2_with fail
    refine (revoke_any c.s ST4.out.au).mono ?_
    rintro e w5 ⟨rfl, au5, ch5⟩
    have ST5 := Lib.hid (ST4.out.revoke au5 ch5)
    clear au5 ch5 ST4 z0 z1 z2 z3 z4
    obtain ⟨z0, z1, z2, z3, z4⟩ := ST5.out.cells
    obtain ⟨is, his⟩ : ∃ is, is = s.1.canGo c.s := ⟨_, rfl⟩
    rw [← his]
    have WI : Hid (was = 22 → is = false) := fun h22 => by rw [his]; exact was_gone INV.out MEM.out (v := c.v) (now := s.2) (by rw [← HWAS.out]; exact h22)
    have RT := Lib.hid (revoke_twice INV.out MEM.out)
    have RI := Lib.hid (revoke_idem INV.out MEM.out)
    clear his HWAS
    rcases hf : (was == 22) with _ | _
    focus
      clear WI
    rotate_left 1
    focus
      obtain rfl : is = false := WI.out (by simpa using hf)
      clear WI
    all_goals
      have HF := Lib.hid hf
      clear HF
      go_wp2_with fail
      refine (revoke_any c.s ST5.out.au).mono ?_
      rintro e w6 ⟨he, au6, ch6⟩
      rw [RT.out] at he
      subst he
      have ST6 := Lib.hid (ST5.out.revoke au6 ch6)
      rw [RI.out] at ST6
      clear au6 ch6 ST5 z0 z1 z2 z3 z4 hf
      go_wp2_with fail
      refine (around_some later 61 _ h3 h4 (by omega) (by omega)).mono ?_
      rintro e w' ⟨k1, hk0, hk1, rfl, rfl⟩
      go_wp2_with fail
      refine (roots_any (s.2 + k1) ST6.out.au).mono ?_
      rintro e w7 ⟨v7, rfl, own7, l7⟩
      have ST7 := Lib.hid (ST6.out.below l7)
      have bz7 := l7.size
      obtain ⟨R, hR⟩ : ∃ R, R = s.1.roots (s.2 + k1) := ⟨_, rfl⟩
      rw [revoke_roots, ← hR] at own7
      obtain ⟨A7, c7, rfl⟩ := own_form own7
      obtain ⟨rn, hrn⟩ : ∃ rn, rn = R.length := ⟨_, rfl⟩
      rw [← hrn] at own7 ⊢
      have few7 : rn ≤ 1000000 := by
        rw [hrn, hR]
        exact Nat.le_trans (rootsTo_len s.1 (s.2 + k1) s.1.n) (by have := ST7.out.bu.fewU; unfold Au.n; omega)
      have OW7 := Lib.hid own7
      have HR := Lib.hid hR
      have HRN := Lib.hid hrn
      clear own7 l7 ST6 hR hrn bz7
      go_wp2_with fail
      go_loopw [18, 20] (fun v i wr => ∃ j : Nat, j ≤ rn ∧ i = .int .i64 j ∧ v = .bool (decide (c.r ∈ R.take j)) ∧ ∃ q, wr = w7.drewN q) (fun _ i _ => rn - (intOf i).toNat)
      case atStart => exact ⟨0, Nat.zero_le _, rfl, by simp, 0, rfl⟩
      case round =>
        obtain ⟨j, hj, rfl, rfl, q, rfl⟩ := hrel
        by_cases hlt : j < rn
        · obtain ⟨x, hx⟩ : ∃ x, R[j]? = some x := ⟨_, List.getElem?_eq_getElem (by have := HRN.out; omega)⟩
          obtain ⟨g7, c7', e7⟩ := own_some OW7.out (by omega)
          injection e7 with e7 _ e7'
          subst e7
          subst e7'
          have x0 : w7.cell? ⟨g7, j, none⟩ = some (.int .i64 x) := by
            rw [OW7.out.cellAt _ (by omega), List.getElem?_map, hx]
            rfl
          obtain ⟨_, z1, _⟩ := ST7.out.cells
          have htk := take_mem_int c.r hx
          clear hx
          rcases hb : decide (c.r ∈ R.take j) with _ | _
          · rw [hb, Bool.false_or] at htk
            have HT := Lib.hid htk
            clear htk hb
            go_wp2_with fail
            go_quiet (fail)
            go_wp2_with fail
            exact ⟨⟨j + 1, by omega, by go_num, by rw [HT.out], _, rfl⟩, by simp [intOf]; omega⟩
          · rw [hb, Bool.true_or] at htk
            have HT := Lib.hid htk
            clear htk hb
            go_wp2_with fail
            go_quiet (fail)
            go_wp2_with fail
            exact ⟨⟨j + 1, by omega, by go_num, by rw [HT.out], _, rfl⟩, by simp [intOf]; omega⟩
        · obtain rfl : j = rn := by omega
          have etk : R.take j = R := by rw [HRN.out, List.take_length]
          rw [etk]
          clear etk
          have ST8 := Lib.hid (ST7.out.drewN q)
          have OW8 := Lib.hid (own_keep (w' := w7.drewN q) OW7.out (fun _ _ => rfl))
          clear ST7 OW7 hlt hj
          generalize w7.drewN q = w8 at *
          obtain ⟨z0, z1, z2, z3, z4⟩ := ST8.out.cells
          have CKG := Lib.hid (check_gone INV.out MEM.out (s.2 + k1))
          rw [← HR.out] at CKG
          go_wp2_with fail
          refine (check_any c c.v (s.2 + k1) ST8.out.au hcs1 hcs2 (by have h := (INV.out.revoke c.s).root (c := c); exact h)).mono ?_
          rintro e w9 ⟨he, l9⟩
          rw [CKG.out] at he
          have ST9 := Lib.hid (ST8.out.below l9)
          have OW9 := Lib.hid (own_below OW8.out l9)
          clear l9 ST8 OW8 CKG z0 z1 z2 z3 z4
          rcases hb : decide (c.r ∈ R) with _ | _
          all_goals
            have HB := Lib.hid hb
            rw [HB.out] at he
            simp only [if_true, Bool.false_eq_true, if_false] at he
            subst he
            clear hb HB
            go_wp2_with fail
            go_loopw [22] (fun i wr => ∃ j : Nat, j ≤ n ∧ i = .int .i64 j ∧ Below w9.heap.size w9 wr) (fun i _ => n - (intOf i).toNat)
            case atStart => exact ⟨0, Nat.zero_le _, rfl, Below.refl _ _⟩
            case round =>
              obtain ⟨j2, hj2, rfl, bel⟩ := hrel
              have STR := Lib.hid (ST9.out.below bel)
              have BR := Lib.hid bel
              clear bel
              by_cases hlt : j2 < n
              · obtain ⟨d, hd⟩ : ∃ d, s.1.l[j2]? = some d := ⟨_, List.getElem?_eq_getElem (by have := HN.out; omega)⟩
                obtain ⟨g2, e2, _, y0, y1, y2, y3, y4⟩ := out_at HN.out STR.out.out hd
                injection e2 with e2
                injection e2 with e2
                subst e2
                obtain ⟨z0, z1, z2, z3, z4⟩ := STR.out.cells
                by_cases hne : d.s = c.s
                · rw [hne] at y0
                  clear hd hne
                  go_wp2_with fail
                  go_quiet (fail)
                  go_wp2_with fail
                  exact ⟨⟨j2 + 1, by omega, by go_num, below_drewN BR.out _⟩, by simp [intOf]; omega⟩
                · have f1 : (d.s != c.s) = true := by simpa using hne
                  have MD := INV.out.mem (List.mem_of_getElem? hd)
                  have hds1 : -9223372036854775808 ≤ d.s := by omega
                  have hds2 : d.s ≤ 9223372036854775807 := by have := HN.out; omega
                  have CKA0 := check_else (a := s.1) hne d.v (s.2 + k1)
                  have CKB0 : s.1.check d d.v (s.2 + k1) = s.1.check d d.v (s.2 + k1) := rfl
                  obtain ⟨qq, hqq⟩ : ∃ qq, s.1.check d d.v (s.2 + k1) = qq := ⟨_, rfl⟩
                  have CKA : Hid ((s.1.revoke c.s).check d d.v (s.2 + k1) = qq) := CKA0.trans hqq
                  have CKB : Hid (s.1.check d d.v (s.2 + k1) = qq) := hqq
                  have ROOTA : Hid ((s.1.revoke c.s).gave d = true → 1 ≤ d.r ∧ d.r ≤ (s.1.revoke c.s).n) := (INV.out.revoke c.s).root
                  have ROOTB : Hid (s.1.gave d = true → 1 ≤ d.r ∧ d.r ≤ s.1.n) := INV.out.root
                  have DWN : Hid (∀ w5, Below wr.heap.size wr.drew w5 → GSt w wa.heap.size w1.heap.size w5 g vG b vU (s.1.revoke c.s) g' vG' b' vU' s.1 gg n co s.1.l px c) := fun w5 h5 => STR.out.below (below_drew0 h5)
                  have AUA : Hid (∀ w5, Below wr.heap.size wr.drew w5 → AuIs wa.heap.size w5 g vG b vU (s.1.revoke c.s)) := fun w5 h5 => (DWN.out w5 h5).au
                  have AUB : Hid (∀ w5, Below wr.heap.size wr.drew w5 → AuIs w1.heap.size w5 g' vG' b' vU' s.1) := fun w5 h5 => (DWN.out w5 h5).bu
                  have NCH : Hid (∀ w5, Below wr.heap.size wr.drew w5 → (fun w' : World => w'.cell? ⟨gg, j2 * 5, none⟩ = some (.int .i64 d.s) ∧ w'.cell? ⟨gg, j2 * 5 + 1, none⟩ = some (.int .i64 d.r) ∧ w'.cell? ⟨gg, j2 * 5 + 2, none⟩ = some (.int .i64 d.v) ∧ w'.cell? ⟨gg, j2 * 5 + 3, none⟩ = some (.int .i64 d.f) ∧ w'.cell? ⟨gg, j2 * 5 + 4, none⟩ = some (.int .i64 d.t) ∧ w'.cell? ⟨px, 0, none⟩ = some (.int .i64 c.s)) w5) := by
                    intro w5 h5
                    obtain ⟨g9, e9, _, x0, x1, x2, x3, x4⟩ := out_at HN.out (DWN.out w5 h5).out hd
                    injection e9 with e9
                    injection e9 with e9
                    subst e9
                    exact ⟨x0, x1, x2, x3, x4, (DWN.out w5 h5).cells.1⟩
                  have B0 : Hid (Below wr.heap.size wr.drew wr.drew) := Below.refl _ _
                  have WR1 : (0 : Int) ≤ (j2 : Int) := by omega
                  have WR2 : (j2 : Int) < (n : Int) := by omega
                  clear CKA0 CKB0 hqq MD hne hd DWN z1 z2 z3 z4
                  go_wp2_with fail
                  go_region_held3 (fun w' => w'.cell? ⟨gg, j2 * 5, none⟩ = some (.int .i64 d.s) ∧ w'.cell? ⟨gg, j2 * 5 + 1, none⟩ = some (.int .i64 d.r) ∧ w'.cell? ⟨gg, j2 * 5 + 2, none⟩ = some (.int .i64 d.v) ∧ w'.cell? ⟨gg, j2 * 5 + 3, none⟩ = some (.int .i64 d.f) ∧ w'.cell? ⟨gg, j2 * 5 + 4, none⟩ = some (.int .i64 d.t) ∧ w'.cell? ⟨px, 0, none⟩ = some (.int .i64 c.s))
                    (exact NCH.out _ (Hid.out ‹Hid (Below wr.heap.size wr.drew _)›))
                    (first | (go_at_call 9; (with_reducible refine (check_any d d.v (s.2 + k1) (AUA.out _ B0.out) hds1 hds2 ROOTA.out).mono ?_); rintro e w5 ⟨he, l5⟩; rw [CKA.out] at he; subst he; have B1 : Hid (Below wr.heap.size wr.drew w5) := below_next (a := wr.drew) B0.out l5; clear l5 B0) | (go_at_call 9; (with_reducible refine (check_any d d.v (s.2 + k1) (AUB.out _ B0.out) hds1 hds2 ROOTB.out).mono ?_); rintro e w5 ⟨he, l5⟩; rw [CKB.out] at he; subst he; have B1 : Hid (Below wr.heap.size wr.drew w5) := below_next (a := wr.drew) B0.out l5; clear l5 B0) | (go_at_call 9; (with_reducible refine (check_any d d.v (s.2 + k1) (AUA.out _ B1.out) hds1 hds2 ROOTA.out).mono ?_); rintro e w5 ⟨he, l5⟩; rw [CKA.out] at he; subst he; have B2 : Hid (Below wr.heap.size wr.drew w5) := below_next (a := wr.drew) B1.out l5; clear l5 B1) | (go_at_call 9; (with_reducible refine (check_any d d.v (s.2 + k1) (AUB.out _ B1.out) hds1 hds2 ROOTB.out).mono ?_); rintro e w5 ⟨he, l5⟩; rw [CKB.out] at he; subst he; have B2 : Hid (Below wr.heap.size wr.drew w5) := below_next (a := wr.drew) B1.out l5; clear l5 B1))
                  all_goals
                    rename_i hHeld
                    clear hHeld NCH AUA AUB ROOTA ROOTB CKA CKB y0 y1 y2 y3 y4 z0 f1
                    go_wp2_with fail
                    exact ⟨⟨j2 + 1, by omega, by go_num, below_next BR.out (below_drew0 B2.out)⟩, by simp [intOf]; omega⟩
              · obtain rfl : j2 = n := by omega
                have OWR := Lib.hid (own_below OW9.out BR.out)
                clear hlt hj2 ST9 OW9 BR
                go_wp2_with fail
                refine (roots_any (s.2 + k1) STR.out.bu).mono ?_
                rintro e wx ⟨vx, rfl, ownx, lx⟩
                have BX := Lib.hid (below_next STR.out.bel lx)
                rw [← HR.out, ← HRN.out] at ownx
                obtain ⟨Ax, cx, rfl⟩ := own_form ownx
                have RDX := Lib.hid (rd_of_own HRN.out ownx)
                have RD7 := Lib.hid (rd_of_own HRN.out (own_below OWR.out lx))
                clear ownx lx OWR STR
                go_wp2_with fail
                refine (same_true A7 Ax _ _ _ R _ RD7.out RDX.out few7).mono ?_
                rintro e wy ⟨rfl, q9, rfl⟩
                go_wp2_with fail
                refine (lives_any _).mono ?_
                rintro e wz ⟨rfl, lz⟩
                go_wp2_with fail
                go_ret
                exact ⟨rfl, below_next (below_drewN BX.out q9) lz⟩

end Go.Proofs.Ytjknlijikojbmaa
