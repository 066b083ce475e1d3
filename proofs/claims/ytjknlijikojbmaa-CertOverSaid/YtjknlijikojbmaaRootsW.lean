/- CertRoots' walk: roots rise, the newest one is among them, none comes back; certificates are numbered from 1 on. No conditions. -/
import Derived.Test.YtjknlijikojbmaaForgedW
namespace Go.Proofs.Ytjknlijikojbmaa
open Go.RowKit

/-! ### the plain law -/
theorem pstep_n (s : Au × Int) (x : Ac) : (pstep s x).1.n = if x.do_ = 1 then s.1.n + 1 else s.1.n := by
  unfold pstep Au.n
  by_cases h0 : x.do_ = 0
  · have h1 : ¬ x.do_ = 1 := by omega
    simp [h0, Au.issue]
  · by_cases h1 : x.do_ = 1
    · simp [h1, Au.rotate]
    · simp [h0, h1, revoke_u]

theorem range_up (n : Nat) : ((List.range n).map (fun (i : Nat) => (i : Int) + 1)).Pairwise (fun a b => a < b) := by
  rw [List.pairwise_map]
  exact List.pairwise_lt_range.imp (fun h => by omega)
theorem roots_up (a : Au) (now : Int) : (a.roots now).Pairwise (fun x y => x < y) := (range_up a.n).filter _
theorem newest_trusted (a : Au) (now : Int) : a.trusted a.n now = true := by unfold Au.trusted; simp
theorem roots_last (a : Au) (now : Int) : ∃ l, a.roots now = l ++ [(a.n : Int)] := by
  have h : a.roots now = a.rootsTo now a.n := rfl
  have hn : a.n = a.u.length + 1 := rfl
  refine ⟨a.rootsTo now a.u.length, ?_⟩
  rw [h]
  have h2 := rootsTo_succ a now a.u.length
  rw [hn, h2, if_pos]
  · rfl
  · have := newest_trusted a now
    rw [hn] at this
    exact this
theorem roots_sub (a : Au) (t1 t2 : Int) (h : t1 ≤ t2) : (a.roots t2).Sublist (a.roots t1) := by
  have e : a.roots t2 = (a.roots t1).filter (fun r => a.trusted r t2) := by
    unfold Au.roots
    rw [List.filter_filter]
    refine List.filter_congr fun r _ => ?_
    rcases h2 : a.trusted r t2 with _ | _
    · simp
    · have h1 : a.trusted r t1 = true := by
        unfold Au.trusted at h2 ⊢
        simp at h2 ⊢
        rcases h2 with h2 | h2
        · exact .inl h2
        · right
          omega
      simp [h1]
  rw [e]
  exact List.filter_sublist
theorem sub_drop {L E : List Int} {k i : Nat} {e : Int} (h : (L.drop k).Sublist (E.drop i)) (he : E[i]? = some e) :
    (∀ x, L[k]? = some x → x = e → (L.drop (k + 1)).Sublist (E.drop (i + 1))) ∧ ((∀ x, L[k]? = some x → x ≠ e) → (L.drop k).Sublist (E.drop (i + 1))) := by
  obtain ⟨hi, e1⟩ := List.getElem?_eq_some_iff.1 he
  rw [List.drop_eq_getElem_cons hi, e1] at h
  constructor
  · intro x hx hxe
    obtain ⟨hk, e2⟩ := List.getElem?_eq_some_iff.1 hx
    rw [List.drop_eq_getElem_cons hk, e2, hxe] at h
    exact List.Sublist.of_cons_cons h
  · intro hne
    rcases Nat.lt_or_ge k L.length with hk | hk
    · rw [List.drop_eq_getElem_cons hk] at h ⊢
      rcases List.sublist_cons_iff.1 h with h | ⟨r, h1, h2⟩
      · exact h
      · injection h1 with h1 _
        exact absurd h1 (hne _ (List.getElem?_eq_getElem hk))
    · rw [List.drop_eq_nil_of_le hk]
      exact List.nil_sublist _

set_option maxRecDepth 100000 in
set_option maxHeartbeats 8000000 in
theorem roots_walk (a : Option Addr) (len cap : Nat) (zs : List Int) (one two : Int) (w : World) (hr : IsRow w a len cap zs)
    (h1 : -9223372036854775808 ≤ one) (h2 : one ≤ 9223372036854775807) (h3 : -9223372036854775808 ≤ two) (h4 : two ≤ 9223372036854775807) :
    Calls Try.prog 6 #[.slice a len cap, .int .i64 one, .int .i64 two] w fun e w' => e = .returned (.bool true) ∧ Below w.heap.size w w' := by
  have HR := Lib.hid hr
  clear hr
  go_enter Try.func6, Try.ntmps6
  go_wp2_with fail
  refine (acts_any a len cap zs _ HR.out).mono ?_
  rintro e wa ⟨v, l, rfl, good, own, bel⟩
  obtain ⟨A, ca, rfl⟩ := own_form own
  have GOOD := Lib.hid good
  have RDA := Lib.hid (RdActs.of_own own)
  have BA := Lib.hid bel
  clear good own bel HR
  go_wp2_with fail
  refine (played_any A ca l _ RDA.out GOOD.out).mono ?_
  rintro e w1 ⟨g, vG, b, vU, vO, rfl, is⟩
  have RD1 := Lib.hid (RDA.out.below is.bel)
  obtain ⟨INV0, FINE0⟩ := prun_is GOOD.out
  have INV := Lib.hid INV0
  have FINE := Lib.hid FINE0
  have hfew := GOOD.out.few
  obtain ⟨AO, co, rfl⟩ := own_form is.out
  have ht0 := INV0.t0
  have ht1 := INV0.t1
  have hfl := FINE0.fl
  have hfu := FINE0.fu
  have IS := Lib.hid is
  have B1 := Lib.hid (below_next BA.out is.bel)
  clear INV0 FINE0 is BA RDA GOOD
  go_wp2_with fail
  go_loopw [11, 12] (fun v i wr => ∃ j : Nat, j ≤ l.length ∧ i = .int .i64 j ∧ v = .int .i64 ((prun (l.take j)).1.n : Nat) ∧ (prun (l.take j)).1.n ≤ j + 1 ∧ wr = w1) (fun _ i _ => l.length - (intOf i).toNat)
  case atStart => exact ⟨0, Nat.zero_le _, rfl, by simp [prun, Au.new, Au.n], by simp [prun, Au.new, Au.n], rfl⟩
  case round =>
    obtain ⟨j, hj, rfl, rfl, hnj, rfl⟩ := hrel
    by_cases hlt : j < l.length
    · obtain ⟨x, hx⟩ : ∃ x, l[j]? = some x := ⟨_, List.getElem?_eq_getElem hlt⟩
      obtain ⟨ga, rfl, hga, x0, x1, x2, x3⟩ := RD1.out.2 j x hx
      have hst := pstep_n (prun (l.take j)) x
      rw [← prun_take hx] at hst
      clear x1 x2 x3 hx
      generalize (prun (l.take j)).1.n = nj at *
      have HST := Lib.hid hst
      clear hst
      by_cases hd1 : x.do_ = 1
      · have HS : Hid ((prun (l.take (j + 1))).1.n = nj + 1) := by have h := HST.out; rw [if_pos hd1] at h; exact h
        have e1 : (x.do_ == 1) = true := by simpa using hd1
        clear hd1
        go_wp2_with fail
        exact ⟨⟨j + 1, by omega, by go_num, by rw [HS.out]; go_num, by rw [HS.out]; omega, trivial⟩, by simp [intOf]; omega⟩
      · have HS : Hid ((prun (l.take (j + 1))).1.n = nj) := by have h := HST.out; rw [if_neg hd1] at h; exact h
        have e1 : (x.do_ == 1) = false := by simpa using hd1
        clear hd1
        go_wp2_with fail
        exact ⟨⟨j + 1, by omega, by go_num, by rw [HS.out], by rw [HS.out]; omega, trivial⟩, by simp [intOf]; omega⟩
    · obtain rfl : j = l.length := by omega
      rw [List.take_length] at hnj ⊢
      clear hlt hj RD1
      generalize prun l = s at *
      go_wp2_with fail
      obtain ⟨n, hn⟩ : ∃ n, n = s.1.l.length := ⟨_, rfl⟩
      have OUT : Hid (wr.ownsRow wa.heap.size 24 5 (.slice AO n co) n (s.1.l.flatMap ceCells)) := by have h := IS.out.out; rw [← hn] at h; exact h
      have HN := Lib.hid hn
      have hn16 : n ≤ 16 := by omega
      rw [← hn]
      clear hn hfl
      obtain ⟨m, hm⟩ : ∃ m, m = s.1.n := ⟨_, rfl⟩
      have HM := Lib.hid hm
      rw [← hm] at hnj ⊢
      clear hm
      have AUH := Lib.hid IS.out.au
      clear IS
      go_loopw [13] (fun i w9 => ∃ j : Nat, j ≤ n ∧ i = .int .i64 j ∧ ∃ q, w9 = wr.drewN q) (fun i _ => n - (intOf i).toNat)
      case atStart => exact ⟨0, Nat.zero_le _, rfl, 0, rfl⟩
      case round =>
        obtain ⟨j, hj, rfl, q, rfl⟩ := hrel
        by_cases hlt : j < n
        · obtain ⟨d, hd⟩ : ∃ d, s.1.l[j]? = some d := ⟨_, List.getElem?_eq_getElem (by have := HN.out; omega)⟩
          obtain ⟨gg, rfl, _, y0, y1, y2, y3, y4⟩ := out_at HN.out OUT.out hd
          have hser := INV.out.ser j d hd
          have hr1 := INV.out.r1 d (List.mem_of_getElem? hd)
          have hr2 := INV.out.r2 d (List.mem_of_getElem? hd)
          rw [← HM.out] at hr2
          rw [hser] at y0
          have q2 : decide (d.r < 1) = false := by simp; omega
          have q3 : decide ((m : Int) < d.r) = false := by simp; omega
          clear y2 y3 y4
          rcases Nat.eq_zero_or_pos j with rfl | hpos
          · clear hd hser hr1 hr2
            go_wp2_with fail
            go_quiet (fail)
            go_wp2_with fail
            exact ⟨⟨0 + 1, by omega, by go_num, _, rfl⟩, by simp [intOf]; omega⟩
          · obtain ⟨i, rfl⟩ : ∃ i, j = i + 1 := ⟨j - 1, by omega⟩
            obtain ⟨d2, hd2⟩ : ∃ d2, s.1.l[i]? = some d2 := ⟨_, List.getElem?_eq_getElem (by have := HN.out; omega)⟩
            obtain ⟨g2, e2, _, _, x1, _, _, _⟩ := out_at HN.out OUT.out hd2
            injection e2 with e2
            injection e2 with e2
            subst e2
            have hrm : d2.r ≤ d.r := by
              obtain ⟨l1, k1⟩ := List.getElem?_eq_some_iff.1 hd
              obtain ⟨l2, k2⟩ := List.getElem?_eq_some_iff.1 hd2
              rw [← k1, ← k2]
              exact List.pairwise_iff_getElem.1 INV.out.rm i (i + 1) l2 l1 (by omega)
            have q4 : decide (d.r < d2.r) = false := by simp; omega
            have q5 : ((i + 1 : Nat) : Int) - 1 = (i : Int) := by omega
            clear hd hd2 hser hr1 hr2 hrm
            go_wp2_with fail
            go_quiet (fail)
            go_wp2_with fail
            exact ⟨⟨i + 1 + 1, by omega, by go_num, _, rfl⟩, by simp [intOf]; omega⟩
        · obtain rfl : j = n := by omega
          have AU2 := Lib.hid (AUH.out.drewN q)
          have B2 := Lib.hid (below_drewN B1.out q)
          clear AUH OUT B1 hlt hj hn16 INV FINE HN
          generalize wr.drewN q = w2 at *
          generalize s.2 = t at *
          have HMU : Hid (m = s.1.u.length + 1) := HM.out
          have hm0 : 0 < m := by have := HMU.out; omega
          go_wp2_with fail
          refine (around_any one 61 _ h1 h2 (by omega) (by omega)).mono ?_
          rintro e w' ⟨rfl, rfl⟩
          have hk0 := arnd_lo one 61 (by omega)
          have hk1 := arnd_hi one 61 (by omega)
          have HAR := fun w => around_any one 61 w h1 h2 (by omega) (by omega)
          generalize arnd one 61 = k1 at *
          go_wp2_with fail
          refine (roots_any (t + k1) AU2.out).mono ?_
          rintro e w3 ⟨v3, rfl, own3, l3⟩
          have AU3 := Lib.hid (AU2.out.below l3)
          have B3 := Lib.hid (below_next B2.out l3)
          obtain ⟨E0, hE⟩ := roots_last s.1 (t + k1)
          rw [← HM.out] at hE
          have up := roots_up s.1 (t + k1)
          have sub := fun k2 (h : 0 ≤ k2) => roots_sub s.1 (t + k1) (t + k1 + k2) (by omega)
          have few3 : (s.1.roots (t + k1)).length ≤ m := Nat.le_trans (rootsTo_len s.1 (t + k1) s.1.n) (by rw [HM.out]; exact Nat.le_refl _)
          have bz3 := l3.size
          generalize s.1.roots (t + k1) = E at *
          obtain ⟨en, hen⟩ : ∃ en, en = E.length := ⟨_, rfl⟩
          rw [← hen] at own3 few3
          have he1 : 0 < en := by rw [hen, hE]; simp
          obtain ⟨g3, c3, rfl⟩ := own_some own3 he1
          have OW3 := Lib.hid own3
          have HEN := Lib.hid hen
          have HE := Lib.hid hE
          have UP := Lib.hid up
          have SUB := Lib.hid sub
          have LT3 : Hid (g3 < w3.heap.size) := (own3.lt g3 rfl).2
          clear own3 l3 AU2 B2 hen hE up sub
          go_wp2_with fail
          refine (HAR _).mono ?_
          rintro e w' ⟨rfl, rfl⟩
          go_wp2_with fail
          refine (around_any two 61 _ h3 h4 (by omega) (by omega)).mono ?_
          rintro e w' ⟨rfl, rfl⟩
          have hj0 := arnd_lo two 61 (by omega)
          have hj1 := arnd_hi two 61 (by omega)
          generalize arnd two 61 = k2 at *
          clear HAR
          go_wp2_with fail
          refine (roots_any (t + k1 + k2) AU3.out).mono ?_
          rintro e w4 ⟨v4, rfl, own4, l4⟩
          have B4 := Lib.hid (below_next B3.out l4)
          obtain ⟨L0, hL⟩ := roots_last s.1 (t + k1 + k2)
          rw [← HM.out] at hL
          have sub := SUB.out k2 hj0
          have few4 : (s.1.roots (t + k1 + k2)).length ≤ m := Nat.le_trans (rootsTo_len s.1 (t + k1 + k2) s.1.n) (by rw [HM.out]; exact Nat.le_refl _)
          generalize s.1.roots (t + k1 + k2) = L at *
          obtain ⟨ln, hln⟩ : ∃ ln, ln = L.length := ⟨_, rfl⟩
          rw [← hln] at own4 few4
          have hl1 : 0 < ln := by rw [hln, hL]; simp
          obtain ⟨g4, c4, rfl⟩ := own_some own4 hl1
          have OW3' := Lib.hid (own_below OW3.out l4)
          have OW4 := Lib.hid own4
          have HLN := Lib.hid hln
          have SUB2 := Lib.hid sub
          have cE : ∀ i x, E[i]? = some x → w4.cell? ⟨g3, i, none⟩ = some (.int .i64 x) := by
            intro i x hx
            rw [OW3'.out.cellAt _ (by have := HEN.out; have := (List.getElem?_eq_some_iff.1 hx).1; omega), List.getElem?_map, hx]
            rfl
          have cL : ∀ i x, L[i]? = some x → w4.cell? ⟨g4, i, none⟩ = some (.int .i64 x) := by
            intro i x hx
            rw [own4.cellAt _ (by have := HLN.out; have := (List.getElem?_eq_some_iff.1 hx).1; omega), List.getElem?_map, hx]
            rfl
          have z3 := cE (en - 1) (m : Int) (by rw [HEN.out, HE.out]; simp)
          have z4 := cL (ln - 1) (m : Int) (by rw [HLN.out, hL]; simp)
          have CE := Lib.hid cE
          have CL := Lib.hid cL
          have e3 : (en : Int) - 1 = ((en - 1 : Nat) : Int) := by omega
          have e4 : (ln : Int) - 1 = ((ln - 1 : Nat) : Int) := by omega
          have f3 : ((en : Int) == 0) = false := by simp; omega
          have f4 : ((ln : Int) == 0) = false := by simp; omega
          clear own4 l4 AU3 B3 hL sub OW3 SUB OW3' OW4 hln cE cL
          go_wp2_with fail
          clear z3 z4 e3 e4 f3 f4 HE LT3 HMU HM bz3
          go_loopw [16, 17] (fun v i w9 => ∃ k i0 : Nat, k ≤ ln ∧ i0 ≤ en ∧ v = .int .i64 k ∧ i = .int .i64 i0 ∧ (L.drop k).Sublist (E.drop i0) ∧ ∃ q, w9 = w4.drewN q) (fun _ i _ => en - (intOf i).toNat)
          case atStart => exact ⟨0, 0, Nat.zero_le _, Nat.zero_le _, rfl, rfl, SUB2.out, 0, rfl⟩
          case round =>
            obtain ⟨k, i, hk, hi, rfl, rfl, sb, q, rfl⟩ := hrel
            by_cases hlt : i < en
            · obtain ⟨e, he⟩ : ∃ e, E[i]? = some e := ⟨_, List.getElem?_eq_getElem (by have := HEN.out; omega)⟩
              have y0 := CE.out i e he
              obtain ⟨D1, D2⟩ := sub_drop sb he
              have HD1 := Lib.hid D1
              have HD2 := Lib.hid D2
              have HE := Lib.hid he
              clear sb D1 D2 he
              rcases Nat.eq_zero_or_pos i with rfl | hpos
              · go_wp2_with fail
                go_quiet (fail)
                go_wp2_with fail
                by_cases hkl : k < ln
                · obtain ⟨x, hx⟩ : ∃ x, L[k]? = some x := ⟨_, List.getElem?_eq_getElem (by have := HLN.out; omega)⟩
                  have z0 := CL.out k x hx
                  have f0 : decide ((k : Int) < (ln : Int)) = true := by simp; omega
                  by_cases hxe : x = e
                  · have f1 : (x == e) = true := by simpa using hxe
                    have SB := Lib.hid (HD1.out x hx hxe)
                    clear hx hxe HD1 HD2
                    go_quiet (fail)
                    go_wp2_with fail
                    exact ⟨⟨k + 1, 0 + 1, by omega, by omega, by go_num, by go_num, SB.out, _, rfl⟩, by simp [intOf]; omega⟩
                  · have f1 : (x == e) = false := by simpa using hxe
                    have SB := Lib.hid (HD2.out (fun y hy h => hxe (by rw [hx] at hy; injection hy with hy; rw [hy]; exact h)))
                    clear hx hxe HD1 HD2
                    go_quiet (fail)
                    go_wp2_with fail
                    exact ⟨⟨k, 0 + 1, by omega, by omega, rfl, by go_num, SB.out, _, rfl⟩, by simp [intOf]; omega⟩
                · have f0 : decide ((k : Int) < (ln : Int)) = false := by simp; omega
                  have SB := Lib.hid (HD2.out (fun y hy => by have := (List.getElem?_eq_some_iff.1 hy).1; have := HLN.out; omega))
                  clear HD1 HD2
                  go_quiet (fail)
                  go_wp2_with fail
                  exact ⟨⟨k, 0 + 1, by omega, by omega, rfl, by go_num, SB.out, _, rfl⟩, by simp [intOf]; omega⟩
              · obtain ⟨i, rfl⟩ : ∃ p, i = p + 1 := ⟨i - 1, by omega⟩
                obtain ⟨d, hd⟩ : ∃ d, E[i]? = some d := ⟨_, List.getElem?_eq_getElem (by have := HEN.out; omega)⟩
                have y1 := CE.out i d hd
                have hlt2 : d < e := by
                  obtain ⟨l1, k1⟩ := List.getElem?_eq_some_iff.1 HE.out
                  obtain ⟨l2, k2⟩ := List.getElem?_eq_some_iff.1 hd
                  rw [← k1, ← k2]
                  exact List.pairwise_iff_getElem.1 UP.out i (i + 1) l2 l1 (by omega)
                have q4 : decide (e ≤ d) = false := by simp; omega
                have q5 : ((i + 1 : Nat) : Int) - 1 = (i : Int) := by omega
                clear hd hlt2
                go_wp2_with fail
                go_quiet (fail)
                go_wp2_with fail
                by_cases hkl : k < ln
                · obtain ⟨x, hx⟩ : ∃ x, L[k]? = some x := ⟨_, List.getElem?_eq_getElem (by have := HLN.out; omega)⟩
                  have z0 := CL.out k x hx
                  have f0 : decide ((k : Int) < (ln : Int)) = true := by simp; omega
                  by_cases hxe : x = e
                  · have f1 : (x == e) = true := by simpa using hxe
                    have SB := Lib.hid (HD1.out x hx hxe)
                    clear hx hxe HD1 HD2
                    go_quiet (fail)
                    go_wp2_with fail
                    exact ⟨⟨k + 1, i + 1 + 1, by omega, by omega, by go_num, by go_num, SB.out, _, rfl⟩, by simp [intOf]; omega⟩
                  · have f1 : (x == e) = false := by simpa using hxe
                    have SB := Lib.hid (HD2.out (fun y hy h => hxe (by rw [hx] at hy; injection hy with hy; rw [hy]; exact h)))
                    clear hx hxe HD1 HD2
                    go_quiet (fail)
                    go_wp2_with fail
                    exact ⟨⟨k, i + 1 + 1, by omega, by omega, rfl, by go_num, SB.out, _, rfl⟩, by simp [intOf]; omega⟩
                · have f0 : decide ((k : Int) < (ln : Int)) = false := by simp; omega
                  have SB := Lib.hid (HD2.out (fun y hy => by have := (List.getElem?_eq_some_iff.1 hy).1; have := HLN.out; omega))
                  clear HD1 HD2
                  go_quiet (fail)
                  go_wp2_with fail
                  exact ⟨⟨k, i + 1 + 1, by omega, by omega, rfl, by go_num, SB.out, _, rfl⟩, by simp [intOf]; omega⟩
            · obtain rfl : i = en := by omega
              have hke : k = ln := by
                have h := sb
                rw [HEN.out, List.drop_length] at h
                have h := List.eq_nil_of_sublist_nil h
                have := congrArg List.length h
                simp at this
                have := HLN.out
                omega
              subst hke
              clear sb
              have B5 := Lib.hid (below_drewN B4.out q)
              have f1 : ((k : Int) == (k : Int)) = true := by simp
              go_wp2_with fail
              refine (lives_any _).mono ?_
              rintro e w9 ⟨rfl, l9⟩
              go_wp2_with fail
              go_ret
              exact ⟨rfl, below_next B5.out l9⟩

end Go.Proofs.Ytjknlijikojbmaa
