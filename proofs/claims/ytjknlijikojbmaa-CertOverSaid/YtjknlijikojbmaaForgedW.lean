/- CertForged's walk: what is not given out is of no use. No conditions. -/
import Derived.Test.YtjknlijikojbmaaInv
import Derived.Test.YtjknlijikojbmaaAgg5
namespace Go.Proofs.Ytjknlijikojbmaa
open Go.RowKit

theorem out_at {w : World} {base n c : Nat} {A : Option Addr} {l : List Ce} {k : Nat} {d : Ce} (hn : n = l.length) (h : w.ownsRow base 24 5 (.slice A n c) n (l.flatMap ceCells)) (hk : l[k]? = some d) : ∃ gg, A = some ⟨gg, 0, none⟩ ∧ gg < w.heap.size ∧
    w.cell? ⟨gg, k * 5, none⟩ = some (.int .i64 d.s) ∧ w.cell? ⟨gg, k * 5 + 1, none⟩ = some (.int .i64 d.r) ∧ w.cell? ⟨gg, k * 5 + 2, none⟩ = some (.int .i64 d.v) ∧ w.cell? ⟨gg, k * 5 + 3, none⟩ = some (.int .i64 d.f) ∧ w.cell? ⟨gg, k * 5 + 4, none⟩ = some (.int .i64 d.t) := by
  subst hn
  have hl := (List.getElem?_eq_some_iff.1 hk).1
  obtain ⟨gg, cap, hv, _, hg⟩ := h.form (by omega)
  injection hv with e1 e2 e3
  subst e1
  subst e3
  have f := fun j (hj : j < 5) => flat_get ceCells 5 ceCells_len l k j d hk hj
  refine ⟨gg, rfl, hg, ?_, ?_, ?_, ?_, ?_⟩
  · rw [h.cellAt _ (by omega)]; have := f 0 (by omega); rw [show k * 5 = k * 5 + 0 from by omega, this]; rfl
  · rw [h.cellAt _ (by omega)]; have := f 1 (by omega); rw [this]; rfl
  · rw [h.cellAt _ (by omega)]; have := f 2 (by omega); rw [this]; rfl
  · rw [h.cellAt _ (by omega)]; have := f 3 (by omega); rw [this]; rfl
  · rw [h.cellAt _ (by omega)]; have := f 4 (by omega); rw [this]; rfl

theorem wrap64_lo (n : Int) : -9223372036854775808 ≤ wrap64 n := by unfold wrap64; omega
theorem wrap64_hi (n : Int) : wrap64 n ≤ 9223372036854775807 := by unfold wrap64; omega
theorem take_mem {l : List Ce} {k : Nat} {d : Ce} (c : Ce) (hd : l[k]? = some d) : decide (c ∈ l.take (k + 1)) = (decide (c ∈ l.take k) || decide (d = c)) := by
  obtain ⟨hlt, e⟩ := List.getElem?_eq_some_iff.1 hd
  rw [List.take_succ_eq_append_getElem hlt, e]
  by_cases h1 : c ∈ l.take k
  · simp [h1]
  · by_cases h2 : d = c
    · subst h2
      simp
    · simp [h1, h2, Ne.symm h2]

set_option maxRecDepth 100000 in
set_option maxHeartbeats 8000000 in
theorem forged_walk (a : Option Addr) (len cap : Nat) (zs : List Int) (which field by_ : Int) (c : Ce) (w : World) (hr : IsRow w a len cap zs)
    (h1 : -9223372036854775808 ≤ which) (h2 : which ≤ 9223372036854775807) (h3 : -9223372036854775808 ≤ field) (h4 : field ≤ 9223372036854775807) 
    (hs1 : -9223372036854775808 ≤ c.s) (hs2 : c.s ≤ 9223372036854775807) :
    Calls Try.prog 3 #[.slice a len cap, .int .i64 which, .int .i64 field, .int .i64 by_, c.val] w fun e w' => e = .returned (.bool true) ∧ Below w.heap.size w w' := by
  have HR := Lib.hid (hr.keep (below_alloc (Below.refl w.heap.size w) (.cells (ceCells c).toArray 24)))
  have BX := Lib.hid (Blk.new w 24 (ceCells c).toArray)
  have B0 := Lib.hid (below_alloc (Below.refl w.heap.size w) (.cells (ceCells c).toArray 24))
  clear hr
  go_enter Try.func3, Try.ntmps3
  go_wp2_with fail
  have e0 : (ceCells c).toArray = #[.int .i64 c.s, .int .i64 c.r, .int .i64 c.v, .int .i64 c.f, .int .i64 c.t] := rfl
  rw [e0] at HR BX B0
  clear e0
  generalize w.alloc (.cells #[.int .i64 c.s, .int .i64 c.r, .int .i64 c.v, .int .i64 c.f, .int .i64 c.t] 24) = W0 at *
  generalize hpx : w.heap.size = px at BX ⊢
  have HPX := Lib.hid hpx
  clear hpx
  refine (acts_any a len cap zs _ HR.out).mono ?_
  rintro e wa ⟨v, l, rfl, good, own, bel⟩
  obtain ⟨A, ca, rfl⟩ := own_form own
  have GOOD := Lib.hid good
  have RDA := Lib.hid (RdActs.of_own own)
  have BXA := Lib.hid (BX.out.below bel BX.out.lt)
  have BA := Lib.hid (below_next B0.out bel)
  clear good own bel HR BX B0
  go_wp2_with fail
  refine (played_any A ca l _ RDA.out GOOD.out).mono ?_
  rintro e w1 ⟨g, vG, b, vU, vO, rfl, is⟩
  obtain ⟨INV0, FINE0⟩ := prun_is GOOD.out
  have INV := Lib.hid INV0
  have FINE := Lib.hid FINE0
  have hfew := GOOD.out.few
  generalize prun l = s at *
  obtain ⟨AO, co, rfl⟩ := own_form is.out
  obtain ⟨n, hn⟩ : ∃ n, n = s.1.l.length := ⟨_, rfl⟩
  have hn16 : n ≤ 16 := by have := FINE0.fl; omega
  have is2 := is
  rw [← hn] at is2
  have ht0 := INV0.t0
  have ht1 := INV0.t1
  have IS := Lib.hid is
  have OUT : Hid (w1.ownsRow wa.heap.size 24 5 (.slice AO n co) n (s.1.l.flatMap ceCells)) := by have h := is.out; rw [← hn] at h; exact h
  have BX1 := Lib.hid (BXA.out.below is.bel BXA.out.lt)
  have B1 := Lib.hid (below_next BA.out is.bel)
  have HN := Lib.hid hn
  rw [← hn]
  clear INV0 FINE0 is is2 hn BXA BA RDA GOOD
  go_wp2_with fail
  go_loopw [14, 15] (fun v i wr => ∃ k : Nat, k ≤ n ∧ i = .int .i64 k ∧ v = .bool (decide (c ∈ s.1.l.take k)) ∧ ∃ q, wr = w1.drewN q) (fun _ i _ => n - (intOf i).toNat)
  case atStart => exact ⟨0, Nat.zero_le _, rfl, by simp, 0, rfl⟩
  case round =>
    obtain ⟨k, hk, rfl, rfl, q, rfl⟩ := hrel
    by_cases hlt : k < n
    · obtain ⟨d, hd⟩ : ∃ d, s.1.l[k]? = some d := ⟨_, List.getElem?_eq_getElem (by have := HN.out; omega)⟩
      have htk := take_mem c hd
      rcases hb : decide (c ∈ s.1.l.take k) with _ | _
      · obtain ⟨gg, rfl, _, y0, y1, y2, y3, y4⟩ := out_at HN.out OUT.out hd
        have z0 := BX1.out.cell 0
        have z1 := BX1.out.cell 1
        have z2 := BX1.out.cell 2
        have z3 := BX1.out.cell 3
        have z4 := BX1.out.cell 4
        simp only [List.getElem?_toArray, List.getElem?_cons_zero, List.getElem?_cons_succ] at z0 z1 z2 z3 z4
        have he := fun w => eq_ce d c w
        have hgd := guard_ce
        rw [hb, Bool.false_or] at htk
        have HT := Lib.hid htk
        clear htk hb hd
        go_wp2_with fail
        go_quiet (fail)
        go_wp2_with fail
        exact ⟨⟨k + 1, by omega, by go_num, by rw [HT.out], _, rfl⟩, by simp [intOf]; omega⟩
      · rw [hb, Bool.true_or] at htk
        have HT := Lib.hid htk
        clear htk hb hd
        go_wp2_with fail
        go_quiet (fail)
        go_wp2_with fail
        exact ⟨⟨k + 1, by omega, by go_num, by rw [HT.out], _, rfl⟩, by simp [intOf]; omega⟩
    · obtain rfl : k = n := by omega
      have etk : s.1.l.take k = s.1.l := by rw [HN.out, List.take_length]
      rw [etk]
      clear etk
      have AU2 := Lib.hid (IS.out.au.drewN q)
      have OUT2 : Hid ((w1.drewN q).ownsRow wa.heap.size 24 5 (.slice AO k co) k (s.1.l.flatMap ceCells)) := own_keep (w' := w1.drewN q) OUT.out (fun _ _ => rfl)
      have BX2 := Lib.hid (BX1.out.drewN q)
      have B2 := Lib.hid (below_drewN B1.out q)
      clear IS OUT BX1 B1 hlt hk
      generalize w1.drewN q = w2 at *
      by_cases hc : c ∈ s.1.l
      focus
        rw [decide_eq_true hc]
        clear hc BX2
        have AU3 := AU2
        have OUT3 := OUT2
        have B3 := B2
        clear AU2 OUT2 B2
        rename World => w3
      rotate_left 1
      focus
        rw [decide_eq_false hc]
        have hck := check_not (a := s.1) hc c.v s.2
        have z0 := BX2.out.cell 0
        have z1 := BX2.out.cell 1
        have z2 := BX2.out.cell 2
        have z3 := BX2.out.cell 3
        have z4 := BX2.out.cell 4
        simp only [List.getElem?_toArray, List.getElem?_cons_zero, List.getElem?_cons_succ] at z0 z1 z2 z3 z4
        have CK := Lib.hid hck
        clear hc hck
        go_wp2_with fail
        refine (check_any c c.v s.2 AU2.out hs1 hs2 (INV.out.root)).mono ?_
        rintro e w3 ⟨he, l3⟩
        rw [CK.out] at he
        subst he
        have AU3 := Lib.hid (AU2.out.below l3)
        have OUT3 := Lib.hid (own_below OUT2.out l3)
        have B3 := Lib.hid (below_next B2.out l3)
        clear AU2 OUT2 B2 BX2 CK l3 z0 z1 z2 z3 z4
      all_goals
        by_cases hk0 : k = 0
        · have e0 : ((k : Int) == 0) = true := by simp; omega
          clear hk0
          go_wp2_with fail
          refine (lives_any _).mono ?_
          rintro e w9 ⟨rfl, l9⟩
          go_wp2_with fail
          go_ret
          exact ⟨rfl, below_next B3.out l9⟩
        · have e0 : ((k : Int) == 0) = false := by simp; omega
          have hk1 : 0 < k := by omega
          clear hk0
          by_cases hby : by_ = 0
          · have e1 : (by_ == 0) = true := by simpa using hby
            clear hby
            go_wp2_with fail
            refine (lives_any _).mono ?_
            rintro e w9 ⟨rfl, l9⟩
            go_wp2_with fail
            go_ret
            exact ⟨rfl, below_next B3.out l9⟩
          · have e1 : (by_ == 0) = false := by simpa using hby
            clear hby
            go_wp2_with fail
            refine (around_some which k _ h1 h2 (by omega) (by omega)).mono ?_
            rintro e w' ⟨m0, hm0, hm1, rfl, rfl⟩
            obtain ⟨m, rfl⟩ : ∃ m : Nat, m0 = (m : Int) := ⟨m0.toNat, by omega⟩
            obtain ⟨d, hd⟩ : ∃ d, s.1.l[m]? = some d := ⟨_, List.getElem?_eq_getElem (by have := HN.out; omega)⟩
            obtain ⟨gg, rfl, hgg, y0, y1, y2, y3, y4⟩ := out_at HN.out OUT3.out hd
            have hds := INV.out.ser m d hd
            have hds1 : 0 ≤ d.s := by omega
            have hds2 : d.s ≤ 1000 := by omega
            clear hds
            have HD := Lib.hid hd
            clear hd
            go_wp2_with fail
            refine (around_some field 5 _ h3 h4 (by omega) (by omega)).mono ?_
            rintro e w' ⟨fd, hf0, hf1, rfl, rfl⟩
            rcases (by omega : fd = 0 ∨ fd = 1 ∨ fd = 2 ∨ fd = 3 ∨ fd = 4) with rfl | rfl | rfl | rfl | rfl
            focus
              go_wp2_with fail
              obtain ⟨y, hy⟩ : ∃ y : Ce, y = ⟨wrap64 (d.s + by_), d.r, d.v, d.f, d.t⟩ := ⟨_, rfl⟩
              have BY : Hid (Blk (w3.alloc (.cells #[.int .i64 (wrap64 (d.s + by_)), .int .i64 d.r, .int .i64 d.v, .int .i64 d.f, .int .i64 d.t] 24)) w3.heap.size 24 (ceCells y).toArray) := by rw [hy]; exact Blk.new _ _ _
              have AU4 := Lib.hid (AU3.out.alloc (.cells #[.int .i64 (wrap64 (d.s + by_)), .int .i64 d.r, .int .i64 d.v, .int .i64 d.f, .int .i64 d.t] 24))
              have OUT4 := Lib.hid (OUT3.out.alloc (.cells #[.int .i64 (wrap64 (d.s + by_)), .int .i64 d.r, .int .i64 d.v, .int .i64 d.f, .int .i64 d.t] 24))
              have B4 := Lib.hid (below_alloc B3.out (.cells #[.int .i64 (wrap64 (d.s + by_)), .int .i64 d.r, .int .i64 d.v, .int .i64 d.f, .int .i64 d.t] 24))
              have ys1 : -9223372036854775808 ≤ y.s := by rw [hy]; exact (wrap64_lo _)
              have ys2 : y.s ≤ 9223372036854775807 := by rw [hy]; exact (wrap64_hi _)
              clear AU3 OUT3 B3 hy y0 y1 y2 y3 y4 hgg
              generalize w3.alloc (.cells #[.int .i64 (wrap64 (d.s + by_)), .int .i64 d.r, .int .i64 d.v, .int .i64 d.f, .int .i64 d.t] 24) = w4 at *
              generalize w3.heap.size = py at *
            rotate_left 1
            focus
              go_wp2_with fail
              obtain ⟨y, hy⟩ : ∃ y : Ce, y = ⟨d.s, wrap64 (d.r + by_), d.v, d.f, d.t⟩ := ⟨_, rfl⟩
              have BY : Hid (Blk (w3.alloc (.cells #[.int .i64 d.s, .int .i64 (wrap64 (d.r + by_)), .int .i64 d.v, .int .i64 d.f, .int .i64 d.t] 24)) w3.heap.size 24 (ceCells y).toArray) := by rw [hy]; exact Blk.new _ _ _
              have AU4 := Lib.hid (AU3.out.alloc (.cells #[.int .i64 d.s, .int .i64 (wrap64 (d.r + by_)), .int .i64 d.v, .int .i64 d.f, .int .i64 d.t] 24))
              have OUT4 := Lib.hid (OUT3.out.alloc (.cells #[.int .i64 d.s, .int .i64 (wrap64 (d.r + by_)), .int .i64 d.v, .int .i64 d.f, .int .i64 d.t] 24))
              have B4 := Lib.hid (below_alloc B3.out (.cells #[.int .i64 d.s, .int .i64 (wrap64 (d.r + by_)), .int .i64 d.v, .int .i64 d.f, .int .i64 d.t] 24))
              have ys1 : -9223372036854775808 ≤ y.s := by rw [hy]; show _ ≤ d.s; omega
              have ys2 : y.s ≤ 9223372036854775807 := by rw [hy]; show d.s ≤ _; omega
              clear AU3 OUT3 B3 hy y0 y1 y2 y3 y4 hgg
              generalize w3.alloc (.cells #[.int .i64 d.s, .int .i64 (wrap64 (d.r + by_)), .int .i64 d.v, .int .i64 d.f, .int .i64 d.t] 24) = w4 at *
              generalize w3.heap.size = py at *
            rotate_left 1
            focus
              go_wp2_with fail
              obtain ⟨y, hy⟩ : ∃ y : Ce, y = ⟨d.s, d.r, wrap64 (d.v + by_), d.f, d.t⟩ := ⟨_, rfl⟩
              have BY : Hid (Blk (w3.alloc (.cells #[.int .i64 d.s, .int .i64 d.r, .int .i64 (wrap64 (d.v + by_)), .int .i64 d.f, .int .i64 d.t] 24)) w3.heap.size 24 (ceCells y).toArray) := by rw [hy]; exact Blk.new _ _ _
              have AU4 := Lib.hid (AU3.out.alloc (.cells #[.int .i64 d.s, .int .i64 d.r, .int .i64 (wrap64 (d.v + by_)), .int .i64 d.f, .int .i64 d.t] 24))
              have OUT4 := Lib.hid (OUT3.out.alloc (.cells #[.int .i64 d.s, .int .i64 d.r, .int .i64 (wrap64 (d.v + by_)), .int .i64 d.f, .int .i64 d.t] 24))
              have B4 := Lib.hid (below_alloc B3.out (.cells #[.int .i64 d.s, .int .i64 d.r, .int .i64 (wrap64 (d.v + by_)), .int .i64 d.f, .int .i64 d.t] 24))
              have ys1 : -9223372036854775808 ≤ y.s := by rw [hy]; show _ ≤ d.s; omega
              have ys2 : y.s ≤ 9223372036854775807 := by rw [hy]; show d.s ≤ _; omega
              clear AU3 OUT3 B3 hy y0 y1 y2 y3 y4 hgg
              generalize w3.alloc (.cells #[.int .i64 d.s, .int .i64 d.r, .int .i64 (wrap64 (d.v + by_)), .int .i64 d.f, .int .i64 d.t] 24) = w4 at *
              generalize w3.heap.size = py at *
            rotate_left 1
            focus
              go_wp2_with fail
              obtain ⟨y, hy⟩ : ∃ y : Ce, y = ⟨d.s, d.r, d.v, wrap64 (d.f + by_), d.t⟩ := ⟨_, rfl⟩
              have BY : Hid (Blk (w3.alloc (.cells #[.int .i64 d.s, .int .i64 d.r, .int .i64 d.v, .int .i64 (wrap64 (d.f + by_)), .int .i64 d.t] 24)) w3.heap.size 24 (ceCells y).toArray) := by rw [hy]; exact Blk.new _ _ _
              have AU4 := Lib.hid (AU3.out.alloc (.cells #[.int .i64 d.s, .int .i64 d.r, .int .i64 d.v, .int .i64 (wrap64 (d.f + by_)), .int .i64 d.t] 24))
              have OUT4 := Lib.hid (OUT3.out.alloc (.cells #[.int .i64 d.s, .int .i64 d.r, .int .i64 d.v, .int .i64 (wrap64 (d.f + by_)), .int .i64 d.t] 24))
              have B4 := Lib.hid (below_alloc B3.out (.cells #[.int .i64 d.s, .int .i64 d.r, .int .i64 d.v, .int .i64 (wrap64 (d.f + by_)), .int .i64 d.t] 24))
              have ys1 : -9223372036854775808 ≤ y.s := by rw [hy]; show _ ≤ d.s; omega
              have ys2 : y.s ≤ 9223372036854775807 := by rw [hy]; show d.s ≤ _; omega
              clear AU3 OUT3 B3 hy y0 y1 y2 y3 y4 hgg
              generalize w3.alloc (.cells #[.int .i64 d.s, .int .i64 d.r, .int .i64 d.v, .int .i64 (wrap64 (d.f + by_)), .int .i64 d.t] 24) = w4 at *
              generalize w3.heap.size = py at *
            rotate_left 1
            focus
              go_wp2_with fail
              obtain ⟨y, hy⟩ : ∃ y : Ce, y = ⟨d.s, d.r, d.v, d.f, wrap64 (d.t + by_)⟩ := ⟨_, rfl⟩
              have BY : Hid (Blk (w3.alloc (.cells #[.int .i64 d.s, .int .i64 d.r, .int .i64 d.v, .int .i64 d.f, .int .i64 (wrap64 (d.t + by_))] 24)) w3.heap.size 24 (ceCells y).toArray) := by rw [hy]; exact Blk.new _ _ _
              have AU4 := Lib.hid (AU3.out.alloc (.cells #[.int .i64 d.s, .int .i64 d.r, .int .i64 d.v, .int .i64 d.f, .int .i64 (wrap64 (d.t + by_))] 24))
              have OUT4 := Lib.hid (OUT3.out.alloc (.cells #[.int .i64 d.s, .int .i64 d.r, .int .i64 d.v, .int .i64 d.f, .int .i64 (wrap64 (d.t + by_))] 24))
              have B4 := Lib.hid (below_alloc B3.out (.cells #[.int .i64 d.s, .int .i64 d.r, .int .i64 d.v, .int .i64 d.f, .int .i64 (wrap64 (d.t + by_))] 24))
              have ys1 : -9223372036854775808 ≤ y.s := by rw [hy]; show _ ≤ d.s; omega
              have ys2 : y.s ≤ 9223372036854775807 := by rw [hy]; show d.s ≤ _; omega
              clear AU3 OUT3 B3 hy y0 y1 y2 y3 y4 hgg
              generalize w3.alloc (.cells #[.int .i64 d.s, .int .i64 d.r, .int .i64 d.v, .int .i64 d.f, .int .i64 (wrap64 (d.t + by_))] 24) = w4 at *
              generalize w3.heap.size = py at *
            rotate_left 1
            all_goals
              go_loopw [17, 18] (fun v i wr => ∃ j : Nat, j ≤ k ∧ i = .int .i64 j ∧ v = .bool (decide (y ∈ s.1.l.take j)) ∧ ∃ q, wr = w4.drewN q) (fun _ i _ => k - (intOf i).toNat)
              case atStart => exact ⟨0, Nat.zero_le _, rfl, by simp, 0, rfl⟩
              case round =>
                obtain ⟨j, hj, rfl, rfl, q5, rfl⟩ := hrel
                have z0 := BY.out.cell 0
                have z1 := BY.out.cell 1
                have z2 := BY.out.cell 2
                have z3 := BY.out.cell 3
                have z4 := BY.out.cell 4
                simp only [ceCells, List.getElem?_toArray, List.getElem?_cons_zero, List.getElem?_cons_succ] at z0 z1 z2 z3 z4
                by_cases hlt : j < k
                · obtain ⟨d2, hd2⟩ : ∃ d2, s.1.l[j]? = some d2 := ⟨_, List.getElem?_eq_getElem (by have := HN.out; omega)⟩
                  have htk := take_mem y hd2
                  rcases hb : decide (y ∈ s.1.l.take j) with _ | _
                  · obtain ⟨g2, e2, _, y0, y1, y2, y3, y4⟩ := out_at HN.out OUT4.out hd2
                    injection e2 with e2
                    injection e2 with e2
                    subst e2
                    have he := fun w => eq_ce d2 y w
                    have hgd := guard_ce
                    rw [hb, Bool.false_or] at htk
                    have HT := Lib.hid htk
                    clear htk hb hd2
                    go_wp2_with fail
                    go_quiet (fail)
                    go_wp2_with fail
                    exact ⟨⟨j + 1, by omega, by go_num, by rw [HT.out], _, rfl⟩, by simp [intOf]; omega⟩
                  · rw [hb, Bool.true_or] at htk
                    have HT := Lib.hid htk
                    clear htk hb hd2
                    go_wp2_with fail
                    go_quiet (fail)
                    go_wp2_with fail
                    exact ⟨⟨j + 1, by omega, by go_num, by rw [HT.out], _, rfl⟩, by simp [intOf]; omega⟩
                · obtain rfl : j = k := by omega
                  have etk : s.1.l.take j = s.1.l := by rw [HN.out, List.take_length]
                  rw [etk]
                  clear etk
                  have AU5 := Lib.hid (AU4.out.drewN q5)
                  have B5 := Lib.hid (below_drewN B4.out q5)
                  by_cases hc : y ∈ s.1.l
                  · rw [decide_eq_true hc]
                    clear hc
                    go_wp2_with fail
                    refine (lives_any _).mono ?_
                    rintro e w9 ⟨rfl, l9⟩
                    go_wp2_with fail
                    go_ret
                    exact ⟨rfl, below_next B5.out l9⟩
                  · rw [decide_eq_false hc]
                    have CK := Lib.hid (check_not (a := s.1) hc y.v s.2)
                    clear hc
                    go_wp2_with fail
                    refine (check_any y y.v s.2 AU5.out ys1 ys2 (INV.out.root)).mono ?_
                    rintro e w6 ⟨he, l6⟩
                    rw [CK.out] at he
                    subst he
                    have B6 := Lib.hid (below_next B5.out l6)
                    clear l6
                    go_wp2_with fail
                    refine (lives_any _).mono ?_
                    rintro e w9 ⟨rfl, l9⟩
                    go_wp2_with fail
                    go_ret
                    exact ⟨rfl, below_next B6.out l9⟩

end Go.Proofs.Ytjknlijikojbmaa
