/- LeaseOnes's walk: slices of one are exact. No conditions. -/
import Derived.Test.YtaibhfcoapelcaaApartW
import Derived.Test.YtaibhfcoapelcaaMuchW
namespace Go.Proofs.Ytaibhfcoapelcaa
open Go.RowKit

/-- One more element at the end of a row of the call's own, at a step of a region that draws. -/
theorem step_pushn (w : World) {ops : Array Oper} {o : Oper} {a : Act} {K : Act → World → Prop} {Q : Exit → Act → World → Prop} {E : Prop} (hgd : o.guard = none) (s x : Operand) (t e : TypeId)
    (ho : o.op = .call { callee := .builtin .append, args := #[s, x], argTypes := #[t, t] }) (ht : Try.prog.underlying t = some (.slice e)) (z : Value) (size bytes : Nat)
    (hinf : (Try.prog.info? e).map (fun i => (i.zero, i.size, i.bytes)) = some (some z, size, bytes)) (hzs : z.cells.size = size) (hsz : 0 < size) (hby : bytes ≤ 64) (base : Nat)
    (v : Value) (n : Nat) (xs : List Value) (hs : a.eval s = v) (hown : w.ownsRow base e size v n xs) (hn : n ≤ 1000000) (ad : Addr) (c : Nat) (news : List Value) (hnl : news.length = size) (hx : a.eval x = .slice (some ad) 1 c)
    (h0 : ∀ j u, news[j]? = some u → w.cell? (ad.add j) = some u) (h1 : ∀ u ∈ news, u.oneCell' = true) (hbase : base ≤ w.heap.size)
    (hK : ∀ v' w', w'.ownsRow base e size v' (n + 1) (xs ++ news) → Chg (fun i => v.ownBlock = some i) w w' → K (a.put o.dst v') w') :
    if Region.wanted o (yielded ops a.tmps) = true then Oper.wp Try.prog o a w K Q else E := by
  have hw : Region.wanted o (yielded ops a.tmps) = true := by simp [Region.wanted, hgd]
  rw [if_pos hw]
  obtain ⟨i0, hi, hz0, hz1, hz2⟩ := info_parts hinf
  have hb : (n + 1) * bytes ≤ 140737488355328 := Nat.le_trans (Nat.mul_le_mul (show n + 1 ≤ 1000001 by omega) hby) (by omega)
  obtain ⟨v', w', hrun, r1, r2, _, r4⟩ := run_append_own_at (P := Try.prog) w base t o.type e i0 z size bytes ht hi hz0 hz1 hz2 hzs hsz v n xs hown ad 1 c news (by rw [hnl, Nat.one_mul]) h0 h1 (by unfold maxLen; omega) hb hbase
  unfold Oper.wp
  simp [execOp, ho, resolve, invoke, builtin, hs, hx, hrun, Result.andThen]
  exact hK v' w' r1 ⟨r2.os, r2.tape, r2.output, r2.size, fun k hk hne => r2.block k hk (fun e => hne e.symm)⟩

theorem run_append_nil (w : World) (base : Nat) (t ty e : TypeId) (i : TypeInfo) (size : Nat) (ht : Try.prog.underlying t = some (.slice e)) (hi : Try.prog.info? e = some i)
    (v : Value) (n : Nat) (xs : List Value) (hown : w.ownsRow base e size v n xs) : (Builtin.append_ #[t, t] ty #[v, .slice none 0 0]).run Try.prog w = .ok v w := by
  rcases hown.2 with ⟨rfl, rfl⟩ | ⟨g, cap, cur, rfl, _, _, hnc, _⟩
  · simp [Builtin.append_, run_underlying ht, sizeOf, typeInfo, hi, Builtin.lenOf, Builtin.firstCells]
  · simp [Builtin.append_, run_underlying ht, sizeOf, typeInfo, hi, Builtin.lenOf, Builtin.firstCells, hnc, storeCells]

/-- A row of the call's own at the end of another one. -/
theorem wpList_join (w : World) {ops : Array Oper} {rest : List Oper} {o : Oper} {a : Act} {Q : Exit → Act → World → Prop} (hgd : o.guard = none) (s x : Operand) (t e : TypeId)
    (ho : o.op = .call { callee := .builtin .append, args := #[s, x], argTypes := #[t, t] }) (ht : Try.prog.underlying t = some (.slice e)) (z : Value) (size bytes : Nat)
    (hinf : (Try.prog.info? e).map (fun i => (i.zero, i.size, i.bytes)) = some (some z, size, bytes)) (hzs : z.cells.size = size) (hsz : 0 < size) (hby : bytes ≤ 64) (base base2 : Nat)
    (v : Value) (n : Nat) (xs : List Value) (hs : a.eval s = v) (hown : w.ownsRow base e size v n xs) (v2 : Value) (m : Nat) (news : List Value) (hx : a.eval x = v2) (hown2 : w.ownsRow base2 e size v2 m news)
    (hn : n + m ≤ 1000000) (h1 : ∀ u ∈ news, u.oneCell' = true) (hbase : base ≤ w.heap.size)
    (hK : ∀ v' w', w'.ownsRow base e size v' (n + m) (xs ++ news) → Chg (fun i => v.ownBlock = some i) w w' → wpList Try.prog ops Q rest (a.put o.dst v') w') :
    wpList Try.prog ops Q (o :: rest) a w := by
  refine wpList_plain hgd fun K hK' => ?_
  obtain ⟨i0, hi, hz0, hz1, hz2⟩ := info_parts hinf
  have hb : (n + m) * bytes ≤ 140737488355328 := Nat.le_trans (Nat.mul_le_mul hn hby) (by omega)
  rcases h2 : hown2.2 with ⟨rfl, rfl⟩ | ⟨g, cap, cur, rfl, _⟩
  · have hrun := run_append_nil w base t o.type e i0 size ht hi v n xs hown
    have hn0 : news = [] := List.eq_nil_of_length_eq_zero (by simpa using hown2.1)
    subst hn0
    unfold Oper.wp
    simp [execOp, ho, resolve, invoke, builtin, hs, hx, hrun, Result.andThen]
    exact hK' _ _ (hK v w (by simpa using hown) (Chg.refl _ _))
  · obtain ⟨v', w', hrun, r1, r2, _, r4⟩ := run_append_own_at (P := Try.prog) w base t o.type e i0 z size bytes ht hi hz0 hz1 hz2 hzs hsz v n xs hown ⟨g, 0, none⟩ m cap news hown2.1 (hown2.cells rfl) h1 (by unfold maxLen; omega) hb hbase
    unfold Oper.wp
    simp [execOp, ho, resolve, invoke, builtin, hs, hx, hrun, Result.andThen]
    exact hK' _ _ (hK v' w' r1 ⟨r2.os, r2.tape, r2.output, r2.size, fun k hk hne => r2.block k hk (fun e => hne e.symm)⟩)

theorem wns_one (l : List Wn) : ∀ u ∈ l.flatMap wnCells, u.oneCell' = true := by
  intro u hu
  obtain ⟨x, _, hx⟩ := List.mem_flatMap.1 hu
  exact wnCells_one x u hx

/-- The same acts by one client. -/
def aln (a : Ac) : Ac := ⟨a.do_, a.at_, 0⟩
theorem GoodActs.alone {l : List Ac} (h : GoodActs l) : GoodActs (l.map aln) := by
  refine ⟨by simpa using h.few, ?_, ?_, ?_, ?_, ?_, ?_⟩
  · intro a ha
    obtain ⟨b, hb, rfl⟩ := List.mem_map.1 ha
    exact h.do_ b hb
  · intro a ha
    obtain ⟨b, hb, rfl⟩ := List.mem_map.1 ha
    exact h.at0 b hb
  · intro a ha
    obtain ⟨b, hb, rfl⟩ := List.mem_map.1 ha
    exact h.at1 b hb
  · intro a ha
    obtain ⟨b, hb, rfl⟩ := List.mem_map.1 ha
    exact Int.le_refl _
  · intro a ha
    obtain ⟨b, hb, rfl⟩ := List.mem_map.1 ha
    show (0 : Int) ≤ 2
    omega
  · rw [List.pairwise_map]
    exact h.up

set_option maxHeartbeats 8000000 in
theorem ones_walk (n : Int) (a : Option Addr) (len cap : Nat) (zs : List Int) (w : World) (h1 : -9223372036854775808 ≤ n) (h2 : n ≤ 9223372036854775807) (hr : IsRow w a len cap zs) :
    Calls Try.prog 9 #[.int .i64 n, .slice a len cap] w fun e w' => e = .returned (.bool true) ∧ Below w.heap.size w w' := by
  have HR := Lib.hid hr
  clear hr
  go_enter Try.func9, Try.ntmps9
  go_wp2_with fail
  refine (rate_any n _ h1 h2).mono ?_
  rintro e w1 ⟨L, W, S, hL1, hL2, hW1, hW2, hS1, hS2, rfl, l1⟩
  have L1 := Lib.hid l1
  clear l1 h1 h2
  have R1 := Lib.hid (Blk.new w1 23 #[.int .i64 L, .int .i64 W, .int .i64 S])
  have L2 := Lib.hid (below_alloc L1.out (.cells #[.int .i64 L, .int .i64 W, .int .i64 S] 23))
  go_wp2_with fail
  generalize w1.alloc (.cells #[.int .i64 L, .int .i64 W, .int .i64 S] 23) = W1 at *
  generalize w1.heap.size = rb at *
  refine (acts_any a len cap zs _ (HR.out.keep L2.out)).mono ?_
  rintro e wa ⟨v, l, rfl, good, own, bel⟩
  obtain ⟨A, c, rfl⟩ := own_form own
  have GOOD := Lib.hid good
  have RDA := Lib.hid (RdActs.of_own own)
  have ra := R1.out.below bel R1.out.lt
  have r0 := ra.cell 0
  have r1 := ra.cell 1
  have r2 := ra.cell 2
  simp only [List.getElem?_toArray, List.getElem?_cons_zero, List.getElem?_cons_succ] at r0 r1 r2
  have RA := Lib.hid ra
  have LA := Lib.hid (below_next L2.out bel)
  have hfew := good.few
  clear good own bel R1 L2 L1 HR ra
  go_wp2_with fail
  have RDB : Hid (RdActs (wa.alloc (.cells #[.int .i64 L, .int .i64 W, .int .i64 1] 23)) (wa.alloc (.cells #[.int .i64 L, .int .i64 W, .int .i64 1] 23)).heap.size A l.length l) := (RDA.out.below (below_alloc (Below.refl _ _) _)).more (by simp)
  have RB := Lib.hid (RA.out.alloc (.cells #[.int .i64 L, .int .i64 W, .int .i64 1] 23))
  have LB := Lib.hid (below_alloc LA.out (.cells #[.int .i64 L, .int .i64 W, .int .i64 1] 23))
  clear r0 r1 r2 RA RDA LA
  generalize wa.alloc (.cells #[.int .i64 L, .int .i64 W, .int .i64 1] 23) = wb at *
  refine (wins_any W L 1 A c l _ RDB.out GOOD.out hL1 hL2 hW1 hW2 (by omega) hL1).mono ?_
  rintro e wc ⟨A1, n1, c1, rfl, hn1, hn2, own1, bel1⟩
  have GD1 : Hid (∀ x ∈ (run W L 1 l).out, Good L 1 False x) := run_good GOOD.out hL1 (by omega) hW1 False (fun h => h.elim)
  have HN1 := Lib.hid hn1
  have OWN1 := Lib.hid own1
  have RDC := Lib.hid ((RDB.out.below bel1).more bel1.size)
  have RC := Lib.hid (RB.out.below bel1 RB.out.lt)
  have LC := Lib.hid (below_next LB.out bel1)
  have HWB : Hid (w.heap.size ≤ wb.heap.size) := LB.out.size
  have HWD : Hid (Below wb.heap.size wb wc) := bel1
  clear hn1 own1 bel1 RDB RB LB
  generalize hq : run W L 1 l = q1 at *
  clear hq
  go_wp2_with fail
  go_loopw [9, 10] (fun v i wr => ∃ k : Nat, k ≤ l.length ∧ i = .int .i64 k ∧ wr.ownsRow wc.heap.size 45 3 v k ((l.take k).map aln |>.flatMap acCells) ∧ Below wc.heap.size wc wr) (fun _ i _ => l.length - (intOf i).toNat)
  case atStart => exact ⟨0, Nat.zero_le _, rfl, World.ownsRow_nil _ _ _ _, Below.refl _ _⟩
  case round =>
    obtain ⟨k, hk, rfl, own, bel⟩ := hrel
    have OWN := Lib.hid own
    have BEL := Lib.hid bel
    clear own bel
    by_cases hlt : k < l.length
    · obtain ⟨x, hx⟩ : ∃ x, l[k]? = some x := ⟨_, List.getElem?_eq_getElem hlt⟩
      obtain ⟨g, off, rfl, hg, x0, x1, _⟩ := RDC.out.2 k x hx
      have NCH : Hid (∀ w5, Below wc.heap.size wc w5 → (w5.cell? ⟨g, off + k * 3, none⟩ = some (.int .i64 x.do_) ∧ w5.cell? ⟨g, off + k * 3 + 1, none⟩ = some (.int .i64 x.at_))) := by
        intro w5 h5
        exact ⟨(h5.cell (p := ⟨g, _, none⟩) hg).trans x0, (h5.cell (p := ⟨g, _, none⟩) hg).trans x1⟩
      have B0 : Hid (Below wc.heap.size wc wr.drew) := BEL.out.drew
      have HX := Lib.hid hx
      have OW0 : Hid ((wr.drew.alloc (.cells #[.int .i64 x.do_, .int .i64 x.at_, .int .i64 0] 45)).ownsRow wc.heap.size 45 3 u9 k ((l.take k).map aln |>.flatMap acCells)) := (own_keep (w' := wr.drew) OWN.out (fun _ _ => rfl)).alloc _
      have BA : Hid (Below wc.heap.size wc (wr.drew.alloc (.cells #[.int .i64 x.do_, .int .i64 x.at_, .int .i64 0] 45))) := B0.out.alloc B0.out.size _
      have hk6 : k ≤ 60 := by omega
      clear hx hg x0 x1
      go_wp2_with fail
      have NEW : Hid (∀ j u, (acCells (aln x))[j]? = some u → (wr.drew.alloc (.cells #[.int .i64 x.do_, .int .i64 x.at_, .int .i64 0] 45)).cell? ((⟨wr.heap.size, 0, none⟩ : Addr).add j) = some u) := new_cells wr.drew 45 (acCells (aln x))
      go_region_held3 (fun w' => w'.cell? ⟨g, off + k * 3, none⟩ = some (.int .i64 x.do_) ∧ w'.cell? ⟨g, off + k * 3 + 1, none⟩ = some (.int .i64 x.at_))
        (first | exact NCH.out _ (Hid.out ‹Hid (Below wc.heap.size wc _)›) | exact NCH.out _ B0.out | exact NCH.out _ BA.out)
        ((refine step_pushn _ rfl (.tmp 27) (.tmp 39) 42 45 (by rfl) Try.underlying42 _ 3 24 info45 rfl (by omega) (by omega) wc.heap.size u9 k _ (by rfl) OW0.out (by omega) ⟨wr.heap.size, 0, none⟩ 1 (acCells (aln x)) rfl (by rfl) NEW.out (acCells_one _) BA.out.size ?_; intro v2 w2 own2 ch2; have BB : Hid (Below wc.heap.size wc w2) := BA.out.trans (ch2.below (B := wc.heap.size) (fun g hg => (OW0.out.lt g hg).1) BA.out.size); have OW2 := Lib.hid own2; clear own2 ch2))
      rename_i hHeld
      clear hHeld B0 BA OW0 NEW NCH
      go_wp2_with fail
      refine ⟨⟨k + 1, by omega, by go_num, ?_, BB.out⟩, by simp [intOf]; omega⟩
      have e : ((l.take (k + 1)).map aln).flatMap acCells = ((l.take k).map aln).flatMap acCells ++ acCells (aln x) := by
        obtain ⟨hlt2, e2⟩ := List.getElem?_eq_some_iff.1 HX.out
        rw [List.take_succ_eq_append_getElem hlt2, e2, List.map_append, List.flatMap_append]
        simp
      show w2.ownsRow wc.heap.size 45 3 v2 (k + 1) (((l.take (k + 1)).map aln).flatMap acCells)
      rw [e]
      exact OW2.out
    · obtain rfl : k = l.length := by omega
      have own9 := OWN.out
      rw [List.take_length] at own9
      obtain ⟨A9, c9, rfl⟩ := own_form own9
      have r0 := (RC.out.below BEL.out RC.out.lt).cell 0
      have r1 := (RC.out.below BEL.out RC.out.lt).cell 1
      have r2 := (RC.out.below BEL.out RC.out.lt).cell 2
      simp only [List.getElem?_toArray, List.getElem?_cons_zero, List.getElem?_cons_succ] at r0 r1 r2
      have hml : (l.map aln).length = l.length := by simp
      have RD9 : Hid (RdActs wr wr.heap.size A9 l.length (l.map aln)) := by
        have h := RdActs.of_own (l := l.map aln) (A := A9) (c := c9) (w := wr) (base := wc.heap.size) (by rw [hml]; exact own9)
        rwa [hml] at h
      have HML := Lib.hid hml
      clear own9 OWN hml
      go_wp2_with fail
      refine (wins_at W L S A9 l.length c9 (l.map aln) _ HML.out RD9.out GOOD.out.alone hL1 hL2 hW1 hW2 hS1 hS2).mono ?_
      rintro e wd ⟨A2, n2, c2, rfl, hn3, hn4, own2, bel2⟩
      have GD2 : Hid (∀ x ∈ (run W L S (l.map aln)).out, Good L S True x) := run_good GOOD.out.alone hL1 hS1 hW1 True (fun _ a ha => by
        obtain ⟨b, _, rfl⟩ := List.mem_map.1 ha
        rfl)
      have HN2 := Lib.hid hn3
      have OWN2 := Lib.hid own2
      have BW : Hid (Below wc.heap.size wc wd) := below_next BEL.out bel2
      have OWN1b : Hid (wd.ownsRow wb.heap.size 58 4 (.slice A1 n1 c1) n1 (List.flatMap wnCells q1.out)) := own_below OWN1.out BW.out
      clear hn3 own2 bel2 OWN1 BEL r0 r1 r2
      generalize hq : run W L S (l.map aln) = q2 at *
      clear hq
      have LD := Lib.hid (below_next LC.out BW.out)
      have RD := Lib.hid (RC.out.below BW.out RC.out.lt)
      have SZ : Hid (wb.heap.size ≤ wd.heap.size) := Nat.le_trans HWD.out.size BW.out.size
      go_wp2_with (
        at_builtin
        refine wpList_join _ rfl (.tmp 41) (.tmp 44) 55 58 (by rfl) Try.underlying55 _ 4 32 info58 rfl (by omega) (by omega) wb.heap.size wr.heap.size (.slice A1 n1 c1) n1 (q1.out.flatMap wnCells) (by rfl) OWN1b.out (.slice A2 n2 c2) n2 (q2.out.flatMap wnCells) (by rfl) OWN2.out (by omega) (wns_one _) SZ.out ?_
        intro v3 wx own3 ch3
        obtain ⟨A3, c3, rfl⟩ := own_form own3
        have OWN3 : Hid (RdWns wx A3 (q1.out ++ q2.out)) := RdWns.of_own (base := wb.heap.size) (n := n1 + n2) (c := c3) (by rw [List.length_append, ← HN1.out, ← HN2.out]) (by rw [List.flatMap_append]; exact own3)
        have LX : Hid (Below w.heap.size w wx) := LD.out.trans (ch3.below (B := w.heap.size) (fun g hg => Nat.le_trans HWB.out (OWN1b.out.lt g hg).1) LD.out.size)
        have RX : Hid (Blk wx rb 23 #[.int .i64 L, .int .i64 W, .int .i64 S]) := RD.out.chg ch3 (own_blk_ne OWN1b.out RD.out (by decide))
        clear own3 ch3 RD LD SZ OWN2 OWN1b)
      have GD : Hid (∀ x ∈ q1.out ++ q2.out, 0 ≤ x.adm ∧ x.adm ≤ L ∧ x.adm ≤ x.asked ∧ (x.forgot = false → x.adm = min x.asked L)) := by
        intro x hx
        rcases List.mem_append.1 hx with hx | hx
        · have := GD1.out x hx
          exact ⟨this.adm0, this.most, this.le, fun hf => this.ones hf (.inl rfl)⟩
        · have := GD2.out x hx
          exact ⟨this.adm0, this.most, this.le, fun hf => this.ones hf (.inr trivial)⟩
      have HN : Hid (n1 + n2 = (q1.out ++ q2.out).length) := by rw [List.length_append, ← HN1.out, ← HN2.out]; rfl
      have hn12 : n1 + n2 ≤ 120 := by omega
      clear GD1 GD2 HN1 HN2 BW RD9 HML hk hlt HWB HWD LC RC RDC GOOD
      generalize n1 + n2 = m at *
      generalize q1.out ++ q2.out = xs at *
      go_loopw [11] (fun i wr => ∃ k : Nat, k ≤ m ∧ i = .int .i64 k ∧ Below wx.heap.size wx wr) (fun i _ => m - (intOf i).toNat)
      case atStart => exact ⟨0, Nat.zero_le _, rfl, Below.refl _ _⟩
      case round =>
        obtain ⟨k, hk, rfl, bel⟩ := hrel
        have BEL := Lib.hid bel
        clear bel
        by_cases hlt : k < m
        · obtain ⟨x, hx⟩ : ∃ x, xs[k]? = some x := ⟨_, List.getElem?_eq_getElem (by have := HN.out; omega)⟩
          obtain ⟨g, rfl, hg, _, x1, x2, x3⟩ := OWN3.out k x hx
          obtain ⟨p0, p1, p2, p3⟩ := GD.out x (List.mem_of_getElem? hx)
          have P3 := Lib.hid p3
          clear hx p3
          have r0 := RX.out.cell 0
          have r1 := RX.out.cell 1
          have r2 := RX.out.cell 2
          simp only [List.getElem?_toArray, List.getElem?_cons_zero, List.getElem?_cons_succ] at r0 r1 r2
          have NCH : Hid (∀ w5, Below wx.heap.size wx w5 → (w5.cell? ⟨g, k * 4 + 1, none⟩ = some (.int .i64 x.asked) ∧ w5.cell? ⟨g, k * 4 + 2, none⟩ = some (.int .i64 x.adm) ∧ w5.cell? ⟨g, k * 4 + 3, none⟩ = some (.bool x.forgot) ∧
              w5.cell? ⟨rb, 0, none⟩ = some (.int .i64 L) ∧ w5.cell? ⟨rb, 1, none⟩ = some (.int .i64 W) ∧ w5.cell? ⟨rb, 2, none⟩ = some (.int .i64 S))) := by
            intro w5 h5
            have hrl := RX.out.lt
            have keep : ∀ (g' o : Nat) (u : Value), wx.cell? ⟨g', o, none⟩ = some u → g' < wx.heap.size → w5.cell? ⟨g', o, none⟩ = some u := fun g' o u hu hl => (h5.cell (p := ⟨g', o, none⟩) hl).trans hu
            exact ⟨keep _ _ _ x1 hg, keep _ _ _ x2 hg, keep _ _ _ x3 hg, keep _ _ _ r0 hrl, keep _ _ _ r1 hrl, keep _ _ _ r2 hrl⟩
          have B0 : Hid (Below wx.heap.size wx wr.drew) := BEL.out.drew
          clear r0 r1 r2 x1 x2 x3 hg
          rcases hf : x.forgot with _ | _
          · rw [hf] at NCH
            obtain ⟨mn, hmn⟩ : ∃ mn : Int, mn = min x.asked L := ⟨_, rfl⟩
            have E : Hid (min x.asked L = mn) := hmn.symm
            have hne : (x.adm != mn) = false := by simp; rw [hmn]; exact P3.out hf
            clear P3 hf hmn
            go_wp2_with fail
            go_region_held3 (fun w' => w'.cell? ⟨g, k * 4 + 1, none⟩ = some (.int .i64 x.asked) ∧ w'.cell? ⟨g, k * 4 + 2, none⟩ = some (.int .i64 x.adm) ∧ w'.cell? ⟨g, k * 4 + 3, none⟩ = some (.bool false) ∧ w'.cell? ⟨rb, 0, none⟩ = some (.int .i64 L) ∧ w'.cell? ⟨rb, 1, none⟩ = some (.int .i64 W) ∧ w'.cell? ⟨rb, 2, none⟩ = some (.int .i64 S))
              (exact NCH.out _ (Hid.out ‹Hid (Below wx.heap.size wx _)›))
              ((go_at_call 18; (with_reducible refine (exact_is L W S x.asked mn _ E.out).mono ?_); rintro e w5 ⟨rfl, l5⟩; have B1 : Hid (Below wx.heap.size wx w5) := below_next (a := wx) B0.out l5; clear l5 B0))
            rename_i hHeld
            clear hHeld
            go_wp2
            exact ⟨⟨k + 1, by omega, by go_num, B1.out⟩, by simp [intOf]; omega⟩
          · rw [hf] at NCH
            have c3 := (NCH.out wr BEL.out).2.2.1
            clear P3 hf NCH
            go_wp2_with fail
            go_quiet (fail)
            go_wp2
            exact ⟨⟨k + 1, by omega, by go_num, below_drewN BEL.out _⟩, by simp [intOf]; omega⟩
        · go_wp2_with fail
          refine (lives_any _).mono ?_
          rintro e w9 ⟨rfl, l9⟩
          go_wp2_with fail
          go_ret
          exact ⟨rfl, below_next (below_next LX.out BEL.out) l9⟩

end Go.Proofs.Ytaibhfcoapelcaa
