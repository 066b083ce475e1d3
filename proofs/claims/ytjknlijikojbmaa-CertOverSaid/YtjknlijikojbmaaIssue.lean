/- Issue and Rotate. -/
import Derived.Test.YtjknlijikojbmaaOps
import Derived.Deep.RegionLaw
import Derived.BigRegion
import Derived.RegionTactic
import Derived.ChangeAlike
namespace Go.Proofs.Ytjknlijikojbmaa
open Go.RowKit

theorem info24 : (Try.prog.info? 24).map (fun i => (i.zero, i.size, i.bytes)) = some (some (.agg #[.int .i64 0, .int .i64 0, .int .i64 0, .int .i64 0, .int .i64 0]), 5, 40) := by kernel_rfl

theorem step_append_run {w w2 : World} {v y v2 : Value} {ops : Array Oper} {o : Oper} {a : Act} {K : Act → World → Prop} {Q : Exit → Act → World → Prop} {E : Prop} (hgd : o.guard = none) (s x : Operand) (t : TypeId)
    (ho : o.op = .call { callee := .builtin .append, args := #[s, x], argTypes := #[t, t] }) (hs : a.eval s = v) (hx : a.eval x = y) (hrun : (Builtin.append_ #[t, t] o.type #[v, y]).run Try.prog w = .ok v2 w2) (hK : K (a.put o.dst v2) w2) :
    if Region.wanted o (yielded ops a.tmps) = true then Oper.wp Try.prog o a w K Q else E := by
  have hw : Region.wanted o (yielded ops a.tmps) = true := by simp [Region.wanted, hgd]
  rw [if_pos hw]
  unfold Oper.wp
  simp [execOp, ho, resolve, invoke, builtin, hs, hx, hrun, Result.andThen]
  exact hK

theorem own_own_ne {w : World} {b1 b2 e1 e2 s1 s2 n1 n2 i : Nat} {v1 v2 : Value} {x1 x2 : List Value} (h1 : w.ownsRow b1 e1 s1 v1 n1 x1) (h2 : w.ownsRow b2 e2 s2 v2 n2 x2) (hne : e1 ≠ e2) (h : v1.ownBlock = some i) : v2.ownBlock ≠ some i := by
  rcases h1.2 with ⟨rfl, _⟩ | ⟨g', cap, cur, rfl, _, hh, _⟩
  · simp [Value.ownBlock] at h
  · have : g' = i := by simpa [Value.ownBlock] using h
    subst this
    exact own_blk_ne h2 (t := e1) hh (Ne.symm hne)

def IssueIs (base : Nat) (g : Nat) (vG : Value) (b : Nat) (vU : Value) (a : Au) (v now life : Int) (w : World) (e : Ending) (w' : World) : Prop :=
  ∃ vG', e = .returned (a.cert v now life).val ∧ AuIs base w' g vG' b vU (a.issue v now life) ∧ Chg (fun i => i = g ∨ vG.ownBlock = some i) w w' ∧ ∀ i, vG'.ownBlock = some i → vG.ownBlock = some i ∨ w.heap.size ≤ i

theorem issue_end {base : Nat} {w w2 W : World} {g b cap cap2 k : Nat} {A A2 : Option Addr} {vU : Value} {a : Au} {v now life : Int} (h : AuIs base w g (.slice A a.l.length cap) b vU a) (hf : a.l.length < 1000)
    (own : w2.ownsRow base 24 5 (.slice A2 (a.l.length + 1) cap2) (a.l.length + 1) (a.l.flatMap ceCells ++ ceCells (a.cert v now life))) (ch : Chg (fun i => i = g ∨ (Value.slice A a.l.length cap).ownBlock = some i) w W) (cx : Chg (fun i => i = g ∨ i = w.heap.size) w2 W)
    (bg : Blk W g 51 ((#[.slice A a.l.length cap, .map (some b), vU] : Array Value).setIfInBounds 0 (.slice A2 (a.l.length + 1) cap2))) (ng : (Value.slice A2 (a.l.length + 1) cap2).ownBlock ≠ some g)
    (nh : (Value.slice A2 (a.l.length + 1) cap2).ownBlock = (Value.slice A a.l.length cap).ownBlock ∨ (Value.slice A2 (a.l.length + 1) cap2).ownBlock = some k) (hk : w.heap.size < k) :
    IssueIs base g (.slice A a.l.length cap) b vU a v now life w (.returned (a.cert v now life).val) W := by
  simp only [List.setIfInBounds_toArray, List.set_cons_zero] at bg
  have e1 : (a.issue v now life).l.length = a.l.length + 1 := by simp [Au.issue]
  have e2 : (a.issue v now life).l.flatMap ceCells = a.l.flatMap ceCells ++ ceCells (a.cert v now life) := by simp [Au.issue]
  refine ⟨_, rfl, ⟨bg, ?_, h.set.of_block (ch.block b h.set.lt ?_), own_chg h.ownU ch ?_, h.hg, h.hb, by rw [e1]; omega, h.fewU⟩, ch, ?_⟩
  · rw [e1, e2]
    refine own_chg own cx (fun i hi => ?_)
    rintro (rfl | rfl)
    · exact ng hi
    · rcases nh with e | e
      · rw [e] at hi
        have := (h.own.lt _ hi).2
        omega
      · rw [e] at hi
        injection hi with hi
        omega
  · rintro (e | e)
    · exact h.set.ne_blk h.blk e.symm
    · exact h.set.ne_own h.own e
  · intro i hi
    rintro (rfl | e)
    · exact own_blk_ne h.ownU h.blk (by decide) hi
    · exact own_own_ne h.own h.ownU (by decide) e hi
  · intro i hi
    rcases nh with e | e
    · rw [e] at hi
      exact .inl hi
    · rw [e] at hi
      injection hi with hi
      exact .inr (by omega)

set_option maxHeartbeats 2000000 in
theorem issue_any {base : Nat} {w : World} {g : Nat} {vG : Value} {b : Nat} {vU : Value} {a : Au} (v now life : Int) (h : AuIs base w g vG b vU a) (hb : base ≤ w.heap.size) (hf : a.l.length < 1000) (hn0 : 0 ≤ now) (hn1 : now ≤ 1000000) (hl0 : 0 ≤ life) (hl1 : life ≤ 1000000) :
    Calls Try.prog 12 #[.pointer (some ⟨g, 0, none⟩), .int .i64 v, .int .i64 now, .int .i64 life] w (IssueIs base g vG b vU a v now life w) := by
  obtain ⟨A, cap, rfl⟩ := own_form h.own
  have H := Lib.hid h
  have BS := Lib.hid (Blk.new w 24 #[.int .i64 0, .int .i64 0, .int .i64 0, .int .i64 0, .int .i64 0])
  have AU := Lib.hid (h.alloc (.cells #[.int .i64 0, .int .i64 0, .int .i64 0, .int .i64 0, .int .i64 0] 24))
  have BEL := Lib.hid (below_alloc (Below.refl w.heap.size w) (.cells #[.int .i64 0, .int .i64 0, .int .i64 0, .int .i64 0, .int .i64 0] 24))
  have hfu := h.fewU
  have hn : a.n = a.u.length + 1 := rfl
  have hn2 : a.n ≤ 1001 := by omega
  have HN := Lib.hid hn
  clear hn
  have wr1 : IntKind.i64.wrap ((a.l.length : Int) + 1) = (a.l.length : Int) + 1 := IntWalk.i64_in _ (by omega)
  have wr2 : IntKind.i64.wrap (now + life) = now + life := IntWalk.i64_in _ (by omega)
  clear h
  go_enter Try.func12, Try.ntmps12
  go_wp2_with fail
  generalize w.alloc (.cells #[.int .i64 0, .int .i64 0, .int .i64 0, .int .i64 0, .int .i64 0] 24) = W1 at *
  have AUD := Lib.hid AU.out.drew
  have AUD2 := Lib.hid (AU.out.alloc (.cells #[.int .i64 0, .int .i64 0, .int .i64 0, .int .i64 0, .int .i64 0] 24)).drew
  have NCH : Hid (∀ w5, Below W1.heap.size W1 w5 → w5.cell? ⟨g, 0, none⟩ = some (.slice A a.l.length cap)) := by
    intro w5 h5
    rw [h5.cell (p := ⟨g, 0, none⟩) AU.out.blk.lt]
    exact AU.out.blk.cell 0
  go_region_held3 (fun w' => w'.cell? ⟨g, 0, none⟩ = some (.slice A a.l.length cap))
    (first | exact NCH.out _ (Below.refl _ _).drew | exact NCH.out _ ((Below.refl _ _).alloc (Nat.le_refl _) _).drew)
    (first | (go_at_call 26; (with_reducible refine (newest_any AUD2.out).mono ?_); rintro e w' ⟨rfl, rfl⟩) | (go_at_call 26; (with_reducible refine (newest_any AUD.out).mono ?_); rintro e w' ⟨rfl, rfl⟩))
  all_goals (
    rename_i hHeld
    clear hHeld
    have CB := Lib.hid ((Blk.new W1 24 #[.int .i64 ((a.l.length : Int) + 1), .int .i64 (a.n : Int), .int .i64 v, .int .i64 now, .int .i64 (now + life)]).drew)
    have AU2 := Lib.hid ((AU.out.alloc (.cells #[.int .i64 ((a.l.length : Int) + 1), .int .i64 (a.n : Int), .int .i64 v, .int .i64 now, .int .i64 (now + life)] 24)).drew)
    have BEL2 := Lib.hid ((below_alloc BEL.out (.cells #[.int .i64 ((a.l.length : Int) + 1), .int .i64 (a.n : Int), .int .i64 v, .int .i64 now, .int .i64 (now + life)] 24)).drew)
    have BS2 := Lib.hid ((BS.out.alloc (.cells #[.int .i64 ((a.l.length : Int) + 1), .int .i64 (a.n : Int), .int .i64 v, .int .i64 now, .int .i64 (now + life)] 24)).drew)
    have HSZ : Hid (w.heap.size < W1.heap.size) := BS.out.lt
    clear AUD AUD2 NCH BS AU BEL
    generalize (W1.alloc (.cells #[.int .i64 ((a.l.length : Int) + 1), .int .i64 (a.n : Int), .int .i64 v, .int .i64 now, .int .i64 (now + life)] 24)).drew = W2 at *
    generalize W1.heap.size = p at *
    go_wp2_with fail
    obtain ⟨i0, hi, hz0, hz1, hz2⟩ := info_parts info24
    obtain ⟨v2, w2, hrun, r1, r2, _, r4⟩ := run_append_own_at (P := Try.prog) ((W2.alloc (.cells #[.int .i64 ((a.l.length : Int) + 1), .int .i64 (a.n : Int), .int .i64 v, .int .i64 now, .int .i64 (now + life)] 24)).drew) base 26 26 24 i0 _ 5 40 Try.underlying26 hi hz0 hz1 hz2 rfl (by omega) (.slice A a.l.length cap) a.l.length (a.l.flatMap ceCells)
      (own_keep (w' := (W2.alloc (.cells #[.int .i64 ((a.l.length : Int) + 1), .int .i64 (a.n : Int), .int .i64 v, .int .i64 now, .int .i64 (now + life)] 24)).drew) (AU2.out.own.alloc (.cells #[.int .i64 ((a.l.length : Int) + 1), .int .i64 (a.n : Int), .int .i64 v, .int .i64 now, .int .i64 (now + life)] 24)) (fun _ _ => rfl)) ⟨W2.heap.size, 0, none⟩ 1 1 (ceCells (a.cert v now life)) rfl (new_cells W2 24 (ceCells (a.cert v now life))) (ceCells_one _) (by unfold maxLen; omega) (by omega) (by have := BEL2.out.size; show base ≤ (W2.alloc _).heap.size; simp; omega)
    obtain ⟨A2, cap2, rfl⟩ := own_form r1
    have hne : (Value.slice A a.l.length cap).ownBlock ≠ some g := own_blk_ne AU2.out.own AU2.out.blk (by decide)
    have ag := ((AU2.out.alloc (.cells #[.int .i64 ((a.l.length : Int) + 1), .int .i64 (a.n : Int), .int .i64 v, .int .i64 now, .int .i64 (now + life)] 24)).drew)
    have bg2 := ag.blk.grown r2 (fun e => hne e.symm)
    have c0 := AU2.out.blk.cell 0
    have k0 := ag.blk.cell 0
    have j0 := bg2.cell 0
    have jf := bg2.frozen 0
    have x0 := CB.out.cell 0
    have x1 := CB.out.cell 1
    have x2 := CB.out.cell 2
    have x3 := CB.out.cell 3
    have x4 := CB.out.cell 4
    simp only [List.getElem?_toArray, List.getElem?_cons_zero, List.getElem?_cons_succ] at c0 k0 j0 x0 x1 x2 x3 x4
    have y0 := old_cell x0 (.cells #[.int .i64 ((a.l.length : Int) + 1), .int .i64 (a.n : Int), .int .i64 v, .int .i64 now, .int .i64 (now + life)] 24)
    have y1 := old_cell x1 (.cells #[.int .i64 ((a.l.length : Int) + 1), .int .i64 (a.n : Int), .int .i64 v, .int .i64 now, .int .i64 (now + life)] 24)
    have y2 := old_cell x2 (.cells #[.int .i64 ((a.l.length : Int) + 1), .int .i64 (a.n : Int), .int .i64 v, .int .i64 now, .int .i64 (now + life)] 24)
    have y3 := old_cell x3 (.cells #[.int .i64 ((a.l.length : Int) + 1), .int .i64 (a.n : Int), .int .i64 v, .int .i64 now, .int .i64 (now + life)] 24)
    have y4 := old_cell x4 (.cells #[.int .i64 ((a.l.length : Int) + 1), .int .i64 (a.n : Int), .int .i64 v, .int .i64 now, .int .i64 (now + life)] 24)
    have z0 := old_cell c0 (.cells #[.int .i64 ((a.l.length : Int) + 1), .int .i64 (a.n : Int), .int .i64 v, .int .i64 now, .int .i64 (now + life)] 24)
    have R1 := Lib.hid r1
    have R2 := Lib.hid r2
    have R4 := Lib.hid r4
    have BG2 := Lib.hid bg2
    clear r1 r2 r4 bg2 ag hi hz0 hz1 hz2 hne k0
    rename_i dead
    clear dead
    go_region_law (refine step_append_run rfl (.tmp 28) (.tmp 30) 26 (by rfl) (by rfl) (by rfl) hrun ?_)
    all_goals (
      have nvg : ∀ i, (Value.slice A a.l.length cap).ownBlock = some i → i < w.heap.size := fun i hi => (H.out.own.lt i hi).2
      have hgw : g < w.heap.size := H.out.blk.lt
      have hpw : w.heap.size < p := HSZ.out
      have ng2 : ∀ q, w.heap.size ≤ q → some q ≠ (Value.slice A a.l.length cap).ownBlock := fun q hq e => by have := nvg q e.symm; omega
      have BP3 := Lib.hid ((((CB.out.alloc (.cells #[.int .i64 ((a.l.length : Int) + 1), .int .i64 (a.n : Int), .int .i64 v, .int .i64 now, .int .i64 (now + life)] 24)).drew).grown R2.out (ng2 p (by omega))).far (p := ⟨g, 0, none⟩) (by show p ≠ g; omega) (.slice A2 (a.l.length + 1) cap2))
      have BR3 := Lib.hid ((((BS2.out.alloc (.cells #[.int .i64 ((a.l.length : Int) + 1), .int .i64 (a.n : Int), .int .i64 v, .int .i64 now, .int .i64 (now + life)] 24)).drew).grown R2.out (ng2 w.heap.size (by omega))).far (p := ⟨g, 0, none⟩) (by show w.heap.size ≠ g; omega) (.slice A2 (a.l.length + 1) cap2))
      have BG3 := Lib.hid (BG2.out.set_ 0 (.slice A2 (a.l.length + 1) cap2))
      have CH2 : Hid (Chg (fun i => i = g ∨ (Value.slice A a.l.length cap).ownBlock = some i) w w2) := (((Chg.of_below BEL2.out).alloc (.cells #[.int .i64 ((a.l.length : Int) + 1), .int .i64 (a.n : Int), .int .i64 v, .int .i64 now, .int .i64 (now + life)] 24)).drew).trans ⟨R2.out.os, R2.out.tape, R2.out.output, R2.out.size, fun k hk hn => R2.out.block k hk (fun e => hn (.inr e.symm))⟩
      have CH3 := Lib.hid (CH2.out.set g 0 (.inl (.inl rfl)) (.slice A2 (a.l.length + 1) cap2))
      have CX3 := Lib.hid ((Chg.refl (fun i => i = g ∨ i = w.heap.size) w2).set g 0 (.inl (.inl rfl)) (.slice A2 (a.l.length + 1) cap2))
      have SZ2 : Hid (w.heap.size < W2.heap.size + 1) := Nat.lt_succ_of_lt BS2.out.lt
      have NG2 : Hid ((Value.slice A2 (a.l.length + 1) cap2).ownBlock ≠ some g) := own_blk_ne R1.out BG2.out (by decide)
      have NH2 : Hid ((Value.slice A2 (a.l.length + 1) cap2).ownBlock = (Value.slice A a.l.length cap).ownBlock ∨ (Value.slice A2 (a.l.length + 1) cap2).ownBlock = some (W2.heap.size + 1)) := by
        have h4 := R4.out
        rw [show (W2.alloc (.cells #[.int .i64 ((a.l.length : Int) + 1), .int .i64 (a.n : Int), .int .i64 v, .int .i64 now, .int .i64 (now + life)] 24)).drew.heap.size = W2.heap.size + 1 from by show (W2.alloc _).heap.size = _; simp] at h4
        exact h4
      clear c0 j0 jf x0 x1 x2 x3 x4 y0 y1 y2 y3 y4 z0 hrun nvg ng2 BG2 AU2 CB BS2 BEL2 R2 CH2 hpw
      generalize w2.setCell ⟨g, 0, none⟩ (.slice A2 (a.l.length + 1) cap2) = W3 at *
      have x0 := BP3.out.cell 0
      have x1 := BP3.out.cell 1
      have x2 := BP3.out.cell 2
      have x3 := BP3.out.cell 3
      have x4 := BP3.out.cell 4
      have y0 := BR3.out.cell 0
      have y1 := BR3.out.cell 1
      have y2 := BR3.out.cell 2
      have y3 := BR3.out.cell 3
      have y4 := BR3.out.cell 4
      have f0 := BR3.out.frozen 0
      have f1 := BR3.out.frozen 1
      have f2 := BR3.out.frozen 2
      have f3 := BR3.out.frozen 3
      have f4 := BR3.out.frozen 4
      simp only [List.getElem?_toArray, List.getElem?_cons_zero, List.getElem?_cons_succ] at x0 x1 x2 x3 x4 y0 y1 y2 y3 y4
      have hgh : g ≠ w.heap.size := by omega
      clear hgw
      have HGH := Lib.hid hgh
      clear hgh
      go_wp2_with fail
      refine bodyPost_ret (v := .agg #[.int .i64 ((a.l.length : Int) + 1), .int .i64 (a.n : Int), .int .i64 v, .int .i64 now, .int .i64 (now + life)]) (by simp [results, Try.results12, go_sem, *]) rfl ?_
      have ch := ((((CH3.out.set w.heap.size 0 (.inr (Nat.le_refl _)) (.int .i64 ((a.l.length : Int) + 1))).set w.heap.size 1 (.inr (Nat.le_refl _)) (.int .i64 (a.n : Int))).set w.heap.size 2 (.inr (Nat.le_refl _)) (.int .i64 v)).set w.heap.size 3 (.inr (Nat.le_refl _)) (.int .i64 now)).set w.heap.size 4 (.inr (Nat.le_refl _)) (.int .i64 (now + life))
      have cx := ((((CX3.out.set w.heap.size 0 (.inl (.inr rfl)) (.int .i64 ((a.l.length : Int) + 1))).set w.heap.size 1 (.inl (.inr rfl)) (.int .i64 (a.n : Int))).set w.heap.size 2 (.inl (.inr rfl)) (.int .i64 v)).set w.heap.size 3 (.inl (.inr rfl)) (.int .i64 now)).set w.heap.size 4 (.inl (.inr rfl)) (.int .i64 (now + life))
      have bg := ((((BG3.out.far (p := ⟨w.heap.size, 0, none⟩) HGH.out (.int .i64 ((a.l.length : Int) + 1))).far (p := ⟨w.heap.size, 1, none⟩) HGH.out (.int .i64 (a.n : Int))).far (p := ⟨w.heap.size, 2, none⟩) HGH.out (.int .i64 v)).far (p := ⟨w.heap.size, 3, none⟩) HGH.out (.int .i64 now)).far (p := ⟨w.heap.size, 4, none⟩) HGH.out (.int .i64 (now + life))
      exact issue_end H.out hf R1.out ch cx bg NG2.out NH2.out SZ2.out))

end Go.Proofs.Ytjknlijikojbmaa
