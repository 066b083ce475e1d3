/- What an authority does: New, Issue, Rotate, Revoke, Roots. -/
import Derived.Test.YtjknlijikojbmaaFirst
import Derived.Maps.Own
namespace Go.Proofs.Ytjknlijikojbmaa
open Go.RowKit

def NewIs (w : World) (e : Ending) (w' : World) : Prop :=
  ∃ g b, e = .returned (.pointer (some ⟨g, 0, none⟩)) ∧ AuIs w.heap.size w' g (.slice none 0 0) b (.slice none 0 0) Au.new ∧ Below w.heap.size w w'

set_option maxHeartbeats 400000 in
theorem new_any (w : World) : Calls Try.prog 17 #[] w (NewIs w) := by
  have hmm := @run_makeMap Try.prog
  go_enter Try.func17, Try.ntmps17
  go_wp2_with fail
  go_ret
  have hb := Blk.new (w.alloc (.map #[] 0)) 51 #[.slice none 0 0, .map (some w.heap.size), .slice none 0 0]
  rw [World.size_alloc] at hb
  refine ⟨w.heap.size + 1, w.heap.size, rfl, ⟨hb, World.ownsRow_nil _ _ _ _, ?_, World.ownsRow_nil _ _ _ _, by omega, Nat.le_refl _, by simp [Au.new], by simp [Au.new]⟩, below_alloc (below_alloc (Below.refl _ _) _) _⟩
  exact (SetIs.new w).of_block (Below.heap_alloc _ _ _ (by simp))

def RevokeIs (base : Nat) (g : Nat) (vG : Value) (b : Nat) (vU : Value) (a : Au) (s : Int) (w : World) (e : Ending) (w' : World) : Prop :=
  e = .returned (.bool (a.canGo s)) ∧ AuIs base w' g vG b vU (a.revoke s) ∧ Chg (fun i => i = b) w w'

set_option maxHeartbeats 800000 in
theorem revoke_any {base : Nat} {w : World} {g : Nat} {vG : Value} {b : Nat} {vU : Value} {a : Au} (s : Int) (h : AuIs base w g vG b vU a) :
    Calls Try.prog 15 #[.pointer (some ⟨g, 0, none⟩), .int .i64 s] w (RevokeIs base g vG b vU a s w) := by
  obtain ⟨A, cap, hvG⟩ := own_form h.own
  have hf := h.few
  have c0 := h.blk.cell 0
  have c1 := h.blk.cell 1
  simp only [List.getElem?_toArray, List.getElem?_cons_zero, List.getElem?_cons_succ] at c0 c1
  rw [hvG] at c0
  have HV := Lib.hid hvG
  have H := Lib.hid h
  have lk : (Instr.lookup 49 (.map (some b)) (.int .i64 s) false).run Try.prog w = .ok (.bool (decide (s ∈ a.g))) w := set_look Try.underlying49 Try.underlying3 (zero4 _) h.set s
  clear h hvG
  by_cases h1 : 1 ≤ s
  · have g1 : decide (s < 1) = false := by simp; omega
    by_cases h2 : s ≤ a.l.length
    · have g2 : decide ((a.l.length : Int) < s) = false := by simp; omega
      by_cases h3 : s ∈ a.g
      · have e1 : a.canGo s = false := by unfold Au.canGo; simp [h3]
        have e2 : a.revoke s = a := by unfold Au.revoke; rw [e1]; rfl
        have E1 := Lib.hid e1
        have E2 := Lib.hid e2
        have g3 : decide (s ∈ a.g) = true := by simpa using h3
        rw [g3] at lk
        clear e1 e2 h3 g3 h1 h2
        go_enter Try.func15, Try.ntmps15
        go_wp2_with fail
        go_ret
        unfold RevokeIs
        rw [E1.out, E2.out]
        exact ⟨rfl, H.out, Chg.refl _ _⟩
      · have e1 : a.canGo s = true := by unfold Au.canGo; simp [h1, h2, h3]
        have e2 : a.revoke s = { a with g := a.g ++ [s] } := by unfold Au.revoke; rw [e1]; rfl
        have E1 := Lib.hid e1
        have E2 := Lib.hid e2
        have g3 : decide (s ∈ a.g) = false := by simpa using h3
        rw [g3] at lk
        obtain ⟨w5, hst, set5, gr5⟩ := set_store (P := Try.prog) (t := 49) (et := 4) Try.underlying49 Try.underlying3 H.out.set s h3
        have ST := Lib.hid set5
        have GR := Lib.hid gr5
        clear e1 e2 h3 g3 h1 h2 set5 gr5
        go_enter Try.func15, Try.ntmps15
        go_wp2_with fail
        go_ret
        unfold RevokeIs
        rw [E1.out, E2.out]
        have ch : Chg (fun i => i = b) w w5 := Chg.of_grown GR.out rfl
        refine ⟨rfl, ⟨H.out.blk.chg ch (fun e => H.out.set.ne_blk H.out.blk e), own_chg H.out.own ch (fun i hi e => H.out.set.ne_own H.out.own (e ▸ hi)), ST.out, own_chg H.out.ownU ch (fun i hi e => H.out.set.ne_own H.out.ownU (e ▸ hi)), H.out.hg, H.out.hb, H.out.few, H.out.fewU⟩, ch⟩
    · have g2 : decide ((a.l.length : Int) < s) = true := by simp; omega
      have e1 : a.canGo s = false := by unfold Au.canGo; simp [h2]
      have e2 : a.revoke s = a := by unfold Au.revoke; rw [e1]; rfl
      have E1 := Lib.hid e1
      have E2 := Lib.hid e2
      clear e1 e2 h1 h2 lk
      go_enter Try.func15, Try.ntmps15
      go_wp2_with fail
      go_ret
      unfold RevokeIs
      rw [E1.out, E2.out]
      exact ⟨rfl, H.out, Chg.refl _ _⟩
  · have g1 : decide (s < 1) = true := by simp; omega
    have e1 : a.canGo s = false := by unfold Au.canGo; simp [h1]
    have e2 : a.revoke s = a := by unfold Au.revoke; rw [e1]; rfl
    have E1 := Lib.hid e1
    have E2 := Lib.hid e2
    clear e1 e2 h1 lk
    go_enter Try.func15, Try.ntmps15
    go_wp2_with fail
    go_ret
    unfold RevokeIs
    rw [E1.out, E2.out]
    exact ⟨rfl, H.out, Chg.refl _ _⟩

def RootsIs (a : Au) (now : Int) (w : World) (e : Ending) (w' : World) : Prop :=
  ∃ v, e = .returned v ∧ w'.ownsRow w.heap.size 3 1 v (a.roots now).length ((a.roots now).map (Value.int .i64)) ∧ Below w.heap.size w w'

def Au.rootsTo (a : Au) (now : Int) (k : Nat) : List Int := ((List.range k).map (fun (i : Nat) => (i : Int) + 1)).filter (fun r => a.trusted r now)
theorem rootsTo_succ (a : Au) (now : Int) (k : Nat) : a.rootsTo now (k + 1) = if a.trusted ((k : Int) + 1) now then a.rootsTo now k ++ [(k : Int) + 1] else a.rootsTo now k := by
  unfold Au.rootsTo
  rw [List.range_succ, List.map_append, List.filter_append]
  simp only [List.map_cons, List.map_nil, List.filter_cons, List.filter_nil]
  split <;> simp
theorem rootsTo_len (a : Au) (now : Int) (k : Nat) : (a.rootsTo now k).length ≤ k := by
  unfold Au.rootsTo
  refine Nat.le_trans (List.length_filter_le _ _) ?_
  simp
theorem info3 : (Try.prog.info? 3).map (fun i => (i.zero, i.size, i.bytes)) = some (some (.int .i64 0), 1, 8) := by kernel_rfl

set_option maxHeartbeats 800000 in
theorem roots_any {base : Nat} {w : World} {g : Nat} {vG : Value} {b : Nat} {vU : Value} {a : Au} (now : Int) (h : AuIs base w g vG b vU a) :
    Calls Try.prog 13 #[.pointer (some ⟨g, 0, none⟩), .int .i64 now] w (RootsIs a now w) := by
  have H := Lib.hid h
  have hfu := h.fewU
  have hn : a.n = a.u.length + 1 := rfl
  have HN := Lib.hid hn
  have hn2 : a.n ≤ 1001 := by omega
  clear h hn
  go_enter Try.func13, Try.ntmps13
  go_wp2_with fail
  go_loopw [5, 6] (fun v i wr => ∃ k : Nat, k ≤ a.n ∧ i = .int .i64 ((k : Int) + 1) ∧ wr.ownsRow w.heap.size 3 1 v (a.rootsTo now k).length ((a.rootsTo now k).map (Value.int .i64)) ∧ Below w.heap.size w wr) (fun _ i _ => a.n + 1 - (intOf i).toNat)
  case atStart => exact ⟨0, Nat.zero_le _, rfl, World.ownsRow_nil _ _ _ _, Below.refl _ _⟩
  case round =>
    obtain ⟨k, hk, rfl, own, bel⟩ := hrel
    have OWN := Lib.hid own
    have BEL := Lib.hid bel
    have H2 := Lib.hid (H.out.below bel)
    clear own bel
    by_cases hlt : k < a.n
    · go_wp2_with fail
      refine (newest_any H2.out).mono ?_
      rintro e w' ⟨rfl, rfl⟩
      go_wp2_with fail
      refine (trusted_any ((k : Int) + 1) now H2.out (by omega) (by omega)).mono ?_
      rintro e w' ⟨rfl, rfl⟩
      have hs := rootsTo_succ a now k
      have hl := rootsTo_len a now k
      rcases ht : a.trusted ((k : Int) + 1) now with _ | _
      · rw [ht] at hs
        have HS : Hid (a.rootsTo now (k + 1) = a.rootsTo now k) := by show _ = _; simpa using hs
        clear hs ht
        go_wp2_with fail
        exact ⟨⟨k + 1, by omega, by go_num, by rw [HS.out]; exact OWN.out, BEL.out⟩, by simp [intOf]; omega⟩
      · rw [ht] at hs
        have HS : Hid (a.rootsTo now (k + 1) = a.rootsTo now k ++ [(k : Int) + 1]) := by show _ = _; simpa using hs
        clear hs ht
        have NC : Hid (∀ j u, [Value.int .i64 ((k : Int) + 1)][j]? = some u → (wr.alloc (.cells #[.int .i64 ((k : Int) + 1)] 3)).cell? ((⟨wr.heap.size, 0, none⟩ : Addr).add j) = some u) := new_cells wr 3 [.int .i64 ((k : Int) + 1)]
        have OWA := Lib.hid (OWN.out.alloc (.cells #[.int .i64 ((k : Int) + 1)] 3))
        have BA := Lib.hid (below_alloc BEL.out (.cells #[.int .i64 ((k : Int) + 1)] 3))
        go_wp2_with (at_builtin; refine wpList_pushn _ rfl (.tmp 17) (.tmp 19) 22 3 rfl Try.underlying22 _ 1 8 info3 rfl (by omega) (by omega) w.heap.size u5 (a.rootsTo now k).length ((a.rootsTo now k).map (Value.int .i64)) rfl OWA.out (by omega) ⟨wr.heap.size, 0, none⟩ 1 [.int .i64 ((k : Int) + 1)] rfl rfl NC.out (by simp [Value.oneCell']) BA.out.size ?_; intro v2 w2 own2 ch2 nn2; have OW2 := Lib.hid own2; have B2 : Hid (Below w.heap.size w w2) := BA.out.trans (ch2.below (B := w.heap.size) (fun g hg => (OWA.out.lt g hg).1) BA.out.size); clear own2 ch2 nn2 hl)
        exact ⟨⟨k + 1, by omega, by go_num, by rw [HS.out, List.length_append, List.map_append]; exact OW2.out, B2.out⟩, by simp [intOf]; omega⟩
    · obtain rfl : k = a.n := by omega
      go_wp2_with fail
      refine (newest_any H2.out).mono ?_
      rintro e w' ⟨rfl, rfl⟩
      go_wp2_with fail
      go_ret
      exact ⟨_, rfl, OWN.out, BEL.out⟩

end Go.Proofs.Ytjknlijikojbmaa
