/- forget lets go what is over, from the front of the row on, and nothing else. -/
import Derived.Test.YthbpimkbdkjcnaaTab
import Derived.Deep.RegionHeld3
import Derived.StillTailTactics
namespace Go.Proofs.Ythbpimkbdkjcnaa
open Go.RowKit

/-- A slice value whose elements from j on are those of R. -/
def RowFrom (w : World) (g off cap : Nat) (R : Prs) (j : Nat) : Prop :=
  ∃ cur, Blk w g 52 cur ∧ R.length ≤ cap ∧ off + cap * 2 ≤ cur.size ∧
    ∀ i x, j ≤ i → R[i]? = some x → cur[off + i * 2]? = some (.string x.1) ∧ cur[off + i * 2 + 1]? = some (.int .i64 x.2)

open Classical in
/-- The pairs that none of a list's is. -/
noncomputable def less (M D : Prs) : Prs := M.filter fun q => decide (q ∉ D)

theorem less_nil (M : Prs) : less M [] = M := by simp [less]
theorem less_in {M D : Prs} {k : ByteArray} {a : Int} (hn : (M.map (·.1)).Nodup) (hm : (k, a) ∈ less M D) : less M (D ++ [(k, a)]) = without (less M D) k := by
  unfold less without
  rw [List.filter_filter]
  apply List.filter_congr
  intro q hq
  unfold less at hm
  rw [List.mem_filter] at hm
  rw [Bool.eq_iff_iff]
  simp only [List.mem_append, List.mem_singleton, not_or, decide_eq_true_eq, Bool.and_eq_true, ne_eq]
  constructor
  · rintro ⟨h1, h2⟩
    refine ⟨?_, h1⟩
    rintro rfl
    obtain ⟨q1, q2⟩ := q
    exact h2 (by rw [keys_one hn hq hm.1])
  · rintro ⟨h1, h2⟩
    exact ⟨h2, fun e => h1 (by rw [e])⟩
theorem less_out {M D : Prs} {k : ByteArray} {a : Int} (hm : (k, a) ∉ less M D) : less M (D ++ [(k, a)]) = less M D := by
  unfold less
  apply List.filter_congr
  intro q hq
  rw [Bool.eq_iff_iff]
  simp only [List.mem_append, List.mem_singleton, not_or, decide_eq_true_eq]
  constructor
  · exact fun h => h.1
  · intro h
    refine ⟨h, ?_⟩
    rintro rfl
    exact hm (by unfold less; rw [List.mem_filter]; exact ⟨hq, by simpa using h⟩)

theorem rowFrom_next {w : World} {g off cap : Nat} {R : Prs} {j : Nat} (h : RowFrom w g off cap R j) (u v : Value) :
    RowFrom ((w.setCell ⟨g, off + j * 2, none⟩ u).setCell ⟨g, off + j * 2 + 1, none⟩ v) g off cap R (j + 1) := by
  obtain ⟨cur, hb, h1, h2, h3⟩ := h
  refine ⟨_, (hb.set_ _ u).set_ _ v, h1, by simpa using h2, fun i x hi hx => ?_⟩
  obtain ⟨e1, e2⟩ := h3 i x (by omega) hx
  rw [Array.getElem?_setIfInBounds_ne (by omega), Array.getElem?_setIfInBounds_ne (by omega), Array.getElem?_setIfInBounds_ne (by omega), Array.getElem?_setIfInBounds_ne (by omega)]
  exact ⟨e1, e2⟩

theorem rowFrom_cells {w : World} {g off cap : Nat} {R : Prs} {j : Nat} {x : ByteArray × Int} (h : RowFrom w g off cap R j) (hx : R[j]? = some x) :
    w.cell? ⟨g, off + j * 2, none⟩ = some (.string x.1) ∧ w.cell? ⟨g, off + j * 2 + 1, none⟩ = some (.int .i64 x.2) ∧ w.frozen? ⟨g, off + j * 2, none⟩ = false ∧ w.frozen? ⟨g, off + j * 2 + 1, none⟩ = false := by
  obtain ⟨cur, hb, h1, h2, h3⟩ := h
  obtain ⟨e1, e2⟩ := h3 j x (Nat.le_refl _) hx
  exact ⟨by rw [hb.cell, e1], by rw [hb.cell, e2], hb.frozen _, hb.frozen _⟩

theorem rowFrom_keep {w w' : World} {g off cap : Nat} {R : Prs} {j : Nat} (h : RowFrom w g off cap R j) (hb : w'.heap[g]? = w.heap[g]?) : RowFrom w' g off cap R j := by
  obtain ⟨cur, q, r⟩ := h
  exact ⟨cur, hb.trans q, r⟩
theorem rowFrom_ne {w : World} {g off cap : Nat} {R : Prs} {j : Nat} (h : RowFrom w g off cap R j) {t : TypeId} {p : Nat} {cs : Array Value} (hp : Blk w p t cs) (ht : t ≠ 52) : p ≠ g := by
  obtain ⟨cur, q, r⟩ := h
  exact hp.ne_ q ht
theorem map_ne {w : World} {b : Nat} {M : Prs} (h : MapIs w b M) {t : TypeId} {p : Nat} {cs : Array Value} (hp : Blk w p t cs) : p ≠ b := by
  rintro rfl
  obtain ⟨es, c, hb, _⟩ := h
  unfold Blk at hp
  rw [hb] at hp
  cases hp
theorem take_more {R : Prs} {j : Nat} {x : ByteArray × Int} (hx : R[j]? = some x) : R.take (j + 1) = R.take j ++ [x] := by
  obtain ⟨h, e⟩ := List.getElem?_eq_some_iff.1 hx
  rw [List.take_succ_eq_append_getElem h, e]

/-- What stands behind the first part of a round: the map without the pair. -/
def FgMid (w : World) (F : Nat → Prop) (p b g off cap : Nat) (h : Int) (M R : Prs) (j : Nat) (wr : World) : Prop :=
  Blk wr p 48 #[.int .i64 h, .map (some b), .slice (some ⟨g, off, none⟩) R.length cap] ∧ MapIs wr b (less M (R.take (j + 1))) ∧ RowFrom wr g off cap R j ∧ Chg F w wr

def FgRel (w : World) (F : Nat → Prop) (p b g off cap : Nat) (h now : Int) (M R : Prs) (n : Value) (wr : World) : Prop :=
  ∃ j : Nat, j ≤ R.length ∧ n = .int .i64 j ∧ (∀ i x, i < j → R[i]? = some x → h ≤ now - x.2) ∧ Blk wr p 48 #[.int .i64 h, .map (some b), .slice (some ⟨g, off, none⟩) R.length cap] ∧
    MapIs wr b (less M (R.take j)) ∧ RowFrom wr g off cap R j ∧ Chg F w wr

def FgPost (w : World) (F : Nat → Prop) (p : Nat) (h now : Int) (M R : Prs) (e : Ending) (w' : World) : Prop :=
  e = .returned (.tuple #[]) ∧ ∃ j, j ≤ R.length ∧ (∀ i x, i < j → R[i]? = some x → h ≤ now - x.2) ∧ (∀ x, R[j]? = some x → now - x.2 < h) ∧ Tab w' F p h (less M (R.take j)) (R.drop j) ∧ Chg F w w'

theorem fg_next {w wr : World} {F : Nat → Prop} {p b g off cap : Nat} {h now : Int} {M R : Prs} {j : Nat} {x : ByteArray × Int} (u v : Value) (n : Value) (hn : n = .int .i64 ((j : Int) + 1)) (hlt : j < R.length) (hx : R[j]? = some x) (ho : h ≤ now - x.2)
    (hov : ∀ i y, i < j → R[i]? = some y → h ≤ now - y.2) (hm : FgMid w F p b g off cap h M R j wr) (fg : F g) :
    FgRel w F p b g off cap h now M R n ((wr.setCell ⟨g, off + j * 2, none⟩ u).setCell ⟨g, off + j * 2 + 1, none⟩ v) := by
  obtain ⟨bp, bm, br, hc⟩ := hm
  have hpg := rowFrom_ne br bp (by decide)
  have hbg : g ≠ b := by
    obtain ⟨cur, q, _⟩ := br
    exact map_ne bm q
  refine ⟨j + 1, hlt, by rw [hn]; go_num, fun i y hi hy => ?_, (bp.far hpg _).far hpg _, (bm.of_block ?_), rowFrom_next br u v, (hc.set g _ (.inl fg) _).set g _ (.inl fg) _⟩
  · rcases Nat.lt_or_ge i j with h1 | h1
    · exact hov i y h1 hy
    · obtain rfl : i = j := by omega
      rw [hx] at hy
      injection hy with hy
      rw [← hy]
      exact ho
  · rw [Below.heap_setCell _ _ _ _ (Ne.symm hbg), Below.heap_setCell _ _ _ _ (Ne.symm hbg)]

theorem fg_end {w wr : World} {F : Nat → Prop} {p b g off off' cap : Nat} {h now : Int} {M R : Prs} {j : Nat} (v : Value) (hv : v = .slice (some ⟨g, off', none⟩) (R.length - j) (cap - j)) (ho : off' = off + j * 2 ∨ cap = j ∧ off' = off) (hj : j ≤ R.length)
    (hov : ∀ i y, i < j → R[i]? = some y → h ≤ now - y.2) (hno : ∀ y, R[j]? = some y → now - y.2 < h)
    (bp : Blk wr p 48 #[.int .i64 h, .map (some b), .slice (some ⟨g, off, none⟩) R.length cap]) (bm : MapIs wr b (less M (R.take j))) (br : RowFrom wr g off cap R j) (hc : Chg F w wr) (fp : F p) (fb : F b) (fg : F g) (fl : ∀ k, F k → k < w.heap.size) :
    FgPost w F p h now M R (.returned (.tuple #[])) (wr.setCell ⟨p, 2, none⟩ v) := by
  have hpg := rowFrom_ne br bp (by decide)
  have hpb := map_ne bm bp
  refine ⟨rfl, j, hj, hov, hno, ⟨b, v, bp.set_ 2 v, bm.of_block (Below.heap_setCell _ _ _ _ (Ne.symm hpb)), ?_, fp, fb, ?_, ?_⟩, hc.set p 2 (.inl fp) v⟩
  · obtain ⟨cur, q, h1, h2, h3⟩ := br
    refine .inr ⟨g, off', cap - j, cur, by rw [hv, List.length_drop], q.far (Ne.symm hpg) v, by rw [List.length_drop]; omega, by omega, fun i x hx => ?_⟩
    rw [List.getElem?_drop] at hx
    have hl := (List.getElem?_eq_some_iff.1 hx).1
    have := h3 (j + i) x (by omega) hx
    rw [show off' + i * 2 = off + (j + i) * 2 from by omega]
    exact this
  · intro g' hg'
    rw [hv] at hg'
    have : g = g' := by simpa [Value.ownBlock] using hg'
    exact this ▸ fg
  · intro k hk
    have h1 := fl k hk
    have h2 := hc.size
    simp only [World.size_setCell]
    omega

set_option maxHeartbeats 1000000 in
theorem forget_row (w : World) (F : Nat → Prop) (p b g off cap : Nat) (h now : Int) (M R : Prs) (hp : Blk w p 48 #[.int .i64 h, .map (some b), .slice (some ⟨g, off, none⟩) R.length cap])
    (hm : MapIs w b M) (hr : RowFrom w g off cap R 0) (fp : F p) (fb : F b) (fg : F g) (fl : ∀ k, F k → k < w.heap.size)
    (h1 : 0 ≤ now) (h2 : now ≤ 4294967296) (hat : ∀ x ∈ R, 0 ≤ x.2 ∧ x.2 ≤ 4294967296) (hl : R.length ≤ 1000000) :
    Calls Try.prog 23 #[.pointer (some ⟨p, 0, none⟩), .int .i64 now] w (FgPost w F p h now M R) ∧
    ∀ u, CallsD Try.prog 23 #[.pointer (some ⟨p, 0, none⟩), .int .i64 now] u w fun e u' w' => u' = u ∧ FgPost w F p h now M R e w' := by
  have HP := Lib.hid hp
  have HM := Lib.hid hm
  have HR := Lib.hid hr
  have HF := Lib.hid fl
  have HAT := Lib.hid hat
  clear hp hm hr fl hat
  refine (fun hh => ⟨calls_of_wp Try.func23 rfl hh, fun u => callsD_of_wp Try.func23 rfl hh⟩) ?_
  simp only [Try.ntmps23, List.size_toArray, List.length_cons, List.length_nil, Nat.reduceAdd, Nat.reduceSub, Array.replicate_succ,
     Array.replicate_zero, List.push_toArray, List.append_toArray, List.nil_append, List.cons_append]
  go_wp2_with fail
  go_loopw [4] (fun n wr => FgRel w F p b g off cap h now M R n wr) (fun n _ => R.length - (intOf n).toNat)
  case atStart => exact ⟨0, Nat.zero_le _, rfl, fun i x hi => by omega, HP.out, by rw [List.take_zero, less_nil]; exact HM.out, HR.out, Chg.refl _ _⟩
  case round =>
    obtain ⟨j, hj, rfl, hov, bp, bm, br, hc⟩ := hrel
    have c0 := bp.cell 0
    have c1 := bp.cell 1
    have c2 := bp.cell 2
    simp only [List.getElem?_toArray, List.getElem?_cons_zero, List.getElem?_cons_succ] at c0 c1 c2
    have BP := Lib.hid bp
    have BM := Lib.hid bm
    have BR := Lib.hid br
    have HC := Lib.hid hc
    have HOV := Lib.hid hov
    clear bp bm br hc hov
    by_cases hlt : j < R.length
    · obtain ⟨x, hx⟩ : ∃ x, R[j]? = some x := ⟨_, List.getElem?_eq_getElem hlt⟩
      obtain ⟨cur, bg, hcap, hsz, hcell⟩ := BR.out
      obtain ⟨ck, ca⟩ := hcell j x (Nat.le_refl _) hx
      have d0 := bg.cell (off + j * 2)
      have d1 := bg.cell (off + j * 2 + 1)
      rw [ck] at d0
      rw [ca] at d1
      have HX := Lib.hid hx
      clear hcell ck ca hx bg
      go_wp2_with fail
      refine (over_any p h now x.2 _ _ _ BP.out h1 h2 (HAT.out x (List.mem_of_getElem? HX.out)).1 (HAT.out x (List.mem_of_getElem? HX.out)).2).mono ?_
      rintro e w1 ⟨rfl, rfl⟩
      by_cases ho : h ≤ now - x.2
      · have ho' : decide (h ≤ now - x.2) = true := by simpa using ho
        rw [ho']
        have HO := Lib.hid ho
        clear ho ho'
        go_wp2_with fail
        have bx := Blk.new wr 52 #[.string x.1, .int .i64 x.2]
        have bp2 := BP.out.alloc (.cells #[.string x.1, .int .i64 x.2] 52)
        have bm2 : MapIs (wr.alloc (.cells #[.string x.1, .int .i64 x.2] 52)) b _ := BM.out.of_block (Below.heap_alloc _ _ _ BM.out.lt)
        have br2 : RowFrom (wr.alloc (.cells #[.string x.1, .int .i64 x.2] 52)) g off cap R j := by
          obtain ⟨cur, q, q2⟩ := BR.out
          exact ⟨cur, q.alloc _, q2⟩
        have hc2 := HC.out.alloc (.cells #[.string x.1, .int .i64 x.2] 52)
        have hrx : Hid (w.heap.size ≤ wr.heap.size) := HC.out.size
        clear BP BM BR HC d0 d1 c0 c1 c2 HP HR hcap hsz
        generalize (wr.alloc (.cells #[.string x.1, .int .i64 x.2] 52)) = W2 at *
        generalize wr.heap.size = rx at *
        have c0 := bp2.cell 0
        have c1 := bp2.cell 1
        have c2 := bp2.cell 2
        have x0 := bx.cell 0
        have x1 := bx.cell 1
        simp only [List.getElem?_toArray, List.getElem?_cons_zero, List.getElem?_cons_succ] at c0 c1 c2 x0 x1
        have BP := Lib.hid bp2
        have BM := Lib.hid bm2
        have BR := Lib.hid br2
        have HC := Lib.hid hc2
        clear bx bp2 bm2 br2 hc2
        by_cases hmem : x ∈ less M (R.take j)
        · have hlook : ∀ n, (Instr.lookup 45 (.map (some b)) (.string x.1) true).run Try.prog (W2.drewN n) = .ok (.tuple #[.int .i64 x.2, .bool true]) (W2.drewN n) :=
            fun n => look_has Try.underlying45 Try.underlying9 (MapIs.of_block (w' := W2.drewN n) BM.out rfl) hmem
          have HMEM := Lib.hid hmem
          clear hmem
          go_quiet (fail)
          go_wp2_with fail
          obtain ⟨W5, hdel, bm3, g3⟩ := drop_law (P := Try.prog) (w := W2.drewN (nq + 1)) (ty := 0) (b := b) Try.underlying45 Try.underlying9 (MapIs.of_block (w' := W2.drewN (nq + 1)) BM.out rfl) x.1
          go_region
          have hmid : FgMid w F p b g off cap h M R j W5 := by
            have hpb := map_ne BM.out BP.out
            have hgb : g ≠ b := by
              obtain ⟨cur, q, _⟩ := BR.out
              exact map_ne BM.out q
            refine ⟨(BP.out.drewN (nq + 1)).grown g3 (by simpa using hpb), ?_, rowFrom_keep (w := W2.drewN (nq + 1)) BR.out ?_, (HC.out.drewN (nq + 1)).trans (Chg.of_grown g3 fb)⟩
            · rw [take_more HX.out, less_in (HM.out.nodup) HMEM.out]
              exact bm3
            · obtain ⟨cur, q, _⟩ := BR.out
              exact g3.block g q.lt (by simpa using hgb)
          clear hdel bm3 g3 hlook BP BM BR HC c0 c1 c2 x0 x1
          have HMID := Lib.hid hmid
          have c2 := hmid.1.cell 2
          simp only [List.getElem?_toArray, List.getElem?_cons_zero, List.getElem?_cons_succ] at c2
          obtain ⟨d0, d1, f0, f1⟩ := rowFrom_cells hmid.2.2.1 HX.out
          have f2 : (W5.setCell ⟨g, off + j * 2, none⟩ (.string { data := #[] })).frozen? ⟨g, off + j * 2 + 1, none⟩ = false := by
            obtain ⟨cur, q, _⟩ := hmid.2.2.1
            exact (q.set_ _ _).frozen _
          clear hmid
          go_wp2_with fail
          exact ⟨fg_next _ _ _ rfl hlt HX.out HO.out HOV.out HMID.out fg, by simp [intOf]; omega⟩
        · by_cases hkey : ∃ a, (x.1, a) ∈ less M (R.take j)
          · obtain ⟨a, ha⟩ := hkey
            have hlook : ∀ n, (Instr.lookup 45 (.map (some b)) (.string x.1) true).run Try.prog (W2.drewN n) = .ok (.tuple #[.int .i64 a, .bool true]) (W2.drewN n) :=
              fun n => look_has Try.underlying45 Try.underlying9 (MapIs.of_block (w' := W2.drewN n) BM.out rfl) ha
            have hne : (a == x.2) = false := by
              simp only [beq_eq_false_iff_ne, ne_eq]
              rintro rfl
              exact hmem ha
            have HMEM := Lib.hid hmem
            clear hmem ha
            go_quiet (fail)
            have hmid : FgMid w F p b g off cap h M R j (W2.drewN nq) := by
              refine ⟨BP.out.drewN nq, ?_, BR.out, HC.out.drewN nq⟩
              rw [take_more HX.out, less_out HMEM.out]
              exact BM.out
            have x1' : (W2.drewN nq).cell? ⟨rx, 1, none⟩ = some (.int .i64 x.2) := x1
            clear hlook BP BM BR HC c0 c1 c2 x0 x1
            generalize W2.drewN nq = W5 at *
            have HMID := Lib.hid hmid
            have c2 := hmid.1.cell 2
            simp only [List.getElem?_toArray, List.getElem?_cons_zero, List.getElem?_cons_succ] at c2
            obtain ⟨d0, d1, f0, f1⟩ := rowFrom_cells hmid.2.2.1 HX.out
            have f2 : (W5.setCell ⟨g, off + j * 2, none⟩ (.string { data := #[] })).frozen? ⟨g, off + j * 2 + 1, none⟩ = false := by
              obtain ⟨cur, q, _⟩ := hmid.2.2.1
              exact (q.set_ _ _).frozen _
            clear hmid
            go_wp2_with fail
            exact ⟨fg_next _ _ _ rfl hlt HX.out HO.out HOV.out HMID.out fg, by simp [intOf]; omega⟩
          · have hlook : ∀ n, (Instr.lookup 45 (.map (some b)) (.string x.1) true).run Try.prog (W2.drewN n) = .ok (.tuple #[.int .i64 0, .bool false]) (W2.drewN n) :=
              fun n => look_not Try.underlying45 Try.underlying9 (by kernel_rfl) (MapIs.of_block (w' := W2.drewN n) BM.out rfl) (fun v hv => hkey ⟨v, hv⟩)
            have HMEM := Lib.hid hmem
            clear hmem hkey
            go_quiet (fail)
            have hmid : FgMid w F p b g off cap h M R j (W2.drewN nq) := by
              refine ⟨BP.out.drewN nq, ?_, BR.out, HC.out.drewN nq⟩
              rw [take_more HX.out, less_out HMEM.out]
              exact BM.out
            clear hlook BP BM BR HC c0 c1 c2 x0 x1
            generalize W2.drewN nq = W5 at *
            have HMID := Lib.hid hmid
            have c2 := hmid.1.cell 2
            simp only [List.getElem?_toArray, List.getElem?_cons_zero, List.getElem?_cons_succ] at c2
            obtain ⟨d0, d1, f0, f1⟩ := rowFrom_cells hmid.2.2.1 HX.out
            have f2 : (W5.setCell ⟨g, off + j * 2, none⟩ (.string { data := #[] })).frozen? ⟨g, off + j * 2 + 1, none⟩ = false := by
              obtain ⟨cur, q, _⟩ := hmid.2.2.1
              exact (q.set_ _ _).frozen _
            clear hmid
            go_wp2_with fail
            exact ⟨fg_next _ _ _ rfl hlt HX.out HO.out HOV.out HMID.out fg, by simp [intOf]; omega⟩
      · have ho' : decide (h ≤ now - x.2) = false := by simpa using ho
        rw [ho']
        have f2 := BP.out.frozen 2
        have HNO : Hid (∀ y, R[j]? = some y → now - y.2 < h) := by
          intro y hy
          rw [HX.out] at hy
          injection hy with hy
          rw [← hy]
          omega
        go_wp2_with fail
        go_end0
        exact fg_end _ rfl (.inl rfl) hj HOV.out HNO.out BP.out BM.out BR.out HC.out fp fb fg HF.out
    · have hjl : j = R.length := by omega
      have f2 := BP.out.frozen 2
      have HNO : Hid (∀ y, R[j]? = some y → now - y.2 < h) := by
        intro y hy
        rw [List.getElem?_eq_none (by omega)] at hy
        cases hy
      have hcap : R.length ≤ cap := by obtain ⟨_, _, q, _⟩ := BR.out; exact q
      have HJL := Lib.hid hjl
      by_cases hcj : cap = j
      · have HCJ := Lib.hid hcj
        go_wp2_with fail
        go_end0
        exact fg_end (off' := off) _ (by rw [HCJ.out, HJL.out]; simp) (.inr ⟨HCJ.out, rfl⟩) hj HOV.out HNO.out BP.out BM.out BR.out HC.out fp fb fg HF.out
      · go_wp2_with fail
        go_end0
        exact fg_end (off' := off + j * 2) _ (by rw [HJL.out]; simp) (.inl rfl) hj HOV.out HNO.out BP.out BM.out BR.out HC.out fp fb fg HF.out


set_option maxHeartbeats 400000 in
theorem forget_nil (w : World) (F : Nat → Prop) (p b : Nat) (h now : Int) (M : Prs) (hp : Blk w p 48 #[.int .i64 h, .map (some b), .slice none 0 0])
    (hm : MapIs w b M) (fp : F p) (fb : F b) (fl : ∀ k, F k → k < w.heap.size) :
    Calls Try.prog 23 #[.pointer (some ⟨p, 0, none⟩), .int .i64 now] w (FgPost w F p h now M []) ∧
    ∀ u, CallsD Try.prog 23 #[.pointer (some ⟨p, 0, none⟩), .int .i64 now] u w fun e u' w' => u' = u ∧ FgPost w F p h now M [] e w' := by
  have c2 := hp.cell 2
  have f2 := hp.frozen 2
  simp only [List.getElem?_toArray, List.getElem?_cons_zero, List.getElem?_cons_succ] at c2
  have HP := Lib.hid hp
  have HM := Lib.hid hm
  have HF := Lib.hid fl
  clear hp hm fl
  refine (fun hh => ⟨calls_of_wp Try.func23 rfl hh, fun u => callsD_of_wp Try.func23 rfl hh⟩) ?_
  simp only [Try.ntmps23, List.size_toArray, List.length_cons, List.length_nil, Nat.reduceAdd, Nat.reduceSub, Array.replicate_succ,
     Array.replicate_zero, List.push_toArray, List.append_toArray, List.nil_append, List.cons_append]
  go_wp2_with fail
  refine wp_loop_rounds 1 ?_
  rw [rounds_succ]
  go_wp2_with fail
  go_end0
  have hpb := map_ne HM.out HP.out
  refine ⟨rfl, 0, Nat.zero_le _, fun i x hi => by omega, fun x hx => by simp at hx, ⟨b, .slice none 0 0, HP.out.set_ 2 _, (HM.out.of_block (Below.heap_setCell _ _ _ _ (Ne.symm hpb))).perm (by rw [List.take_zero, less_nil]), .inl ⟨rfl, rfl⟩, fp, fb, by simp [Value.ownBlock], ?_⟩, (Chg.refl F w).set p 2 (.inl fp) _⟩
  intro k hk
  simp only [World.size_setCell]
  exact HF.out k hk

/-- forget, whatever the table. -/
theorem forget_any (w : World) (F : Nat → Prop) (p : Nat) (h now : Int) (M R : Prs) (ht : Tab w F p h M R)
    (h1 : 0 ≤ now) (h2 : now ≤ 4294967296) (hat : ∀ x ∈ R, 0 ≤ x.2 ∧ x.2 ≤ 4294967296) (hl : R.length ≤ 1000000) :
    Calls Try.prog 23 #[.pointer (some ⟨p, 0, none⟩), .int .i64 now] w (FgPost w F p h now M R) ∧
    ∀ u, CallsD Try.prog 23 #[.pointer (some ⟨p, 0, none⟩), .int .i64 now] u w fun e u' w' => u' = u ∧ FgPost w F p h now M R e w' := by
  obtain ⟨b, v, hp, hm, hr, fp, fb, fv, fl⟩ := ht
  rcases hr with ⟨rfl, rfl⟩ | ⟨g, off, cap, cur, rfl, hg, hc, hs, hcell⟩
  · exact forget_nil w F p b h now M hp hm fp fb fl
  · exact forget_row w F p b g off cap h now M R hp hm ⟨cur, hg, hc, hs, fun i x _ hx => hcell i x hx⟩ fp fb (fv g rfl) fl h1 h2 hat hl

end Go.Proofs.Ythbpimkbdkjcnaa
