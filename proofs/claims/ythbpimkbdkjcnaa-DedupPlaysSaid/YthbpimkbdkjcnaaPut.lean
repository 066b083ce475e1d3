/- Put of a table: what it tells, and what it leaves. -/
import Derived.Test.YthbpimkbdkjcnaaOps
import Derived.Test.YthbpimkbdkjcnaaRow
namespace Go.Proofs.Ythbpimkbdkjcnaa
open Go.RowKit

/-- The blocks of F, and what is new. -/
def grow (F : Nat → Prop) (w w' : World) (i : Nat) : Prop := F i ∨ (w.heap.size ≤ i ∧ i < w'.heap.size)

theorem Tab.mono {w : World} {F F' : Nat → Prop} {p : Nat} {h : Int} {M R : Prs} (ht : Tab w F p h M R) (hF : ∀ i, F i → F' i) (hl : ∀ i, F' i → i < w.heap.size) : Tab w F' p h M R := by
  obtain ⟨b, v, h1, h2, h3, h4, h5, h6, _⟩ := ht
  exact ⟨b, v, h1, h2, h3, hF _ h4, hF _ h5, fun g hg => hF _ (h6 g hg), hl⟩
theorem Tab.all {w : World} {F : Nat → Prop} {p : Nat} {h : Int} {M R : Prs} (ht : Tab w F p h M R) : ∀ i, F i → i < w.heap.size := by
  obtain ⟨_, _, _, _, _, _, _, _, h7⟩ := ht
  exact h7

/-- The pairs behind a Put. -/
def putL (h now : Int) (L : Prs) (k : ByteArray) : Prs := if hasL h now L k = true then live h now L else live h now L ++ [(k, now)]

theorem putL_length (h now : Int) (L : Prs) (k : ByteArray) : (putL h now L k).length ≤ L.length + 1 := by
  have := live_length h now L
  unfold putL
  split <;> simp <;> omega
theorem Ok.putL {h now t : Int} {L : Prs} {k : ByteArray} (hOk : Ok t L) (ht : t ≤ now) (h0 : 0 ≤ now) : Ok now (Ythbpimkbdkjcnaa.putL h now L k) := by
  unfold Ythbpimkbdkjcnaa.putL
  by_cases hh : hasL h now L k = true
  · rw [if_pos hh]
    exact (hOk.of_live h now).later ht
  · rw [if_neg hh]
    exact hOk.put ht h0 (by simpa using hh)

def PutPost (w : World) (F : Nat → Prop) (p : Nat) (h now : Int) (L : Prs) (k : ByteArray) (e : Ending) (w' : World) : Prop :=
  e = .returned (.bool (!hasL h now L k)) ∧ Tab w' (grow F w w') p h (putL h now L k) (putL h now L k) ∧ Chg F w w'

set_option maxHeartbeats 800000 in
theorem put_yes (w : World) (F : Nat → Prop) (p : Nat) (h now t : Int) (L : Prs) (k : ByteArray) (ht : Tab w F p h L L) (hOk : Ok t L) (htn : t ≤ now) (h1 : 0 ≤ now) (h2 : now ≤ 4294967296) (hl : L.length ≤ 1000000) (hh : hasL h now L k = true) :
    Calls Try.prog 13 #[.pointer (some ⟨p, 0, none⟩), .int .i64 now, .string k] w (PutPost w F p h now L k) := by
  have HF := Lib.hid (forget_any w F p h now L L ht h1 h2 (ok_row (hOk.later htn) h2) hl).2
  have HOK := Lib.hid hOk
  have HALL := Lib.hid ht.all
  obtain ⟨b, v, bp, bm, _⟩ := ht
  have k1 := bp.cell 1
  simp only [List.getElem?_toArray, List.getElem?_cons_zero, List.getElem?_cons_succ] at k1
  have BP := Lib.hid bp
  have BM := Lib.hid bm
  clear bp bm hOk
  obtain ⟨a, ha, hno⟩ := hasL_true hh
  have hlook := look_has (P := Try.prog) Try.underlying45 Try.underlying9 BM.out ha
  have ra := ok_row (HOK.out.later htn) h2 _ ha
  have ra1 := ra.1
  have ra2 := ra.2
  have HA := Lib.hid ha
  have HH := Lib.hid hh
  clear ha ra hh
  have ho : decide (h ≤ now - a) = false := by simp; omega
  go_enter_defers Try.func13, Try.ntmps13
  go_wp2_with fail
  refine (over_any p h now a _ _ _ BP.out h1 h2 ra1 ra2).mono ?_
  rintro e w1 ⟨rfl, rfl⟩
  rw [ho]
  go_wp2_with fail
  refine leaves_cons (f := 23) (args := #[.pointer (some ⟨p, 0, none⟩), .int .i64 now]) (by simp) (by simp [go_sem]) ?_
  refine (HF.out .returning).mono ?_
  rintro e u' w'' ⟨rfl, hp⟩
  obtain ⟨rfl, t1, c1⟩ := fg_same HOK.out hp
  refine ⟨_, results_tmp rfl _ _ _, ?_, ?_, c1⟩
  · rw [HH.out]
    rfl
  · have e1 : putL h now L k = live h now L := by unfold putL; rw [if_pos HH.out]
    rw [e1]
    exact t1.mono (fun i hi => .inl hi) (fun i hi => by
      rcases hi with hi | hi
      · exact Nat.lt_of_lt_of_le (HALL.out i hi) c1.size
      · exact hi.2)

/-- The table between the store and the forgetting. -/
theorem put_mid {w W1 Wa W2 : World} {F : Nat → Prop} {p b : Nat} {h now : Int} {L : Prs} {k : ByteArray} {v v2 : Value} (hW : Wa = W1.alloc (.cells #[.string k, .int .i64 now] 52)) (fl : ∀ i, F i → i < w.heap.size) (fp : F p) (fb : F b) (fv : ∀ g, v.ownBlock = some g → F g)
    (c1 : Chg F w W1) (bm : MapIs W1 b ((k, now) :: without L k)) (hrow : RowAt W1 v L) (hpb : p ≠ b)
    (bp2 : Blk W2 p 48 #[.int .i64 h, .map (some b), v]) (c2 : Chg (fun i => v.ownBlock = some i) Wa W2) (r2 : RowAt W2 v2 (L ++ [(k, now)])) (n2 : ∀ g, v2.ownBlock = some g → v.ownBlock = some g ∨ (Wa.heap.size ≤ g ∧ g < W2.heap.size)) :
    Tab (W2.setCell ⟨p, 2, none⟩ v2) (grow F w (W2.setCell ⟨p, 2, none⟩ v2)) p h ((k, now) :: without L k) (L ++ [(k, now)]) ∧ Chg F w (W2.setCell ⟨p, 2, none⟩ v2) := by
  have hbv : v.ownBlock ≠ some b := by
    rcases hrow with ⟨rfl, _⟩ | ⟨g, off, cap, cur, rfl, hg, _⟩
    · simp [Value.ownBlock]
    · intro e
      have e : g = b := by simpa [Value.ownBlock] using e
      exact map_ne bm hg e
  have ca : Chg F w Wa := by rw [hW]; exact c1.alloc _
  have hs1 : W1.heap.size ≤ Wa.heap.size := by rw [hW]; simp
  have c3 : Chg F w W2 := ca.step c2 (fun i hi => .inl (fv i hi))
  have bma : MapIs Wa b ((k, now) :: without L k) := by rw [hW]; exact bm.of_block (Below.heap_alloc _ _ _ bm.lt)
  have bm2 := bma.chg c2 hbv
  have hpv2 := r2.ne bp2 (by decide)
  have hsz : (W2.setCell ⟨p, 2, none⟩ v2).heap.size = W2.heap.size := World.size_setCell _ _ _
  refine ⟨⟨b, v2, bp2.set_ 2 v2, bm2.of_block (Below.heap_setCell _ _ _ _ (Ne.symm hpb)), r2.of_block (fun g hg => Below.heap_setCell _ _ _ _ (fun e => hpv2 (by rw [hg, e]))), .inl fp, .inl fb, ?_, ?_⟩, c3.set p 2 (.inl fp) v2⟩
  · intro g hg
    rcases n2 g hg with h1 | h1
    · exact .inl (fv g h1)
    · refine .inr ⟨?_, by rw [hsz]; exact h1.2⟩
      have := ca.size
      omega
  · intro i hi
    rcases hi with hi | hi
    · have h1 := fl i hi
      have h2 := c3.size
      rw [hsz]
      omega
    · exact hi.2

theorem put_post {w W3 w' : World} {F : Nat → Prop} {p : Nat} {h now t : Int} {L : Prs} {k : ByteArray} {e : Ending} (hOk : Ok t L) (hpos : 1 ≤ h) (htn : t ≤ now) (hno : hasL h now L k = false) (fl : ∀ i, F i → i < w.heap.size)
    (c : Chg F w W3) (hp : FgPost W3 (grow F w W3) p h now ((k, now) :: without L k) (L ++ [(k, now)]) e w') :
    e = .returned (.tuple #[]) ∧ Tab w' (grow F w w') p h (putL h now L k) (putL h now L k) ∧ Chg F w w' := by
  obtain ⟨he, t1, c1⟩ := fg_put hOk hpos htn hno hp
  have e1 : putL h now L k = live h now L ++ [(k, now)] := by unfold putL; rw [if_neg (by rw [hno]; simp)]
  have c2 : Chg F w w' := c.step c1 (fun i hi => by
    rcases hi with hi | hi
    · exact .inl hi
    · exact .inr hi.1)
  refine ⟨he, ?_, c2⟩
  rw [e1]
  refine t1.mono (fun i hi => ?_) (fun i hi => ?_)
  · rcases hi with hi | hi
    · exact .inl hi
    · exact .inr ⟨hi.1, Nat.lt_of_lt_of_le hi.2 c1.size⟩
  · rcases hi with hi | hi
    · exact Nat.lt_of_lt_of_le (fl i hi) c2.size
    · exact hi.2

theorem put_row {t now : Int} {L : Prs} {k : ByteArray} (hOk : Ok t L) (htn : t ≤ now) (h1 : 0 ≤ now) (h2 : now ≤ 4294967296) : ∀ x ∈ L ++ [(k, now)], 0 ≤ x.2 ∧ x.2 ≤ 4294967296 := by
  intro x hx
  rcases List.mem_append.1 hx with h3 | h3
  · exact ok_row (hOk.later htn) h2 x h3
  · simp only [List.mem_singleton] at h3
    subst h3
    exact ⟨h1, h2⟩

set_option maxHeartbeats 800000 in
theorem put_no (w : World) (F : Nat → Prop) (p : Nat) (h now t : Int) (L : Prs) (k : ByteArray) (ht : Tab w F p h L L) (hOk : Ok t L) (hpos : 1 ≤ h) (htn : t ≤ now) (h1 : 0 ≤ now) (h2 : now ≤ 4294967296) (hl : L.length ≤ 999999) (hh : hasL h now L k = false) :
    Calls Try.prog 13 #[.pointer (some ⟨p, 0, none⟩), .int .i64 now, .string k] w (PutPost w F p h now L k) := by
  have HOK := Lib.hid hOk
  have HALL := Lib.hid ht.all
  obtain ⟨b, v, bp, bm, br, fp, fb, fv, _⟩ := ht
  have k1 := bp.cell 1
  simp only [List.getElem?_toArray, List.getElem?_cons_zero, List.getElem?_cons_succ] at k1
  have hpb := map_ne bm bp
  have hpv := br.ne bp (by decide)
  obtain ⟨W1, hst, bm1, g1⟩ := store_law (P := Try.prog) Try.underlying45 Try.underlying9 bm k now
  have bp1 := bp.grown g1 (by simpa using hpb)
  have br1 : RowAt W1 v L := br.of_block (fun g hg => g1.block g (br.lt g hg) (by
    rintro e
    injection e with e
    obtain ⟨es, c, hb0, _⟩ := bm
    rcases br with ⟨rfl, _⟩ | ⟨g', off, cap, cur, rfl, hc, _⟩
    · cases hg
    · have hg : g' = g := by simpa [Value.ownBlock] using hg
      subst hg
      subst e
      unfold Blk at hc
      rw [hb0] at hc
      cases hc))
  have c1 := Chg.of_grown (F := F) g1 fb
  have q0 := bp1.cell 0
  have q1 := bp1.cell 1
  have q2 := bp1.cell 2
  simp only [List.getElem?_toArray, List.getElem?_cons_zero, List.getElem?_cons_succ] at q0 q1 q2
  have BP1 := Lib.hid bp1
  have BR1 := Lib.hid br1
  have BM1 := Lib.hid bm1
  have C1 := Lib.hid c1
  have FV := Lib.hid fv
  have BP := Lib.hid bp
  have HPV := Lib.hid hpv
  have HPB := Lib.hid hpb
  have HH := Lib.hid hh
  clear bp1 br1 bm1 c1 g1 fv bp br hpv hpb hOk
  have HROW := Lib.hid (BR1.out.of_block (w' := W1.alloc (.cells #[.string k, .int .i64 now] 52)) (fun g hg => Below.heap_alloc _ _ _ (BR1.out.lt g hg)))
  have nb := Blk.new W1 52 #[.string k, .int .i64 now]
  have HZ0 : Hid ((W1.alloc (.cells #[.string k, .int .i64 now] 52)).cell? ((⟨W1.heap.size, 0, none⟩ : Addr).add 0) = some (.string k)) := nb.cell 0
  have HZ1 : Hid ((W1.alloc (.cells #[.string k, .int .i64 now] 52)).cell? ((⟨W1.heap.size, 0, none⟩ : Addr).add 1) = some (.int .i64 now)) := nb.cell 1
  clear nb
  by_cases hex : ∃ a, (k, a) ∈ L
  · obtain ⟨a, ha⟩ := hex
    have ho' := hasL_false hh a ha
    have ho : decide (h ≤ now - a) = true := by simpa using ho'
    have hlook := look_has (P := Try.prog) Try.underlying45 Try.underlying9 bm ha
    have ra := ok_row (HOK.out.later htn) h2 _ ha
    have ra1 := ra.1
    have ra2 := ra.2
    clear ra bm hh ha
    go_enter_defers Try.func13, Try.ntmps13
    go_wp2_with fail
    refine (over_any p h now a _ _ _ BP.out h1 h2 ra1 ra2).mono ?_
    rintro e w1 ⟨rfl, rfl⟩
    rw [ho]
    go_wp2_with (at_builtin; refine wpList_append_row _ rfl (.tmp 38) (.tmp 42) rfl v L rfl HROW.out (by omega) ⟨W1.heap.size, 0, none⟩ 1 k now rfl HZ0.out HZ1.out ?_; intro v2 W2 r2 c2 n2; obtain ⟨A2, cap2, rfl⟩ := r2.len; have R2 := Lib.hid r2; have C2 := Lib.hid c2; have N2 := Lib.hid n2; have bp2 := (BP1.out.alloc (.cells #[.string k, .int .i64 now] 52)).chg c2 HPV.out; have p2 := bp2.cell 2; have f2 := bp2.frozen 2; simp only [List.getElem?_toArray, List.getElem?_cons_zero, List.getElem?_cons_succ] at p2; have BP2 := Lib.hid bp2; clear r2 c2 n2 bp2)
    have hl2 : (L ++ [(k, now)]).length = L.length + 1 := by simp
    rw [hl2] at R2 N2
    have mid := put_mid (h := h) rfl HALL.out fp fb FV.out C1.out BM1.out BR1.out HPB.out BP2.out C2.out R2.out N2.out
    have FG := (forget_any _ _ p h now _ _ mid.1 h1 h2 (put_row HOK.out htn h1 h2) (by rw [hl2]; omega)).2 .returning
    have MC := mid.2
    clear mid hst q0 q1 q2 p2 f2
    refine leaves_cons (f := 23) (args := #[.pointer (some ⟨p, 0, none⟩), .int .i64 now]) (by simp) (by simp [go_sem]) ?_
    refine FG.mono ?_
    rintro e u' w'' ⟨rfl, hp⟩
    obtain ⟨rfl, t1, c1⟩ := put_post HOK.out hpos htn HH.out HALL.out MC hp
    refine ⟨_, results_tmp rfl _ _ _, ?_, t1, c1⟩
    rw [HH.out]
    rfl
  · have hlook := look_not (P := Try.prog) Try.underlying45 Try.underlying9 (by kernel_rfl) bm (fun a ha => hex ⟨a, ha⟩)
    clear hex bm hh
    go_enter_defers Try.func13, Try.ntmps13
    go_wp2_with (at_builtin; refine wpList_append_row _ rfl (.tmp 38) (.tmp 42) rfl v L rfl HROW.out (by omega) ⟨W1.heap.size, 0, none⟩ 1 k now rfl HZ0.out HZ1.out ?_; intro v2 W2 r2 c2 n2; obtain ⟨A2, cap2, rfl⟩ := r2.len; have R2 := Lib.hid r2; have C2 := Lib.hid c2; have N2 := Lib.hid n2; have bp2 := (BP1.out.alloc (.cells #[.string k, .int .i64 now] 52)).chg c2 HPV.out; have p2 := bp2.cell 2; have f2 := bp2.frozen 2; simp only [List.getElem?_toArray, List.getElem?_cons_zero, List.getElem?_cons_succ] at p2; have BP2 := Lib.hid bp2; clear r2 c2 n2 bp2)
    have hl2 : (L ++ [(k, now)]).length = L.length + 1 := by simp
    rw [hl2] at R2 N2
    have mid := put_mid (h := h) rfl HALL.out fp fb FV.out C1.out BM1.out BR1.out HPB.out BP2.out C2.out R2.out N2.out
    have FG := (forget_any _ _ p h now _ _ mid.1 h1 h2 (put_row HOK.out htn h1 h2) (by rw [hl2]; omega)).2 .returning
    have MC := mid.2
    clear mid hst q0 q1 q2 p2 f2
    refine leaves_cons (f := 23) (args := #[.pointer (some ⟨p, 0, none⟩), .int .i64 now]) (by simp) (by simp [go_sem]) ?_
    refine FG.mono ?_
    rintro e u' w'' ⟨rfl, hp⟩
    obtain ⟨rfl, t1, c1⟩ := put_post HOK.out hpos htn HH.out HALL.out MC hp
    refine ⟨_, results_tmp rfl _ _ _, ?_, t1, c1⟩
    rw [HH.out]
    rfl

/-- Put, whatever the table. -/
theorem put_any (w : World) (F : Nat → Prop) (p : Nat) (h now t : Int) (L : Prs) (k : ByteArray) (ht : Tab w F p h L L) (hOk : Ok t L) (hpos : 1 ≤ h) (htn : t ≤ now) (h1 : 0 ≤ now) (h2 : now ≤ 4294967296) (hl : L.length ≤ 999999) :
    Calls Try.prog 13 #[.pointer (some ⟨p, 0, none⟩), .int .i64 now, .string k] w (PutPost w F p h now L k) := by
  by_cases hh : hasL h now L k = true
  · exact put_yes w F p h now t L k ht hOk htn h1 h2 (by omega) hh
  · exact put_no w F p h now t L k ht hOk hpos htn h1 h2 hl (by simpa using hh)

end Go.Proofs.Ythbpimkbdkjcnaa
