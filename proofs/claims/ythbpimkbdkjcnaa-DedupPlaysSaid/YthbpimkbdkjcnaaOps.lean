/- Has, Put and Len of a table: what they tell, and what they leave. -/
import Derived.Test.YthbpimkbdkjcnaaLive
import Derived.Defers
namespace Go.Proofs.Ythbpimkbdkjcnaa
open Go.RowKit

theorem ok_row {t : Int} {L : Prs} (hOk : Ok t L) (ht : t ≤ 4294967296) : ∀ x ∈ L, 0 ≤ x.2 ∧ x.2 ≤ 4294967296 := fun x hx => ⟨hOk.low x hx, Int.le_trans (hOk.high x hx) ht⟩

/-- Len. -/
def LenPost (w : World) (F : Nat → Prop) (p : Nat) (h now : Int) (L : Prs) (e : Ending) (w' : World) : Prop :=
  e = .returned (.int .i64 (live h now L).length) ∧ Tab w' F p h (live h now L) (live h now L) ∧ Chg F w w'

set_option maxHeartbeats 400000 in
theorem len_any (w : World) (F : Nat → Prop) (p : Nat) (h now t : Int) (L : Prs) (ht : Tab w F p h L L) (hOk : Ok t L) (htn : t ≤ now) (h1 : 0 ≤ now) (h2 : now ≤ 4294967296) (hl : L.length ≤ 1000000) :
    Calls Try.prog 18 #[.pointer (some ⟨p, 0, none⟩), .int .i64 now] w (LenPost w F p h now L) := by
  have HF := Lib.hid (forget_any w F p h now L L ht h1 h2 (ok_row (hOk.later htn) h2) hl).1
  have HOK := Lib.hid hOk
  clear ht hOk
  go_enter Try.func18, Try.ntmps18
  go_wp2_with fail
  refine HF.out.mono ?_
  rintro e w1 hp
  obtain ⟨rfl, t1, c1⟩ := fg_same HOK.out hp
  have T1 := Lib.hid t1
  have C1 := Lib.hid c1
  obtain ⟨b, v, bp, bm, _⟩ := t1
  have k1 := bp.cell 1
  simp only [List.getElem?_toArray, List.getElem?_cons_zero, List.getElem?_cons_succ] at k1
  have hlen := len_law (P := Try.prog) (ty := 3) Try.underlying45 bm
  have hb := live_length h now L
  have HFO := Lib.hid hp
  clear hp c1 bp bm HF
  generalize hL : (live h now L).length = m at *
  have HL := Lib.hid hL
  clear hL
  go_wp2_with fail
  go_ret
  exact ⟨by rw [HL.out]; rfl, T1.out, C1.out⟩

theorem hasL_key {h now : Int} {L : Prs} {k : ByteArray} {a : Int} (hn : (L.map (·.1)).Nodup) (ha : (k, a) ∈ L) : hasL h now L k = !decide (h ≤ now - a) := by
  by_cases ho : h ≤ now - a
  · have e : hasL h now L k = false := by
      unfold hasL
      rw [List.any_eq_false]
      intro x hx
      simp only [decide_eq_true_eq]
      rintro ⟨rfl, h2⟩
      have := keys_one hn hx ha
      omega
    rw [e]
    simp [ho]
  · have e : hasL h now L k = true := by
      unfold hasL
      rw [List.any_eq_true]
      exact ⟨_, ha, by simp only [decide_eq_true_eq]; exact ⟨trivial, by omega⟩⟩
    rw [e]
    simp [ho]
theorem hasL_none {h now : Int} {L : Prs} {k : ByteArray} (hx : ¬ ∃ a, (k, a) ∈ L) : hasL h now L k = false := by
  unfold hasL
  rw [List.any_eq_false]
  intro x h1
  simp only [decide_eq_true_eq]
  rintro ⟨rfl, _⟩
  exact hx ⟨_, h1⟩

/-- Has. -/
def HasPost (w : World) (F : Nat → Prop) (p : Nat) (h now : Int) (L : Prs) (k : ByteArray) (e : Ending) (w' : World) : Prop :=
  e = .returned (.bool (hasL h now L k)) ∧ Tab w' F p h (live h now L) (live h now L) ∧ Chg F w w'

set_option maxHeartbeats 400000 in
theorem has_any (w : World) (F : Nat → Prop) (p : Nat) (h now t : Int) (L : Prs) (k : ByteArray) (ht : Tab w F p h L L) (hOk : Ok t L) (htn : t ≤ now) (h1 : 0 ≤ now) (h2 : now ≤ 4294967296) (hl : L.length ≤ 1000000) :
    Calls Try.prog 15 #[.pointer (some ⟨p, 0, none⟩), .int .i64 now, .string k] w (HasPost w F p h now L k) := by
  have HF := Lib.hid (forget_any w F p h now L L ht h1 h2 (ok_row (hOk.later htn) h2) hl).2
  have HOK := Lib.hid hOk
  obtain ⟨b, v, bp, bm, _⟩ := ht
  have k1 := bp.cell 1
  simp only [List.getElem?_toArray, List.getElem?_cons_zero, List.getElem?_cons_succ] at k1
  have BP := Lib.hid bp
  have BM := Lib.hid bm
  clear bp bm hOk
  by_cases hex : ∃ a, (k, a) ∈ L
  · obtain ⟨a, ha⟩ := hex
    have hlook := look_has (P := Try.prog) Try.underlying45 Try.underlying9 BM.out ha
    have ra := ok_row (HOK.out.later htn) h2 _ ha
    have ra1 := ra.1
    have ra2 := ra.2
    have HA := Lib.hid ha
    clear ha ra
    go_enter_defers Try.func15, Try.ntmps15
    go_wp2_with fail
    refine (over_any p h now a _ _ _ BP.out h1 h2 ra1 ra2).mono ?_
    rintro e w1 ⟨rfl, rfl⟩
    go_wp2_with fail
    refine leaves_cons (f := 23) (args := #[.pointer (some ⟨p, 0, none⟩), .int .i64 now]) (by simp) (by simp [go_sem]) ?_
    refine (HF.out .returning).mono ?_
    rintro e u' w'' ⟨rfl, hp⟩
    obtain ⟨rfl, t1, c1⟩ := fg_same HOK.out hp
    refine ⟨_, results_tmp rfl _ _ _, ?_, t1, c1⟩
    rw [hasL_key HOK.out.keys HA.out]
    rfl
  · have hlook := look_not (P := Try.prog) Try.underlying45 Try.underlying9 (by kernel_rfl) BM.out (fun a ha => hex ⟨a, ha⟩)
    have HEX := Lib.hid hex
    clear hex
    go_enter_defers Try.func15, Try.ntmps15
    go_wp2_with fail
    refine leaves_cons (f := 23) (args := #[.pointer (some ⟨p, 0, none⟩), .int .i64 now]) (by simp) (by simp [go_sem]) ?_
    refine (HF.out .returning).mono ?_
    rintro e u' w'' ⟨rfl, hp⟩
    obtain ⟨rfl, t1, c1⟩ := fg_same HOK.out hp
    refine ⟨_, results_tmp rfl _ _ _, ?_, t1, c1⟩
    rw [hasL_none HEX.out]
    rfl

end Go.Proofs.Ythbpimkbdkjcnaa
