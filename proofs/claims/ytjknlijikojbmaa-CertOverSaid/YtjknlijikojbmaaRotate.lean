/- Rotate: a new root, and up to when the older ones are trusted. -/
import Derived.Test.YtjknlijikojbmaaIssue
import Derived.Laws.OwnMore
namespace Go.Proofs.Ytjknlijikojbmaa
open Go.RowKit

theorem Chg.up {F : Nat → Prop} {a b c : World} {q : Nat} (h : Chg F a b) (k : Chg (fun i => i = q) b c) (hq : F q ∨ a.heap.size ≤ q) : Chg F a c :=
  ⟨k.os.trans h.os, k.tape.trans h.tape, k.output.trans h.output, Nat.le_trans h.size k.size, fun i hi hn => (k.block i (Nat.lt_of_lt_of_le hi h.size) (by
    rintro rfl
    rcases hq with hq | hq
    · exact hn hq
    · omega)).trans (h.block i hi hn)⟩
theorem AuIs.newU {base : Nat} {w W : World} {g : Nat} {vG : Value} {b : Nat} {vU vU' : Value} {a : Au} {us : List Int} (h : AuIs base w g vG b vU a) (ch : Chg (fun i => i = g ∨ vU.ownBlock = some i) w W)
    (bg : Blk W g 51 #[vG, .map (some b), vU']) (own : W.ownsRow base 3 1 vU' us.length (us.map (Value.int .i64))) (few : us.length ≤ 1000) : AuIs base W g vG b vU' { a with u := us } := by
  refine ⟨bg, own_chg h.own ch ?_, h.set.of_block (ch.block b h.set.lt ?_), own, h.hg, h.hb, h.few, few⟩
  · intro i hi
    rintro (rfl | e)
    · exact own_blk_ne h.own h.blk (by decide) hi
    · exact own_own_ne h.ownU h.own (by decide) e hi
  · rintro (e | e)
    · exact h.set.ne_blk h.blk e.symm
    · exact h.set.ne_own h.ownU e

/-- What stands in the row of ticks while the loop goes down. -/
def Au.half (a : Au) (k : Nat) (en : Int) : List Int := a.u.take k ++ List.replicate (a.u.length - k + 1) en
theorem half_len (a : Au) (k : Nat) (en : Int) (hk : k ≤ a.u.length) : (a.half k en).length = a.u.length + 1 := by
  unfold Au.half; simp; omega
theorem half_all (a : Au) (en : Int) : a.half a.u.length en = a.u ++ [en] := by unfold Au.half; simp
theorem half_at (a : Au) (k : Nat) (en : Int) (hk : k ≤ a.u.length) (i : Nat) : (a.half k en)[i]? = if i < k then a.u[i]? else if i < a.u.length + 1 then some en else none := by
  unfold Au.half
  have h2 : (a.u.take k).length = k := by simp; omega
  split
  · rw [List.getElem?_append_left (by omega), List.getElem?_take_of_lt (by omega)]
  · rw [List.getElem?_append_right (by omega), h2, List.getElem?_replicate]
    split <;> split <;> first | rfl | omega
theorem half_get (a : Au) (k : Nat) (en : Int) (hk : k < a.u.length) : (a.half (k + 1) en).getD k 0 = a.u.getD k 0 := by
  simp only [List.getD_eq_getElem?_getD]
  rw [half_at a (k + 1) en (by omega), if_pos (by omega)]
theorem half_set (a : Au) (k : Nat) (en : Int) (hk : k < a.u.length) : (a.half (k + 1) en).set k en = a.half k en := by
  apply List.ext_getElem?
  intro i
  rw [List.getElem?_set, half_len a (k + 1) en (by omega), half_at a (k + 1) en (by omega), half_at a k en (by omega)]
  by_cases h : k = i
  · subst h
    rw [if_pos rfl, if_neg (Nat.lt_irrefl k)]
  · rw [if_neg h]
    by_cases h2 : i < k
    · rw [if_pos (by omega), if_pos h2]
    · rw [if_neg (by omega), if_neg h2]
theorem half_end (a : Au) (k : Nat) (now over : Int) (hk : k ≤ a.u.length) (h1 : ∀ j x, j < k → a.u[j]? = some x → x ≤ now + over) (h2 : ∀ j x, k ≤ j → a.u[j]? = some x → now + over < x) : ({ a with u := a.half k (now + over) } : Au) = a.rotate now over := by
  unfold Au.rotate
  congr 1
  apply List.ext_getElem?
  intro i
  rw [half_at a k _ hk]
  rcases Nat.lt_or_ge i a.u.length with h | h
  · rw [List.getElem?_append_left (by simpa using h), List.getElem?_map]
    obtain ⟨x, hx⟩ : ∃ x, a.u[i]? = some x := ⟨_, List.getElem?_eq_getElem h⟩
    rw [hx]
    split
    · rename_i hik
      have := h1 i x hik hx
      simp
      omega
    · rename_i hik
      have := h2 i x (by omega) hx
      rw [if_pos (by omega)]
      simp
      omega
  · rw [List.getElem?_append_right (by simpa using h), if_neg (by omega)]
    simp only [List.length_map]
    rcases Nat.eq_or_lt_of_le h with h3 | h3
    · rw [if_pos (by omega), show i - a.u.length = 0 from by omega]
      rfl
    · rw [if_neg (by omega), List.getElem?_eq_none (by simp; omega)]

def RotateIs (base : Nat) (g : Nat) (vG : Value) (b : Nat) (vU : Value) (a : Au) (now over : Int) (w : World) (e : Ending) (w' : World) : Prop :=
  ∃ vU', e = .returned (.int .i64 ((a.rotate now over).n : Nat)) ∧ AuIs base w' g vG b vU' (a.rotate now over) ∧ Chg (fun i => i = g ∨ vU.ownBlock = some i) w w' ∧ ∀ i, vU'.ownBlock = some i → vU.ownBlock = some i ∨ w.heap.size ≤ i

set_option maxHeartbeats 2000000 in
theorem rotate_any {base : Nat} {w : World} {g : Nat} {vG : Value} {b : Nat} {vU : Value} {a : Au} (now over : Int) (h : AuIs base w g vG b vU a) (hb : base ≤ w.heap.size) (hf : a.u.length < 1000) (hs : a.u.Pairwise (fun x y => x ≤ y))
    (hn0 : 0 ≤ now) (hn1 : now ≤ 1000000) (hl0 : 0 ≤ over) (hl1 : over ≤ 1000000) :
    Calls Try.prog 14 #[.pointer (some ⟨g, 0, none⟩), .int .i64 now, .int .i64 over] w (RotateIs base g vG b vU a now over w) := by
  obtain ⟨A, cap, rfl⟩ := own_form h.ownU
  have H := Lib.hid h
  have HS := Lib.hid hs
  have c2 := h.blk.cell 2
  simp only [List.getElem?_toArray, List.getElem?_cons_zero, List.getElem?_cons_succ] at c2
  have z2 := old_cell c2 (.cells #[.int .i64 (now + over)] 3)
  have OWA := Lib.hid (h.ownU.alloc (.cells #[.int .i64 (now + over)] 3))
  have NC : Hid (∀ j u, [Value.int .i64 (now + over)][j]? = some u → (w.alloc (.cells #[.int .i64 (now + over)] 3)).cell? ((⟨w.heap.size, 0, none⟩ : Addr).add j) = some u) := new_cells w 3 [.int .i64 (now + over)]
  have HBS : Hid (base ≤ (w.alloc (.cells #[.int .i64 (now + over)] 3)).heap.size) := by show base ≤ _; simp; omega
  clear h hs
  go_enter Try.func14, Try.ntmps14
  go_wp2_with (
    at_builtin
    refine wpList_pushn _ rfl (.tmp 16) (.tmp 18) 22 3 (by rfl) Try.underlying22 _ 1 8 info3 rfl (by omega) (by omega) base (.slice A a.u.length cap) a.u.length (a.u.map (Value.int .i64)) (by rfl) OWA.out (by omega) ⟨w.heap.size, 0, none⟩ 1 [.int .i64 (now + over)] rfl (by rfl) NC.out (by simp [Value.oneCell']) HBS.out ?_
    intro v2 w2 own2 ch2 nn2
    obtain ⟨gu, cap2, rfl⟩ := own_some own2 (by omega)
    have hne : (Value.slice A a.u.length cap).ownBlock ≠ some g := own_blk_ne H.out.ownU H.out.blk (by decide)
    have bg2 := (H.out.blk.alloc (.cells #[.int .i64 (now + over)] 3)).chg ch2 hne
    have j2 := bg2.cell 2
    have jf := bg2.frozen 2
    simp only [List.getElem?_toArray, List.getElem?_cons_zero, List.getElem?_cons_succ] at j2
    have bg3 := bg2.set_ 2 (.slice (some ⟨gu, 0, none⟩) (a.u.length + 1) cap2)
    have k2 := bg3.cell 2
    simp at k2
    have BG3 := Lib.hid bg3
    have OW2 := Lib.hid own2
    have CH2 := Lib.hid ch2
    have NN2 := Lib.hid nn2
    have NG : Hid ((Value.slice (some ⟨gu, 0, none⟩) (a.u.length + 1) cap2).ownBlock ≠ some g) := own_blk_ne own2 bg2 (by decide)
    clear bg3 own2 ch2 nn2 hne bg2)
  have nvg : ∀ i, (Value.slice A a.u.length cap).ownBlock = some i → i < w.heap.size := fun i hi => (H.out.ownU.lt i hi).2
  have CH3 : Hid (Chg (fun i => i = g ∨ (Value.slice A a.u.length cap).ownBlock = some i) w (w2.setCell ⟨g, 2, none⟩ (.slice (some ⟨gu, 0, none⟩) (a.u.length + 1) cap2))) :=
    ((((Chg.refl _ w).alloc (.cells #[.int .i64 (now + over)] 3)).trans (CH2.out.mono (fun i hi => .inr hi))).set g 2 (.inl (.inl rfl)) _)
  have own3 : (w2.setCell ⟨g, 2, none⟩ (.slice (some ⟨gu, 0, none⟩) (a.u.length + 1) cap2)).ownsRow base 3 1 (.slice (some ⟨gu, 0, none⟩) (a.u.length + 1) cap2) (a.u.length + 1) (a.u.map (Value.int .i64) ++ [.int .i64 (now + over)]) :=
    own_chg OW2.out ((Chg.refl (fun i => i = g) w2).set g 2 (.inl rfl) _) (fun i hi e => NG.out (e ▸ hi))
  have AU3 : Hid (AuIs base (w2.setCell ⟨g, 2, none⟩ (.slice (some ⟨gu, 0, none⟩) (a.u.length + 1) cap2)) g vG b (.slice (some ⟨gu, 0, none⟩) (a.u.length + 1) cap2) { a with u := a.half a.u.length (now + over) }) := by
    refine H.out.newU CH3.out (by have h := BG3.out; simpa using h) ?_ (by rw [half_len a _ _ (Nat.le_refl _)]; omega)
    rw [half_len a _ _ (Nat.le_refl _), half_all, List.map_append]
    exact own3
  have NB : Hid (∀ i, (Value.slice (some ⟨gu, 0, none⟩) (a.u.length + 1) cap2).ownBlock = some i → (Value.slice A a.u.length cap).ownBlock = some i ∨ w.heap.size ≤ i) := by
    intro i hi
    rcases NN2.out i hi with e | e
    · exact .inl e
    · right
      simp at e
      omega
  clear BG3 OW2 CH2 NN2 NG own3 nvg j2 jf k2 c2 z2 OWA NC HBS
  generalize w2.setCell ⟨g, 2, none⟩ (.slice (some ⟨gu, 0, none⟩) (a.u.length + 1) cap2) = W3 at *
  go_loopw [8] (fun i wr => ∃ k : Nat, k ≤ a.u.length ∧ i = .int .i64 ((k : Int) - 1) ∧ AuIs base wr g vG b (.slice (some ⟨gu, 0, none⟩) (a.u.length + 1) cap2) { a with u := a.half k (now + over) } ∧ Chg (fun i => i = gu) W3 wr ∧ (∀ j x, k ≤ j → a.u[j]? = some x → now + over < x)) (fun i _ => (intOf i + 1).toNat)
  case atStart =>
    refine ⟨a.u.length, Nat.le_refl _, ?_, AU3.out, Chg.refl _ _, fun j x hj hx => ?_⟩
    · rw [show (a.u.length : Int) + 1 - 2 = (a.u.length : Int) - 1 from by omega]
    · have := (List.getElem?_eq_some_iff.1 hx).1
      omega
  case round =>
    obtain ⟨k, hk, rfl, au, ch, hbig⟩ := hrel
    have AU := Lib.hid au
    have CH := Lib.hid ch
    have BIG := Lib.hid hbig
    have c2 := au.blk.cell 2
    simp only [List.getElem?_toArray, List.getElem?_cons_zero, List.getElem?_cons_succ] at c2
    clear au ch hbig
    have hgu : (Value.slice (some ⟨gu, 0, none⟩) (a.u.length + 1) cap2).ownBlock = some gu := rfl
    have hggu : g ≠ gu := fun e => own_blk_ne AU.out.ownU AU.out.blk (by decide) (e ▸ hgu)
    rcases Nat.eq_zero_or_pos k with rfl | hpos
    · have hd : decide ((0 : Int) ≤ ((0 : Nat) : Int) - 1) = false := by simp
      have e := half_end a 0 now over hk (fun j x h => by omega) BIG.out
      rw [e] at AU
      clear e
      go_wp2_with fail
      refine (newest_any AU.out).mono ?_
      rintro e w' ⟨rfl, rfl⟩
      go_wp2_with fail
      go_ret
      exact ⟨_, rfl, AU.out, CH3.out.up CH.out (by rcases NB.out gu hgu with e | e; exact .inl (.inr e); exact .inr e), NB.out⟩
    · obtain ⟨m, rfl⟩ : ∃ m, k = m + 1 := ⟨k - 1, by omega⟩
      have ek : (((m + 1 : Nat) : Int) - 1) = (m : Int) := by omega
      rw [ek]
      obtain ⟨x, hx⟩ : ∃ x, a.u[m]? = some x := ⟨_, List.getElem?_eq_getElem (by omega)⟩
      have ownR : wr.ownsRow base 3 1 (.slice (some ⟨gu, 0, none⟩) (a.u.length + 1) cap2) (a.u.length + 1) ((a.half (m + 1) (now + over)).map (Value.int .i64)) := by
        have h := AU.out.ownU
        simp only at h
        rwa [half_len a _ _ hk] at h
      have cm : wr.cell? ⟨gu, m, none⟩ = some (.int .i64 x) := by
        rw [ownR.cellAt _ (by omega), List.getElem?_map, half_at a _ _ hk, if_pos (by omega), hx]
        rfl
      have fm := ownR.frozenAt m
      have OWR := Lib.hid ownR
      clear ownR
      have hml : m < a.u.length := by omega
      by_cases hgt : now + over < x
      · have hd : decide (now + over < x) = true := by simpa using hgt
        have HGT := Lib.hid hgt
        have HX := Lib.hid hx
        clear hgt hx ek
        go_wp2_with fail
        refine ⟨⟨m, by omega, by go_num, ?_, CH.out.set gu m (.inl rfl) _, ?_⟩, by simp [intOf]⟩
        · obtain ⟨st, gr⟩ := OWR.out.stored m (.int .i64 (now + over))
          have e := half_set a m (now + over) hml
          refine AU.out.newU (us := a.half m (now + over)) ((Chg.refl _ wr).set gu m (.inl (.inr hgu)) _) (AU.out.blk.far (p := ⟨gu, m, none⟩) hggu _) ?_ (by rw [half_len a _ _ (by omega)]; omega)
          rw [half_len a _ _ (by omega), ← e, List.map_set]
          exact st
        · intro j y hj hy
          rcases Nat.eq_or_lt_of_le hj with h | h
          · subst h
            have := HX.out
            rw [this] at hy
            injection hy with hy
            rw [← hy]
            exact HGT.out
          · exact BIG.out j y h hy
      · have hd : decide (now + over < x) = false := by simpa using hgt
        have HGT := Lib.hid hgt
        have HX := Lib.hid hx
        clear hgt hx ek
        have e := half_end a (m + 1) now over hk (fun j y hj hy => ?low) BIG.out
        case low =>
          have hyx : y ≤ x := by
            obtain ⟨l1, e1⟩ := List.getElem?_eq_some_iff.1 hy
            obtain ⟨l2, e2⟩ := List.getElem?_eq_some_iff.1 HX.out
            rw [← e1, ← e2]
            rcases Nat.eq_or_lt_of_le (show j ≤ m by omega) with h | h
            · subst h; exact Int.le_refl _
            · exact List.pairwise_iff_getElem.1 HS.out j m l1 l2 h
          have := HGT.out
          omega
        rw [e] at AU
        clear e
        go_wp2_with fail
        refine (newest_any AU.out).mono ?_
        rintro e w' ⟨rfl, rfl⟩
        go_wp2_with fail
        go_ret
        exact ⟨_, rfl, AU.out, CH3.out.up CH.out (by rcases NB.out gu hgu with e | e; exact .inl (.inr e); exact .inr e), NB.out⟩

end Go.Proofs.Ytjknlijikojbmaa
