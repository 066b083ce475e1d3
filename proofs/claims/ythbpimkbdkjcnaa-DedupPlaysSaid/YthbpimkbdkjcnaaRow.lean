/- append onto a row of pairs: in its room, or in a new row. -/
import Derived.Test.YthbpimkbdkjcnaaTab
import Derived.ArgAppend
namespace Go.Proofs.Ythbpimkbdkjcnaa
open Go.RowKit

/-- The cells of a row. -/
def flat : Prs → List Value
  | [] => []
  | x :: r => .string x.1 :: .int .i64 x.2 :: flat r

theorem flat_length : ∀ R : Prs, (flat R).length = R.length * 2
  | [] => rfl
  | x :: r => by simp only [flat, List.length_cons, flat_length r]; omega
theorem flat_append : ∀ R S : Prs, flat (R ++ S) = flat R ++ flat S
  | [], S => rfl
  | x :: r, S => by simp [flat, flat_append r S]
theorem flat_at : ∀ (R : Prs) (i : Nat) (x : ByteArray × Int), R[i]? = some x → (flat R)[i * 2]? = some (.string x.1) ∧ (flat R)[i * 2 + 1]? = some (.int .i64 x.2)
  | [], i, x, h => by simp at h
  | y :: r, 0, x, h => by
    simp at h
    subst h
    simp [flat]
  | y :: r, i + 1, x, h => by
    simp at h
    have := flat_at r i x h
    rw [show (i + 1) * 2 = i * 2 + 2 from by omega]
    simpa [flat] using this
theorem flat_cell (R : Prs) : ∀ (j : Nat) (u : Value), (flat R)[j]? = some u → ∃ i x, R[i]? = some x ∧ ((j = i * 2 ∧ u = .string x.1) ∨ (j = i * 2 + 1 ∧ u = .int .i64 x.2)) := by
  induction R with
  | nil => intro j u h; simp [flat] at h
  | cons y r ih =>
    intro j u h
    match j, h with
    | 0, h => exact ⟨0, y, rfl, .inl ⟨rfl, by simpa [flat] using h.symm⟩⟩
    | 1, h => exact ⟨0, y, rfl, .inr ⟨rfl, by simpa [flat] using h.symm⟩⟩
    | j + 2, h =>
      obtain ⟨i, x, hx, hh⟩ := ih j u (by simpa [flat] using h)
      exact ⟨i + 1, x, by simpa using hx, by rcases hh with ⟨e, hu⟩ | ⟨e, hu⟩ <;> first | exact .inl ⟨by omega, hu⟩ | exact .inr ⟨by omega, hu⟩⟩

theorem rowAt_of_own {w : World} {base : Nat} {v : Value} {R : Prs} (h : w.ownsRow base 52 2 v R.length (flat R)) : RowAt w v R := by
  obtain ⟨_, h | ⟨g, cap, cur, hv, hb, hg, hn, hc, hs, ht⟩⟩ := h
  · exact .inl ⟨h.1, List.eq_nil_of_length_eq_zero h.2⟩
  · refine .inr ⟨g, 0, cap, cur, hv, hg, hn, by omega, fun i x hx => ?_⟩
    obtain ⟨e1, e2⟩ := flat_at R i x hx
    have hl := (List.getElem?_eq_some_iff.1 hx).1
    rw [← ht, List.getElem?_take, if_pos (by omega)] at e1 e2
    rw [Nat.zero_add]
    exact ⟨by simpa using e1, by simpa using e2⟩

theorem info52 : (Try.prog.info? 52).map (fun i => (i.zero, i.size, i.bytes)) = some (some (.agg #[.string { data := #[] }, .int .i64 0]), 2, 24) := by kernel_rfl

theorem append_row {w : World} {v : Value} {R : Prs} (h : RowAt w v R) (hl : R.length ≤ 1000000) {ty : TypeId} {ad : Addr} {c : Nat} {k : ByteArray} {n : Int}
    (h0 : w.cell? (ad.add 0) = some (.string k)) (h1 : w.cell? (ad.add 1) = some (.int .i64 n)) :
    ∃ v' w', (Builtin.append_ #[46, 46] ty #[v, .slice (some ad) 1 c]).run Try.prog w = .ok v' w' ∧ RowAt w' v' (R ++ [(k, n)]) ∧ Chg (fun i => v.ownBlock = some i) w w' ∧
      ∀ g, v'.ownBlock = some g → v.ownBlock = some g ∨ (w.heap.size ≤ g ∧ g < w'.heap.size) := by
  obtain ⟨i0, hi, hz0, hz1, hz2⟩ := info_parts info52
  have hnews : ∀ j u, ([.string k, .int .i64 n] : List Value)[j]? = some u → w.cell? (ad.add j) = some u := by
    intro j u hu
    match j, hu with
    | 0, hu => rw [h0]; simpa using hu
    | 1, hu => rw [h1]; simpa using hu
    | j + 2, hu => simp at hu
  have hone : ∀ u ∈ ([.string k, .int .i64 n] : List Value), u.oneCell' = true := by
    intro u hu
    rcases List.mem_cons.1 hu with rfl | hu
    · rfl
    · rcases List.mem_cons.1 hu with rfl | hu
      · rfl
      · cases hu
  have hfl : flat (R ++ [(k, n)]) = flat R ++ [.string k, .int .i64 n] := by rw [flat_append]; rfl
  have hlen : (R ++ [(k, n)]).length = R.length + 1 := by simp
  have grown : ∀ v' w', w'.ownsRow w.heap.size 52 2 v' (R.length + 1) (flat R ++ [.string k, .int .i64 n]) → w.grownBy w' none →
      RowAt w' v' (R ++ [(k, n)]) ∧ Chg (fun i => v.ownBlock = some i) w w' ∧ ∀ g, v'.ownBlock = some g → v.ownBlock = some g ∨ (w.heap.size ≤ g ∧ g < w'.heap.size) := by
    intro v' w' ho hg
    refine ⟨rowAt_of_own (base := w.heap.size) (by rw [hfl, hlen]; exact ho), ⟨hg.os, hg.tape, hg.output, hg.size, fun k hk _ => hg.block k hk (by simp)⟩, fun g hgg => .inr (ho.lt g hgg)⟩
  rcases h with ⟨rfl, rfl⟩ | ⟨g, off, cap, cur, rfl, hg, hcap, hsz, hcell⟩
  · obtain ⟨v', w', hr, ho, hgr, _⟩ := run_append_own (P := Try.prog) w w.heap.size 46 ty 52 i0 _ 2 24 Try.underlying46 hi hz0 hz1 hz2 rfl (by omega) (.slice none 0 0) 0 [] (World.ownsRow_nil w _ 52 2) ad 1 c [.string k, .int .i64 n] rfl hnews hone
      (by simp only [maxLen]; omega) (by omega) (Nat.le_refl _)
    exact ⟨v', w', hr, grown v' w' (by simpa [flat] using ho) hgr⟩
  · by_cases hroom : R.length + 1 ≤ cap
    · have hr := run_append_room_cells (P := Try.prog) w 46 ty 52 i0 Try.underlying46 hi g off R.length cap ad 1 c [.string k, .int .i64 n] (by rw [hz1]; rfl) hnews hone hroom
        (fun j hj => by
          rw [hg.cell, hz1]
          have hj2 : j < 2 := hj
          rw [Array.getElem?_eq_getElem (by omega)]
          rfl)
        (fun j hj => hg.frozen _)
      rw [hz1] at hr
      refine ⟨_, _, hr, ?_, ?_, fun g' hg' => .inl hg'⟩
      · refine .inr ⟨g, off, cap, _, by rw [hlen], (hg.set_ _ _).set_ _ _, by rw [hlen]; exact hroom, by simpa using hsz, fun i x hx => ?_⟩
        rcases Nat.lt_or_ge i R.length with hi1 | hi1
        · rw [List.getElem?_append_left hi1] at hx
          obtain ⟨e1, e2⟩ := hcell i x hx
          rw [Array.getElem?_setIfInBounds_ne (by omega), Array.getElem?_setIfInBounds_ne (by omega), Array.getElem?_setIfInBounds_ne (by omega), Array.getElem?_setIfInBounds_ne (by omega)]
          exact ⟨e1, e2⟩
        · rw [List.getElem?_append_right hi1] at hx
          have hi2 : i = R.length := by
            rcases Nat.eq_or_lt_of_le hi1 with e | e
            · exact e.symm
            · rw [List.getElem?_eq_none (by simp; omega)] at hx; cases hx
          subst hi2
          simp at hx
          subst hx
          constructor
          · rw [Array.getElem?_setIfInBounds_ne (by omega), Array.getElem?_setIfInBounds_self_of_lt (by omega)]
          · rw [Array.getElem?_setIfInBounds_self_of_lt (by simp; omega)]
      · have c1 := (Chg.refl (fun i => (Value.slice (some (⟨g, off, none⟩ : Addr)) R.length cap).ownBlock = some i) w).set g (off + R.length * 2) (.inl rfl) (.string k)
        exact c1.set g (off + R.length * 2 + 1) (.inl rfl) (.int .i64 n)
    · have holds : ∀ j u, (flat R)[j]? = some u → w.cell? ((⟨g, off, none⟩ : Addr).add j) = some u := by
        intro j u hu
        obtain ⟨i, x, hx, hh⟩ := flat_cell R j u hu
        obtain ⟨e1, e2⟩ := hcell i x hx
        rw [Addr.add_lit, hg.cell]
        rcases hh with ⟨rfl, rfl⟩ | ⟨rfl, rfl⟩
        · exact e1
        · exact e2
      obtain ⟨v', w', hr, ho, hgr⟩ := run_append_arg_grows (P := Try.prog) w 46 ty 52 i0 _ 2 24 Try.underlying46 hi hz0 hz1 hz2 rfl (by omega) ⟨g, off, none⟩ R.length cap (flat R) (flat_length R) holds ad 1 c [.string k, .int .i64 n] rfl hnews
        (by omega) (by simp only [maxLen]; omega) (by omega)
      exact ⟨v', w', hr, grown v' w' ho hgr⟩

/-- append onto a row, at the operation. -/
theorem wpList_append_row (w : World) {ops : Array Oper} {rest : List Oper} {o : Oper} {a : Act} {Q : Exit → Act → World → Prop} (hgd : o.guard = none) (s x : Operand)
    (ho : o.op = .call { callee := .builtin .append, args := #[s, x], argTypes := #[46, 46] }) (v : Value) (R : Prs) (hs : a.eval s = v) (h : RowAt w v R) (hl : R.length ≤ 1000000)
    (ad : Addr) (c : Nat) (k : ByteArray) (n : Int) (hx : a.eval x = .slice (some ad) 1 c) (h0 : w.cell? (ad.add 0) = some (.string k)) (h1 : w.cell? (ad.add 1) = some (.int .i64 n))
    (hK : ∀ v' w', RowAt w' v' (R ++ [(k, n)]) → Chg (fun i => v.ownBlock = some i) w w' → (∀ g, v'.ownBlock = some g → v.ownBlock = some g ∨ (w.heap.size ≤ g ∧ g < w'.heap.size)) → wpList Try.prog ops Q rest (a.put o.dst v') w') :
    wpList Try.prog ops Q (o :: rest) a w := by
  refine wpList_plain hgd fun K hK' => ?_
  obtain ⟨v', w', hrun, r1, r2, r3⟩ := append_row (ty := o.type) (c := c) h hl h0 h1
  unfold Oper.wp
  simp [execOp, ho, resolve, invoke, builtin, hs, hx, hrun, Result.andThen]
  exact hK' _ _ (hK v' w' r1 r2 r3)

end Go.Proofs.Ythbpimkbdkjcnaa
