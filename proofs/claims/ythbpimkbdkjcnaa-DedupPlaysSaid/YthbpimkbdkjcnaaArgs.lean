/- A slice of integers that came in; rows of the call's own: what they hold, and one more at their end. -/
import Derived.Test.YthbpimkbdkjcnaaLives
import Derived.Maps.AppendAt
import Derived.Deep.AppendLies
namespace Go.Proofs.Ythbpimkbdkjcnaa
open Go.RowKit

/-- A slice of integers that came in. -/
def IsRow (w : World) (a : Option Addr) (len cap : Nat) (zs : List Int) : Prop :=
  (a = none ∧ len = 0 ∧ cap = 0 ∧ zs = []) ∨
  ∃ x, a = some x ∧ len ≤ cap ∧ cap ≤ maxLen ∧ zs.length = cap ∧ (∀ i, i < zs.length → w.cell? (x.add i) = some (.int .i64 (zs.getD i 0))) ∧ ∀ n ∈ zs, (Lit.int .i64 n).wf = true

theorem addr_add_block (a : Addr) (n : Nat) : (a.add n).block = a.block := by unfold Addr.add; split <;> rfl

theorem IsRow.at_ {w : World} {a : Option Addr} {len cap : Nat} {zs : List Int} (h : IsRow w a len cap zs) {i : Nat} (hi : i < len) :
    ∃ x n, a = some x ∧ (x.add i).block < w.heap.size ∧ w.cell? (x.add i) = some (.int .i64 n) ∧ -9223372036854775808 ≤ n ∧ n ≤ 9223372036854775807 := by
  rcases h with ⟨_, h0, _⟩ | ⟨x, rfl, h1, h2, h3, h4, h5⟩
  · omega
  · have hc := h4 i (by omega)
    refine ⟨x, _, rfl, World.block_lt_of_cell? _ _ hc, hc, ?_⟩
    have hw := h5 (zs.getD i 0) (by
      rw [List.getD_eq_getElem?_getD, List.getElem?_eq_getElem (by omega)]
      exact List.getElem_mem _)
    exact bounds_i64 hw

theorem IsRow.len {w : World} {a : Option Addr} {len cap : Nat} {zs : List Int} (h : IsRow w a len cap zs) : len ≤ 9223372036854775807 := by
  rcases h with ⟨_, h0, _⟩ | ⟨x, rfl, h1, h2, _⟩
  · omega
  · unfold maxLen at h2
    omega

/-- One number of a slice that came in, in a later world. -/
theorem IsRow.later {w wr : World} {a : Option Addr} {len cap : Nat} {zs : List Int} (h : IsRow w a len cap zs) (hb : Below w.heap.size w wr) {i : Nat} (hi : i < len) :
    ∃ x n, a = some x ∧ wr.cell? (x.add i) = some (.int .i64 n) ∧ -9223372036854775808 ≤ n ∧ n ≤ 9223372036854775807 := by
  obtain ⟨x, n, h1, h2, h3, h4⟩ := h.at_ hi
  exact ⟨x, n, h1, (hb.cell h2).trans h3, h4⟩

section
variable {w w' : World} {base e size n : Nat} {v : Value} {xs : List Value}
theorem own_keep (h : w.ownsRow base e size v n xs) (hb : ∀ g, v.ownBlock = some g → w'.heap[g]? = w.heap[g]?) : w'.ownsRow base e size v n xs := by
  refine ⟨h.1, ?_⟩
  rcases h.2 with h2 | ⟨g, cap, cur, hv, h3, h4, h5⟩
  · exact .inl h2
  · exact .inr ⟨g, cap, cur, hv, h3, (hb g (by rw [hv]; rfl)).trans h4, h5⟩
theorem own_chg {F : Nat → Prop} (h : w.ownsRow base e size v n xs) (c : Chg F w w') (hf : ∀ g, v.ownBlock = some g → ¬ F g) : w'.ownsRow base e size v n xs :=
  own_keep h (fun g hg => c.block g (h.lt g hg).2 (hf g hg))
theorem own_alloc (h : w.ownsRow base e size v n xs) (o : Obj) : (w.alloc o).ownsRow base e size v n xs := h.alloc o
theorem own_drewN (h : w.ownsRow base e size v n xs) (q : Nat) : (w.drewN q).ownsRow base e size v n xs := h
theorem own_form (h : w.ownsRow base e size v n xs) : ∃ A cap, v = .slice A n cap := by
  rcases h.2 with ⟨rfl, rfl⟩ | ⟨g, cap, cur, rfl, _⟩
  · exact ⟨_, _, rfl⟩
  · exact ⟨_, _, rfl⟩
theorem own_at {A : Option Addr} {cap : Nat} (h : w.ownsRow base e 1 (.slice A n cap) n xs) {j : Nat} (hj : j < n) : ∃ g, A = some ⟨g, 0, none⟩ ∧ w.cell? ⟨g, j, none⟩ = xs[j]? := by
  obtain ⟨g, cap', hv, _, _⟩ := h.form (by omega)
  injection hv with h1 h2 h3
  subst h1
  subst h3
  exact ⟨g, rfl, h.cellAt j (by omega)⟩
theorem own_ne {e' : Nat} {v' : Value} {n' size' : Nat} {xs' : List Value} {base' : Nat} (h : w.ownsRow base e size v n xs) (h' : w.ownsRow base' e' size' v' n' xs') (hne : e ≠ e') : ∀ g, v.ownBlock = some g → v'.ownBlock ≠ some g := by
  intro g hg hg'
  rcases h.2 with ⟨rfl, _⟩ | ⟨g1, cap, cur, rfl, _, h1, _⟩
  · cases hg
  · rcases h'.2 with ⟨rfl, _⟩ | ⟨g2, cap2, cur2, rfl, _, h2, _⟩
    · cases hg'
    · have e1 : g1 = g := by simpa [Value.ownBlock] using hg
      have e2 : g2 = g := by simpa [Value.ownBlock] using hg'
      subst e1
      subst e2
      rw [h1] at h2
      injection h2 with h2
      injection h2 with _ h2
      exact hne h2
end

/-- Texts that are the same, and that are not, as the walk asks it. -/
theorem text_eq {a b : ByteArray} (h : a = b) : (a.toList == b.toList) = true := by rw [h]; simp
theorem text_ne {a b : ByteArray} (h : a ≠ b) : (a.toList == b.toList) = false := by
  rw [beq_eq_false_iff_ne]
  intro e
  apply h
  rw [ByteArray.toList_eq, ByteArray.toList_eq] at e
  obtain ⟨x⟩ := a
  obtain ⟨y⟩ := b
  have e1 : x.toList = y.toList := e
  rw [Array.toList_inj.1 e1]

/-- One more at the end of a row of the call's own, at the operation. -/
theorem wpList_push (w : World) {ops : Array Oper} {rest : List Oper} {o : Oper} {a : Act} {Q : Exit → Act → World → Prop} (hgd : o.guard = none) (s x : Operand) (t e : TypeId)
    (ho : o.op = .call { callee := .builtin .append, args := #[s, x], argTypes := #[t, t] }) (ht : Try.prog.underlying t = some (.slice e)) (z : Value) (bytes : Nat)
    (hinf : (Try.prog.info? e).map (fun i => (i.zero, i.size, i.bytes)) = some (some z, 1, bytes)) (hzs : z.cells.size = 1) (hby : bytes ≤ 64) (base : Nat)
    (v : Value) (n : Nat) (xs : List Value) (hs : a.eval s = v) (hown : w.ownsRow base e 1 v n xs) (hn : n ≤ 1000000) (ad : Addr) (c : Nat) (u : Value) (hx : a.eval x = .slice (some ad) 1 c)
    (h0 : w.cell? (ad.add 0) = some u) (h1 : u.oneCell' = true) (hbase : base ≤ w.heap.size)
    (hK : ∀ v' w', w'.ownsRow base e 1 v' (n + 1) (xs ++ [u]) → Chg (fun i => v.ownBlock = some i) w w' → (∀ g, v'.ownBlock = some g → v.ownBlock = some g ∨ w.heap.size ≤ g) → wpList Try.prog ops Q rest (a.put o.dst v') w') :
    wpList Try.prog ops Q (o :: rest) a w := by
  refine wpList_plain hgd fun K hK' => ?_
  obtain ⟨i0, hi, hz0, hz1, hz2⟩ := info_parts hinf
  have hb : (n + 1) * bytes ≤ 140737488355328 := Nat.le_trans (Nat.mul_le_mul (show n + 1 ≤ 1000001 by omega) hby) (by omega)
  obtain ⟨v', w', hrun, r1, r2, _, r4⟩ := run_append_own_at (P := Try.prog) w base t o.type e i0 z 1 bytes ht hi hz0 hz1 hz2 hzs (by omega) v n xs hown ad 1 c [u] rfl
    (fun j u' hu => by
      match j, hu with
      | 0, hu => rw [h0]; simpa using hu
      | j + 1, hu => simp at hu)
    (fun u' hu => by rcases List.mem_cons.1 hu with rfl | hu; exact h1; cases hu) (by unfold maxLen; omega) hb hbase
  unfold Oper.wp
  simp [execOp, ho, resolve, invoke, builtin, hs, hx, hrun, Result.andThen]
  exact hK' _ _ (hK v' w' r1 ⟨r2.os, r2.tape, r2.output, r2.size, fun k hk hne => r2.block k hk (fun e => hne e.symm)⟩ (fun g hg => by
    rcases r4 with h | h
    · exact .inl (h ▸ hg)
    · rw [h] at hg
      injection hg with hg
      exact .inr (by omega)))

end Go.Proofs.Ythbpimkbdkjcnaa
