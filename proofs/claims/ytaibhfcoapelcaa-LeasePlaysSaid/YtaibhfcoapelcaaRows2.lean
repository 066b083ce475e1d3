/- Rows of the call's own whose elements have several cells: what they hold, one more at their end, a new last one; a slice of integers that came in. -/
import Derived.Test.YtaibhfcoapelcaaClient
import Derived.Maps.AppendAt
import Derived.Deep.AppendLies
namespace Go.Proofs.Ytaibhfcoapelcaa
open Go.RowKit

/-- A slice of integers that came in. -/
def IsRow (w : World) (a : Option Addr) (len cap : Nat) (zs : List Int) : Prop :=
  (a = none ∧ len = 0 ∧ cap = 0 ∧ zs = []) ∨
  ∃ x, a = some x ∧ len ≤ cap ∧ cap ≤ maxLen ∧ zs.length = cap ∧ (∀ i, i < zs.length → w.cell? (x.add i) = some (.int .i64 (zs.getD i 0))) ∧ ∀ n ∈ zs, (Lit.int .i64 n).wf = true

theorem IsRow.at_ {w : World} {a : Option Addr} {len cap : Nat} {zs : List Int} (h : IsRow w a len cap zs) {i : Nat} (hi : i < len) :
    ∃ x n, a = some x ∧ (x.add i).block < w.heap.size ∧ w.cell? (x.add i) = some (.int .i64 n) ∧ -9223372036854775808 ≤ n ∧ n ≤ 9223372036854775807 := by
  rcases h with ⟨_, h0, _⟩ | ⟨x, rfl, h1, h2, h3, h4, h5⟩
  · omega
  · have hc := h4 i (by omega)
    refine ⟨x, _, rfl, World.block_lt_of_cell? _ _ hc, hc, ?_⟩
    have hw := h5 (zs.getD i 0) (by
      rw [List.getD_eq_getElem?_getD, List.getElem?_eq_getElem (by omega)]
      exact List.getElem_mem _)
    exact bounds_i64 hw
theorem IsRow.len {w : World} {a : Option Addr} {len cap : Nat} {zs : List Int} (h : IsRow w a len cap zs) : len ≤ 9223372036854775807 := by
  rcases h with ⟨_, h0, _⟩ | ⟨x, rfl, h1, h2, _⟩
  · omega
  · unfold maxLen at h2
    omega
/-- One number of a slice that came in, in a later world. -/
theorem IsRow.later {w wr : World} {a : Option Addr} {len cap : Nat} {zs : List Int} (h : IsRow w a len cap zs) (hb : Below w.heap.size w wr) {i : Nat} (hi : i < len) :
    ∃ x n, a = some x ∧ wr.cell? (x.add i) = some (.int .i64 n) ∧ -9223372036854775808 ≤ n ∧ n ≤ 9223372036854775807 := by
  obtain ⟨x, n, h1, h2, h3, h4⟩ := h.at_ hi
  exact ⟨x, n, h1, (hb.cell h2).trans h3, h4⟩
theorem IsRow.keep {w wr : World} {a : Option Addr} {len cap : Nat} {zs : List Int} (h : IsRow w a len cap zs) (hb : Below w.heap.size w wr) : IsRow wr a len cap zs := by
  rcases h with h0 | ⟨x, rfl, h1, h2, h3, h4, h5⟩
  · exact .inl h0
  · exact .inr ⟨x, rfl, h1, h2, h3, fun i hi => (hb.cell (World.block_lt_of_cell? _ _ (h4 i hi))).trans (h4 i hi), h5⟩

section
variable {w w' : World} {base e size n : Nat} {v : Value} {xs : List Value}
theorem own_keep (h : w.ownsRow base e size v n xs) (hb : ∀ g, v.ownBlock = some g → w'.heap[g]? = w.heap[g]?) : w'.ownsRow base e size v n xs := by
  refine ⟨h.1, ?_⟩
  rcases h.2 with h2 | ⟨g, cap, cur, hv, h3, h4, h5⟩
  · exact .inl h2
  · exact .inr ⟨g, cap, cur, hv, h3, (hb g (by rw [hv]; rfl)).trans h4, h5⟩
theorem own_chg {F : Nat → Prop} (h : w.ownsRow base e size v n xs) (c : Chg F w w') (hf : ∀ g, v.ownBlock = some g → ¬ F g) : w'.ownsRow base e size v n xs :=
  own_keep h (fun g hg => c.block g (h.lt g hg).2 (hf g hg))
theorem own_below (h : w.ownsRow base e size v n xs) (hb : Below w.heap.size w w') : w'.ownsRow base e size v n xs :=
  own_chg (F := fun _ => False) h (Chg.of_below hb) (fun _ _ h => h)
theorem own_form (h : w.ownsRow base e size v n xs) : ∃ A cap, v = .slice A n cap := by
  rcases h.2 with ⟨rfl, rfl⟩ | ⟨g, cap, cur, rfl, _⟩
  · exact ⟨_, _, rfl⟩
  · exact ⟨_, _, rfl⟩
theorem own_blk_ne {g : Nat} {t : TypeId} {cs : Array Value} (h : w.ownsRow base e size v n xs) (hg : Blk w g t cs) (hne : e ≠ t) : v.ownBlock ≠ some g := by
  rcases h.2 with ⟨rfl, _⟩ | ⟨g', cap, cur, rfl, _, hh, _⟩
  · simp [Value.ownBlock]
  · intro he
    have : g' = g := by simpa [Value.ownBlock] using he
    subst this
    exact Blk.ne_ (t := e) hh hg hne rfl
end

/-! ### elements of several cells -/
theorem flat_len {α : Type} (f : α → List Value) (size : Nat) (hf : ∀ x, (f x).length = size) : ∀ l : List α, (l.flatMap f).length = l.length * size
  | [] => by simp
  | x :: r => by rw [List.flatMap_cons, List.length_append, hf, flat_len f size hf r, List.length_cons, Nat.add_mul]; omega
theorem flat_get {α : Type} (f : α → List Value) (size : Nat) (hf : ∀ x, (f x).length = size) : ∀ (l : List α) (i j : Nat) (x : α), l[i]? = some x → j < size → (l.flatMap f)[i * size + j]? = (f x)[j]?
  | [], i, j, x, h, _ => by simp at h
  | y :: r, 0, j, x, h, hj => by
    simp at h
    subst h
    rw [List.flatMap_cons, Nat.zero_mul, Nat.zero_add, List.getElem?_append_left (by rw [hf]; exact hj)]
  | y :: r, i + 1, j, x, h, hj => by
    simp at h
    rw [List.flatMap_cons, List.getElem?_append_right (by rw [hf, Nat.add_mul]; omega), hf]
    rw [show (i + 1) * size + j - size = i * size + j from by rw [Nat.add_mul]; omega]
    exact flat_get f size hf r i j x h hj

/-- One more element at the end of a row of the call's own, at the operation. -/
theorem wpList_pushn (w : World) {ops : Array Oper} {rest : List Oper} {o : Oper} {a : Act} {Q : Exit → Act → World → Prop} (hgd : o.guard = none) (s x : Operand) (t e : TypeId)
    (ho : o.op = .call { callee := .builtin .append, args := #[s, x], argTypes := #[t, t] }) (ht : Try.prog.underlying t = some (.slice e)) (z : Value) (size bytes : Nat)
    (hinf : (Try.prog.info? e).map (fun i => (i.zero, i.size, i.bytes)) = some (some z, size, bytes)) (hzs : z.cells.size = size) (hsz : 0 < size) (hby : bytes ≤ 64) (base : Nat)
    (v : Value) (n : Nat) (xs : List Value) (hs : a.eval s = v) (hown : w.ownsRow base e size v n xs) (hn : n ≤ 1000000) (ad : Addr) (c : Nat) (news : List Value) (hnl : news.length = size) (hx : a.eval x = .slice (some ad) 1 c)
    (h0 : ∀ j u, news[j]? = some u → w.cell? (ad.add j) = some u) (h1 : ∀ u ∈ news, u.oneCell' = true) (hbase : base ≤ w.heap.size)
    (hK : ∀ v' w', w'.ownsRow base e size v' (n + 1) (xs ++ news) → Chg (fun i => v.ownBlock = some i) w w' → (∀ g, v'.ownBlock = some g → v.ownBlock = some g ∨ w.heap.size ≤ g) → wpList Try.prog ops Q rest (a.put o.dst v') w') :
    wpList Try.prog ops Q (o :: rest) a w := by
  refine wpList_plain hgd fun K hK' => ?_
  obtain ⟨i0, hi, hz0, hz1, hz2⟩ := info_parts hinf
  have hb : (n + 1) * bytes ≤ 140737488355328 := Nat.le_trans (Nat.mul_le_mul (show n + 1 ≤ 1000001 by omega) hby) (by omega)
  obtain ⟨v', w', hrun, r1, r2, _, r4⟩ := run_append_own_at (P := Try.prog) w base t o.type e i0 z size bytes ht hi hz0 hz1 hz2 hzs hsz v n xs hown ad 1 c news (by rw [hnl, Nat.one_mul]) h0 h1 (by unfold maxLen; omega) hb hbase
  unfold Oper.wp
  simp [execOp, ho, resolve, invoke, builtin, hs, hx, hrun, Result.andThen]
  exact hK' _ _ (hK v' w' r1 ⟨r2.os, r2.tape, r2.output, r2.size, fun k hk hne => r2.block k hk (fun e => hne e.symm)⟩ (fun g hg => by
    rcases r4 with h | h
    · exact .inl (h ▸ hg)
    · rw [h] at hg
      injection hg with hg
      exact .inr (by omega)))

/-- The cells of a block just made. -/
theorem new_cells (w : World) (t : TypeId) (l : List Value) : ∀ j u, l[j]? = some u → (w.alloc (.cells l.toArray t)).cell? ((⟨w.heap.size, 0, none⟩ : Addr).add j) = some u := by
  intro j u hu
  have e : (⟨w.heap.size, 0, none⟩ : Addr).add j = ⟨w.heap.size, j, none⟩ := by unfold Addr.add; split <;> simp_all
  rw [e, (Blk.new w t l.toArray).cell]
  simpa using hu

/-! ### acts -/
structure Ac where
  do_ : Int
  at_ : Int
  by_ : Int
def acCells (a : Ac) : List Value := [.int .i64 a.do_, .int .i64 a.at_, .int .i64 a.by_]
theorem acCells_len (a : Ac) : (acCells a).length = 3 := rfl

/-- Acts whose ticks do not go back. -/
structure GoodActs (l : List Ac) : Prop where
  few : l.length ≤ 60
  do_ : ∀ a ∈ l, a.do_ = 0 ∨ a.do_ = 2
  at0 : ∀ a ∈ l, 0 ≤ a.at_
  at1 : ∀ a ∈ l, a.at_ ≤ 1000
  by0 : ∀ a ∈ l, 0 ≤ a.by_
  by1 : ∀ a ∈ l, a.by_ ≤ 2
  up : l.Pairwise (fun a b => a.at_ ≤ b.at_)

def ActsIs (w : World) (e : Ending) (w' : World) : Prop :=
  ∃ v l, e = .returned v ∧ GoodActs l ∧ w'.ownsRow w.heap.size 45 3 v l.length (l.flatMap acCells) ∧ Below w.heap.size w w'

def ActsRel (w : World) (v t i : Value) (wr : World) : Prop :=
  ∃ (j : Nat) (tt : Int) (l : List Ac), j ≤ 60 ∧ l.length = j ∧ i = .int .i64 j ∧ t = .int .i64 tt ∧ 0 ≤ tt ∧ tt ≤ 3 * (j : Int) ∧ GoodActs l ∧ (∀ a ∈ l, a.at_ ≤ tt) ∧ wr.ownsRow w.heap.size 45 3 v l.length (l.flatMap acCells) ∧ Below w.heap.size w wr

theorem GoodActs.nil : GoodActs [] := ⟨by simp, by simp, by simp, by simp, by simp, by simp, by simp⟩
theorem GoodActs.more {l : List Ac} (h : GoodActs l) (a : Ac) (hf : l.length < 60) (h1 : a.do_ = 0 ∨ a.do_ = 2) (h2 : 0 ≤ a.at_) (h3 : a.at_ ≤ 1000) (h4 : 0 ≤ a.by_) (h5 : a.by_ ≤ 2) (h6 : ∀ b ∈ l, b.at_ ≤ a.at_) : GoodActs (l ++ [a]) := by
  refine ⟨by simp; omega, ?_, ?_, ?_, ?_, ?_, ?_⟩
  · intro b hb
    rcases List.mem_append.1 hb with hh | h'
    · exact h.do_ b hh
    · simp only [List.mem_singleton] at h'; subst h'; exact h1
  · intro b hb
    rcases List.mem_append.1 hb with hh | h'
    · exact h.at0 b hh
    · simp only [List.mem_singleton] at h'; subst h'; exact h2
  · intro b hb
    rcases List.mem_append.1 hb with hh | h'
    · exact h.at1 b hh
    · simp only [List.mem_singleton] at h'; subst h'; exact h3
  · intro b hb
    rcases List.mem_append.1 hb with hh | h'
    · exact h.by0 b hh
    · simp only [List.mem_singleton] at h'; subst h'; exact h4
  · intro b hb
    rcases List.mem_append.1 hb with hh | h'
    · exact h.by1 b hh
    · simp only [List.mem_singleton] at h'; subst h'; exact h5
  · rw [List.pairwise_append]
    refine ⟨h.up, by simp, ?_⟩
    intro b hb c hc
    simp only [List.mem_singleton] at hc
    subst hc
    exact h6 b hb

/-- Two new blocks of the same cells: what the second one holds. -/
theorem new_cells2 (w : World) (o : Obj) (t : TypeId) (l : List Value) : ∀ j u, l[j]? = some u → ((w.alloc o).alloc (.cells l.toArray t)).cell? ((⟨w.heap.size + 1, 0, none⟩ : Addr).add j) = some u := by
  have h := new_cells (w.alloc o) t l
  rwa [World.size_alloc] at h
theorem acCells_one (a : Ac) : ∀ u ∈ acCells a, u.oneCell' = true := by
  intro u hu
  unfold acCells at hu
  simp only [List.mem_cons, List.not_mem_nil, or_false] at hu
  rcases hu with rfl | rfl | rfl <;> rfl

theorem info45 : (Try.prog.info? 45).map (fun i => (i.zero, i.size, i.bytes)) = some (some (.agg #[.int .i64 0, .int .i64 0, .int .i64 0]), 3, 24) := by kernel_rfl

set_option maxHeartbeats 800000 in
theorem acts_any (a : Option Addr) (len cap : Nat) (zs : List Int) (w : World) (hr : IsRow w a len cap zs) : Calls Try.prog 21 #[.slice a len cap] w (ActsIs w) := by
  have HR := Lib.hid hr
  have hlen := hr.len
  clear hr
  go_enter Try.func21, Try.ntmps21
  go_wp2_with fail
  go_loopw [3, 4, 5] (fun v t i wr => ActsRel w v t i wr) (fun _ _ i _ => 60 - (intOf i).toNat)
  case atStart => exact ⟨0, 0, [], by omega, rfl, rfl, rfl, by omega, by omega, GoodActs.nil, by simp, World.ownsRow_nil _ _ _ _, Below.refl _ _⟩
  case round =>
    obtain ⟨j, tt, l, hj, hl, rfl, rfl, ht0, ht1, good, hat, own, bel⟩ := hrel
    have HL := Lib.hid hl
    have GOOD := Lib.hid good
    have HAT := Lib.hid hat
    have OWN := Lib.hid own
    have BEL := Lib.hid bel
    clear hl good hat own bel
    by_cases hlt : j < len ∧ j < 60
    · obtain ⟨hlt1, hlt2⟩ := hlt
      obtain ⟨x, z, rfl, hc, hz1, hz2⟩ := HR.out.later BEL.out hlt1
      go_wp2_with fail
      refine (around_some z _ _ hz1 hz2 (by omega) (by omega)).mono ?_
      rintro e w' ⟨n, hn1, hn2, rfl, rfl⟩
      clear hc hz1 hz2
      by_cases h5 : n % 5 = 0
      · have h5b : (n % 5 == 0) = true := by simp [h5]
        clear h5
        by_cases h6 : n / 60 % 25 = 24
        · have h6b : (n / 60 % 25 == 24) = true := by simp [h6]
          clear h6
          have NC : Hid (∀ j u, (acCells ⟨2, tt + n / 5 % 4, n / 20 % 3⟩)[j]? = some u → ((wr.alloc (.cells #[.int .i64 (2), .int .i64 (tt + n / 5 % 4), .int .i64 (n / 20 % 3)] 45)).alloc (.cells #[.int .i64 (2), .int .i64 (tt + n / 5 % 4), .int .i64 (n / 20 % 3)] 45)).cell? ((⟨wr.heap.size + 1, 0, none⟩ : Addr).add j) = some u) := new_cells2 wr _ 45 (acCells ⟨2, tt + n / 5 % 4, n / 20 % 3⟩)
          have BB := Lib.hid (below_alloc (below_alloc BEL.out (.cells #[.int .i64 (2), .int .i64 (tt + n / 5 % 4), .int .i64 (n / 20 % 3)] 45)) (.cells #[.int .i64 (2), .int .i64 (tt + n / 5 % 4), .int .i64 (n / 20 % 3)] 45))
          have OW2 := Lib.hid (((OWN.out).alloc (.cells #[.int .i64 (2), .int .i64 (tt + n / 5 % 4), .int .i64 (n / 20 % 3)] 45)).alloc (.cells #[.int .i64 (2), .int .i64 (tt + n / 5 % 4), .int .i64 (n / 20 % 3)] 45))
          go_wp2_with (at_builtin; refine wpList_pushn _ rfl (.tmp 41) (.tmp 43) 42 45 rfl Try.underlying42 _ 3 24 info45 rfl (by omega) (by omega) w.heap.size u3 l.length (l.flatMap acCells) rfl OW2.out (by have := HL.out; omega) ⟨wr.heap.size + 1, 0, none⟩ 1 (acCells ⟨2, tt + n / 5 % 4, n / 20 % 3⟩) rfl rfl NC.out (acCells_one _) BB.out.size ?_; intro v2 w2 r2 c2 n2; have R2 := Lib.hid r2; have C2 := Lib.hid c2; clear r2 c2 n2)
          have hat := HAT.out
          have e1 : (l ++ [(⟨2, tt + n / 5 % 4, n / 20 % 3⟩ : Ac)]).length = l.length + 1 := by simp
          have e2 : (l ++ [(⟨2, tt + n / 5 % 4, n / 20 % 3⟩ : Ac)]).flatMap acCells = l.flatMap acCells ++ acCells ⟨2, tt + n / 5 % 4, n / 20 % 3⟩ := by rw [List.flatMap_append]; simp
          refine ⟨⟨j + 1, tt + n / 5 % 4, l ++ [⟨2, tt + n / 5 % 4, n / 20 % 3⟩], by omega, by have := HL.out; simp; omega, by go_num, rfl, by omega, by omega, GOOD.out.more _ (by have := HL.out; omega) (by simp) (by simp; omega) (by simp; omega) (by simp; omega) (by simp; omega) (fun b hb => by have := hat b hb; simp; omega), ?_, by rw [e1, e2]; exact R2.out, ?_⟩, by simp [intOf]; omega⟩
          · intro b hb
            rcases List.mem_append.1 hb with h5 | h5
            · have := hat b h5; omega
            · simp only [List.mem_singleton] at h5; subst h5; simp
          · exact BB.out.trans (C2.out.below (B := w.heap.size) (fun g hg => (OWN.out.lt g hg).1) BB.out.size)
        · have h6b : (n / 60 % 25 == 24) = false := by simpa using h6
          clear h6
          have NC : Hid (∀ j u, (acCells ⟨0, tt + n / 5 % 4, n / 20 % 3⟩)[j]? = some u → ((wr.alloc (.cells #[.int .i64 (0), .int .i64 (tt + n / 5 % 4), .int .i64 (n / 20 % 3)] 45)).alloc (.cells #[.int .i64 (0), .int .i64 (tt + n / 5 % 4), .int .i64 (n / 20 % 3)] 45)).cell? ((⟨wr.heap.size + 1, 0, none⟩ : Addr).add j) = some u) := new_cells2 wr _ 45 (acCells ⟨0, tt + n / 5 % 4, n / 20 % 3⟩)
          have BB := Lib.hid (below_alloc (below_alloc BEL.out (.cells #[.int .i64 (0), .int .i64 (tt + n / 5 % 4), .int .i64 (n / 20 % 3)] 45)) (.cells #[.int .i64 (0), .int .i64 (tt + n / 5 % 4), .int .i64 (n / 20 % 3)] 45))
          have OW2 := Lib.hid (((OWN.out).alloc (.cells #[.int .i64 (0), .int .i64 (tt + n / 5 % 4), .int .i64 (n / 20 % 3)] 45)).alloc (.cells #[.int .i64 (0), .int .i64 (tt + n / 5 % 4), .int .i64 (n / 20 % 3)] 45))
          go_wp2_with (at_builtin; refine wpList_pushn _ rfl (.tmp 41) (.tmp 43) 42 45 rfl Try.underlying42 _ 3 24 info45 rfl (by omega) (by omega) w.heap.size u3 l.length (l.flatMap acCells) rfl OW2.out (by have := HL.out; omega) ⟨wr.heap.size + 1, 0, none⟩ 1 (acCells ⟨0, tt + n / 5 % 4, n / 20 % 3⟩) rfl rfl NC.out (acCells_one _) BB.out.size ?_; intro v2 w2 r2 c2 n2; have R2 := Lib.hid r2; have C2 := Lib.hid c2; clear r2 c2 n2)
          have hat := HAT.out
          have e1 : (l ++ [(⟨0, tt + n / 5 % 4, n / 20 % 3⟩ : Ac)]).length = l.length + 1 := by simp
          have e2 : (l ++ [(⟨0, tt + n / 5 % 4, n / 20 % 3⟩ : Ac)]).flatMap acCells = l.flatMap acCells ++ acCells ⟨0, tt + n / 5 % 4, n / 20 % 3⟩ := by rw [List.flatMap_append]; simp
          refine ⟨⟨j + 1, tt + n / 5 % 4, l ++ [⟨0, tt + n / 5 % 4, n / 20 % 3⟩], by omega, by have := HL.out; simp; omega, by go_num, rfl, by omega, by omega, GOOD.out.more _ (by have := HL.out; omega) (by simp) (by simp; omega) (by simp; omega) (by simp; omega) (by simp; omega) (fun b hb => by have := hat b hb; simp; omega), ?_, by rw [e1, e2]; exact R2.out, ?_⟩, by simp [intOf]; omega⟩
          · intro b hb
            rcases List.mem_append.1 hb with h5 | h5
            · have := hat b h5; omega
            · simp only [List.mem_singleton] at h5; subst h5; simp
          · exact BB.out.trans (C2.out.below (B := w.heap.size) (fun g hg => (OWN.out.lt g hg).1) BB.out.size)
      · have h5b : (n % 5 == 0) = false := by simpa using h5
        clear h5
        by_cases h6 : n / 60 % 25 = 24
        · have h6b : (n / 60 % 25 == 24) = true := by simp [h6]
          clear h6
          have NC : Hid (∀ j u, (acCells ⟨2, tt, n / 20 % 3⟩)[j]? = some u → ((wr.alloc (.cells #[.int .i64 (2), .int .i64 (tt), .int .i64 (n / 20 % 3)] 45)).alloc (.cells #[.int .i64 (2), .int .i64 (tt), .int .i64 (n / 20 % 3)] 45)).cell? ((⟨wr.heap.size + 1, 0, none⟩ : Addr).add j) = some u) := new_cells2 wr _ 45 (acCells ⟨2, tt, n / 20 % 3⟩)
          have BB := Lib.hid (below_alloc (below_alloc BEL.out (.cells #[.int .i64 (2), .int .i64 (tt), .int .i64 (n / 20 % 3)] 45)) (.cells #[.int .i64 (2), .int .i64 (tt), .int .i64 (n / 20 % 3)] 45))
          have OW2 := Lib.hid (((OWN.out).alloc (.cells #[.int .i64 (2), .int .i64 (tt), .int .i64 (n / 20 % 3)] 45)).alloc (.cells #[.int .i64 (2), .int .i64 (tt), .int .i64 (n / 20 % 3)] 45))
          go_wp2_with (at_builtin; refine wpList_pushn _ rfl (.tmp 41) (.tmp 43) 42 45 rfl Try.underlying42 _ 3 24 info45 rfl (by omega) (by omega) w.heap.size u3 l.length (l.flatMap acCells) rfl OW2.out (by have := HL.out; omega) ⟨wr.heap.size + 1, 0, none⟩ 1 (acCells ⟨2, tt, n / 20 % 3⟩) rfl rfl NC.out (acCells_one _) BB.out.size ?_; intro v2 w2 r2 c2 n2; have R2 := Lib.hid r2; have C2 := Lib.hid c2; clear r2 c2 n2)
          have hat := HAT.out
          have e1 : (l ++ [(⟨2, tt, n / 20 % 3⟩ : Ac)]).length = l.length + 1 := by simp
          have e2 : (l ++ [(⟨2, tt, n / 20 % 3⟩ : Ac)]).flatMap acCells = l.flatMap acCells ++ acCells ⟨2, tt, n / 20 % 3⟩ := by rw [List.flatMap_append]; simp
          refine ⟨⟨j + 1, tt, l ++ [⟨2, tt, n / 20 % 3⟩], by omega, by have := HL.out; simp; omega, by go_num, rfl, by omega, by omega, GOOD.out.more _ (by have := HL.out; omega) (by simp) (by simp; omega) (by simp; omega) (by simp; omega) (by simp; omega) (fun b hb => by have := hat b hb; simp; omega), ?_, by rw [e1, e2]; exact R2.out, ?_⟩, by simp [intOf]; omega⟩
          · intro b hb
            rcases List.mem_append.1 hb with h5 | h5
            · have := hat b h5; omega
            · simp only [List.mem_singleton] at h5; subst h5; simp
          · exact BB.out.trans (C2.out.below (B := w.heap.size) (fun g hg => (OWN.out.lt g hg).1) BB.out.size)
        · have h6b : (n / 60 % 25 == 24) = false := by simpa using h6
          clear h6
          have NC : Hid (∀ j u, (acCells ⟨0, tt, n / 20 % 3⟩)[j]? = some u → ((wr.alloc (.cells #[.int .i64 (0), .int .i64 (tt), .int .i64 (n / 20 % 3)] 45)).alloc (.cells #[.int .i64 (0), .int .i64 (tt), .int .i64 (n / 20 % 3)] 45)).cell? ((⟨wr.heap.size + 1, 0, none⟩ : Addr).add j) = some u) := new_cells2 wr _ 45 (acCells ⟨0, tt, n / 20 % 3⟩)
          have BB := Lib.hid (below_alloc (below_alloc BEL.out (.cells #[.int .i64 (0), .int .i64 (tt), .int .i64 (n / 20 % 3)] 45)) (.cells #[.int .i64 (0), .int .i64 (tt), .int .i64 (n / 20 % 3)] 45))
          have OW2 := Lib.hid (((OWN.out).alloc (.cells #[.int .i64 (0), .int .i64 (tt), .int .i64 (n / 20 % 3)] 45)).alloc (.cells #[.int .i64 (0), .int .i64 (tt), .int .i64 (n / 20 % 3)] 45))
          go_wp2_with (at_builtin; refine wpList_pushn _ rfl (.tmp 41) (.tmp 43) 42 45 rfl Try.underlying42 _ 3 24 info45 rfl (by omega) (by omega) w.heap.size u3 l.length (l.flatMap acCells) rfl OW2.out (by have := HL.out; omega) ⟨wr.heap.size + 1, 0, none⟩ 1 (acCells ⟨0, tt, n / 20 % 3⟩) rfl rfl NC.out (acCells_one _) BB.out.size ?_; intro v2 w2 r2 c2 n2; have R2 := Lib.hid r2; have C2 := Lib.hid c2; clear r2 c2 n2)
          have hat := HAT.out
          have e1 : (l ++ [(⟨0, tt, n / 20 % 3⟩ : Ac)]).length = l.length + 1 := by simp
          have e2 : (l ++ [(⟨0, tt, n / 20 % 3⟩ : Ac)]).flatMap acCells = l.flatMap acCells ++ acCells ⟨0, tt, n / 20 % 3⟩ := by rw [List.flatMap_append]; simp
          refine ⟨⟨j + 1, tt, l ++ [⟨0, tt, n / 20 % 3⟩], by omega, by have := HL.out; simp; omega, by go_num, rfl, by omega, by omega, GOOD.out.more _ (by have := HL.out; omega) (by simp) (by simp; omega) (by simp; omega) (by simp; omega) (by simp; omega) (fun b hb => by have := hat b hb; simp; omega), ?_, by rw [e1, e2]; exact R2.out, ?_⟩, by simp [intOf]; omega⟩
          · intro b hb
            rcases List.mem_append.1 hb with h5 | h5
            · have := hat b h5; omega
            · simp only [List.mem_singleton] at h5; subst h5; simp
          · exact BB.out.trans (C2.out.below (B := w.heap.size) (fun g hg => (OWN.out.lt g hg).1) BB.out.size)
    · by_cases hlt1 : j < len
      · have hlt2 : ¬ j < 60 := by omega
        clear hlt
        go_wp2_with fail
        go_ret
        exact ⟨_, l, rfl, GOOD.out, OWN.out, BEL.out⟩
      · clear hlt
        go_wp2_with fail
        go_ret
        exact ⟨_, l, rfl, GOOD.out, OWN.out, BEL.out⟩

end Go.Proofs.Ytaibhfcoapelcaa
