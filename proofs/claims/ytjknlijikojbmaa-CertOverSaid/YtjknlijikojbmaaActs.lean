/- Acts of an authority, made of numbers; and what is played by them. -/
import Derived.Test.YtjknlijikojbmaaRotate
namespace Go.Proofs.Ytjknlijikojbmaa
open Go.RowKit

structure Ac where
  do_ : Int
  at_ : Int
  n_ : Int
  life : Int
def acCells (a : Ac) : List Value := [.int .i64 a.do_, .int .i64 a.at_, .int .i64 a.n_, .int .i64 a.life]
theorem acCells_len (a : Ac) : (acCells a).length = 4 := rfl
theorem acCells_one (a : Ac) : ∀ u ∈ acCells a, u.oneCell' = true := by
  intro u hu
  unfold acCells at hu
  simp only [List.mem_cons, List.not_mem_nil, or_false] at hu
  rcases hu with rfl | rfl | rfl | rfl <;> rfl

/-- Acts whose ticks do not go back. -/
structure GoodActs (l : List Ac) : Prop where
  few : l.length ≤ 16
  do_ : ∀ a ∈ l, a.do_ = 0 ∨ a.do_ = 1 ∨ a.do_ = 2
  at0 : ∀ a ∈ l, 0 ≤ a.at_
  at1 : ∀ a ∈ l, a.at_ ≤ 1000
  n0 : ∀ a ∈ l, 0 ≤ a.n_
  n1 : ∀ a ∈ l, a.n_ ≤ 100
  l0 : ∀ a ∈ l, 0 ≤ a.life
  l1 : ∀ a ∈ l, a.life ≤ 100
  up : l.Pairwise (fun a b => a.at_ ≤ b.at_)
theorem GoodActs.nil : GoodActs [] := ⟨by simp, by simp, by simp, by simp, by simp, by simp, by simp, by simp, by simp⟩
theorem all_more {P : Ac → Prop} {l : List Ac} {a : Ac} (h : ∀ b ∈ l, P b) (ha : P a) : ∀ b ∈ l ++ [a], P b := by
  intro b hb
  rcases List.mem_append.1 hb with h1 | h1
  · exact h b h1
  · simp only [List.mem_singleton] at h1
    subst h1
    exact ha
theorem GoodActs.more {l : List Ac} (h : GoodActs l) (a : Ac) (hf : l.length < 16) (h1 : a.do_ = 0 ∨ a.do_ = 1 ∨ a.do_ = 2) (h2 : 0 ≤ a.at_) (h3 : a.at_ ≤ 1000) (h4 : 0 ≤ a.n_) (h5 : a.n_ ≤ 100) (h6 : 0 ≤ a.life) (h7 : a.life ≤ 100) (h8 : ∀ b ∈ l, b.at_ ≤ a.at_) : GoodActs (l ++ [a]) := by
  refine ⟨by simp; omega, all_more h.do_ h1, all_more h.at0 h2, all_more h.at1 h3, all_more h.n0 h4, all_more h.n1 h5, all_more h.l0 h6, all_more h.l1 h7, ?_⟩
  rw [List.pairwise_append]
  refine ⟨h.up, by simp, ?_⟩
  intro b hb c hc
  simp only [List.mem_singleton] at hc
  subst hc
  exact h8 b hb

def ActsIs (w : World) (e : Ending) (w' : World) : Prop :=
  ∃ v l, e = .returned v ∧ GoodActs l ∧ w'.ownsRow w.heap.size 42 4 v l.length (l.flatMap acCells) ∧ Below w.heap.size w w'

def ActsRel (w : World) (v t i : Value) (wr : World) : Prop :=
  ∃ (j : Nat) (tt : Int) (l : List Ac), j ≤ 16 ∧ l.length = j ∧ i = .int .i64 j ∧ t = .int .i64 tt ∧ 0 ≤ tt ∧ tt ≤ 11 * (j : Int) ∧ GoodActs l ∧ (∀ a ∈ l, a.at_ ≤ tt) ∧ wr.ownsRow w.heap.size 42 4 v l.length (l.flatMap acCells) ∧ Below w.heap.size w wr

theorem info42 : (Try.prog.info? 42).map (fun i => (i.zero, i.size, i.bytes)) = some (some (.agg #[.int .i64 0, .int .i64 0, .int .i64 0, .int .i64 0]), 4, 32) := by kernel_rfl

set_option maxHeartbeats 4000000 in
theorem acts_any (a : Option Addr) (len cap : Nat) (zs : List Int) (w : World) (hr : IsRow w a len cap zs) : Calls Try.prog 8 #[.slice a len cap] w (ActsIs w) := by
  have HR := Lib.hid hr
  have hlen := hr.len
  clear hr
  go_enter Try.func8, Try.ntmps8
  go_wp2_with fail
  go_loopw [3, 4, 5] (fun v t i wr => ActsRel w v t i wr) (fun _ _ i _ => 16 - (intOf i).toNat)
  case atStart => exact ⟨0, 0, [], by omega, rfl, rfl, rfl, by omega, by omega, GoodActs.nil, by simp, World.ownsRow_nil _ _ _ _, Below.refl _ _⟩
  case round =>
    obtain ⟨j, tt, l, hj, hl, rfl, rfl, ht0, ht1, good, hat, own, bel⟩ := hrel
    have HL := Lib.hid hl
    have GOOD := Lib.hid good
    have HAT := Lib.hid hat
    have OWN := Lib.hid own
    have BEL := Lib.hid bel
    clear hl good hat own bel
    by_cases hlt : j < len ∧ j < 16
    · obtain ⟨hlt1, hlt2⟩ := hlt
      obtain ⟨x, z, rfl, hc, hz1, hz2⟩ := HR.out.later BEL.out hlt1
      go_wp2_with fail
      refine (around_some z _ _ hz1 hz2 (by omega) (by omega)).mono ?_
      rintro e w' ⟨n, hn1, hn2, rfl, rfl⟩
      clear hc hz1 hz2
      by_cases h3 : n / 2880 % 5 = 3
      · have h3b : (n / 2880 % 5 == 3) = true := by simp [h3]
        have h4b : (n / 2880 % 5 == 4) = false := by simp [h3]
        clear h3
        have NC : Hid (∀ j u, (acCells ⟨1, tt + n % 12, 1 + n / 12 % 4, n / 48 % 60⟩)[j]? = some u → ((wr.alloc (.cells #[.int .i64 (1), .int .i64 (tt + n % 12), .int .i64 (1 + n / 12 % 4), .int .i64 (n / 48 % 60)] 42)).alloc (.cells #[.int .i64 (1), .int .i64 (tt + n % 12), .int .i64 (1 + n / 12 % 4), .int .i64 (n / 48 % 60)] 42)).cell? ((⟨wr.heap.size + 1, 0, none⟩ : Addr).add j) = some u) := new_cells2 wr (.cells #[.int .i64 (1), .int .i64 (tt + n % 12), .int .i64 (1 + n / 12 % 4), .int .i64 (n / 48 % 60)] 42) 42 (acCells ⟨1, tt + n % 12, 1 + n / 12 % 4, n / 48 % 60⟩)
        have BB := Lib.hid (below_alloc (below_alloc BEL.out (.cells #[.int .i64 (1), .int .i64 (tt + n % 12), .int .i64 (1 + n / 12 % 4), .int .i64 (n / 48 % 60)] 42)) (.cells #[.int .i64 (1), .int .i64 (tt + n % 12), .int .i64 (1 + n / 12 % 4), .int .i64 (n / 48 % 60)] 42))
        have OW2 := Lib.hid (((OWN.out).alloc (.cells #[.int .i64 (1), .int .i64 (tt + n % 12), .int .i64 (1 + n / 12 % 4), .int .i64 (n / 48 % 60)] 42)).alloc (.cells #[.int .i64 (1), .int .i64 (tt + n % 12), .int .i64 (1 + n / 12 % 4), .int .i64 (n / 48 % 60)] 42))
        go_wp2_with (at_builtin; refine wpList_pushn _ rfl (.tmp 50) (.tmp 52) 29 42 rfl Try.underlying29 _ 4 32 info42 rfl (by omega) (by omega) w.heap.size u3 l.length (l.flatMap acCells) rfl OW2.out (by have := HL.out; omega) ⟨wr.heap.size + 1, 0, none⟩ 1 (acCells ⟨1, tt + n % 12, 1 + n / 12 % 4, n / 48 % 60⟩) rfl rfl NC.out (acCells_one _) BB.out.size ?_; intro v2 w2 own2 ch2 nn2; have O2 := Lib.hid own2; have C2 := Lib.hid ch2; clear own2 ch2 nn2)
        have hat := HAT.out
        have e1 : (l ++ [(⟨1, tt + n % 12, 1 + n / 12 % 4, n / 48 % 60⟩ : Ac)]).length = l.length + 1 := by simp
        have e2 : (l ++ [(⟨1, tt + n % 12, 1 + n / 12 % 4, n / 48 % 60⟩ : Ac)]).flatMap acCells = l.flatMap acCells ++ acCells ⟨1, tt + n % 12, 1 + n / 12 % 4, n / 48 % 60⟩ := by rw [List.flatMap_append]; simp
        refine ⟨⟨j + 1, tt + n % 12, l ++ [⟨1, tt + n % 12, 1 + n / 12 % 4, n / 48 % 60⟩], by omega, by have := HL.out; simp; omega, by go_num, rfl, by omega, by omega, GOOD.out.more _ (by have := HL.out; omega) (by simp) (by simp; omega) (by simp; omega) (by simp; omega) (by simp; omega) (by simp; omega) (by simp; omega) (by intro b hb; have := hat b hb; simp; omega), ?_, by rw [e1, e2]; exact O2.out, ?_⟩, by simp [intOf]; omega⟩
        · intro b hb
          rcases List.mem_append.1 hb with h5 | h5
          · have := hat b h5; omega
          · simp only [List.mem_singleton] at h5; subst h5; simp
        · exact BB.out.trans (C2.out.below (B := w.heap.size) (fun g hg => (OWN.out.lt g hg).1) BB.out.size)
      · have h3b : (n / 2880 % 5 == 3) = false := by simpa using h3
        by_cases h4 : n / 2880 % 5 = 4
        · have h4b : (n / 2880 % 5 == 4) = true := by simp [h4]
          clear h3 h4
          have NC : Hid (∀ j u, (acCells ⟨2, tt + n % 12, n / 48 % 12, n / 48 % 60⟩)[j]? = some u → ((wr.alloc (.cells #[.int .i64 (2), .int .i64 (tt + n % 12), .int .i64 (n / 48 % 12), .int .i64 (n / 48 % 60)] 42)).alloc (.cells #[.int .i64 (2), .int .i64 (tt + n % 12), .int .i64 (n / 48 % 12), .int .i64 (n / 48 % 60)] 42)).cell? ((⟨wr.heap.size + 1, 0, none⟩ : Addr).add j) = some u) := new_cells2 wr (.cells #[.int .i64 (2), .int .i64 (tt + n % 12), .int .i64 (n / 48 % 12), .int .i64 (n / 48 % 60)] 42) 42 (acCells ⟨2, tt + n % 12, n / 48 % 12, n / 48 % 60⟩)
          have BB := Lib.hid (below_alloc (below_alloc BEL.out (.cells #[.int .i64 (2), .int .i64 (tt + n % 12), .int .i64 (n / 48 % 12), .int .i64 (n / 48 % 60)] 42)) (.cells #[.int .i64 (2), .int .i64 (tt + n % 12), .int .i64 (n / 48 % 12), .int .i64 (n / 48 % 60)] 42))
          have OW2 := Lib.hid (((OWN.out).alloc (.cells #[.int .i64 (2), .int .i64 (tt + n % 12), .int .i64 (n / 48 % 12), .int .i64 (n / 48 % 60)] 42)).alloc (.cells #[.int .i64 (2), .int .i64 (tt + n % 12), .int .i64 (n / 48 % 12), .int .i64 (n / 48 % 60)] 42))
          go_wp2_with (at_builtin; refine wpList_pushn _ rfl (.tmp 50) (.tmp 52) 29 42 rfl Try.underlying29 _ 4 32 info42 rfl (by omega) (by omega) w.heap.size u3 l.length (l.flatMap acCells) rfl OW2.out (by have := HL.out; omega) ⟨wr.heap.size + 1, 0, none⟩ 1 (acCells ⟨2, tt + n % 12, n / 48 % 12, n / 48 % 60⟩) rfl rfl NC.out (acCells_one _) BB.out.size ?_; intro v2 w2 own2 ch2 nn2; have O2 := Lib.hid own2; have C2 := Lib.hid ch2; clear own2 ch2 nn2)
          have hat := HAT.out
          have e1 : (l ++ [(⟨2, tt + n % 12, n / 48 % 12, n / 48 % 60⟩ : Ac)]).length = l.length + 1 := by simp
          have e2 : (l ++ [(⟨2, tt + n % 12, n / 48 % 12, n / 48 % 60⟩ : Ac)]).flatMap acCells = l.flatMap acCells ++ acCells ⟨2, tt + n % 12, n / 48 % 12, n / 48 % 60⟩ := by rw [List.flatMap_append]; simp
          refine ⟨⟨j + 1, tt + n % 12, l ++ [⟨2, tt + n % 12, n / 48 % 12, n / 48 % 60⟩], by omega, by have := HL.out; simp; omega, by go_num, rfl, by omega, by omega, GOOD.out.more _ (by have := HL.out; omega) (by simp) (by simp; omega) (by simp; omega) (by simp; omega) (by simp; omega) (by simp; omega) (by simp; omega) (by intro b hb; have := hat b hb; simp; omega), ?_, by rw [e1, e2]; exact O2.out, ?_⟩, by simp [intOf]; omega⟩
          · intro b hb
            rcases List.mem_append.1 hb with h5 | h5
            · have := hat b h5; omega
            · simp only [List.mem_singleton] at h5; subst h5; simp
          · exact BB.out.trans (C2.out.below (B := w.heap.size) (fun g hg => (OWN.out.lt g hg).1) BB.out.size)
        · have h4b : (n / 2880 % 5 == 4) = false := by simpa using h4
          clear h3 h4
          have NC : Hid (∀ j u, (acCells ⟨0, tt + n % 12, 1 + n / 12 % 4, n / 48 % 60⟩)[j]? = some u → ((wr.alloc (.cells #[.int .i64 (0), .int .i64 (tt + n % 12), .int .i64 (1 + n / 12 % 4), .int .i64 (n / 48 % 60)] 42)).alloc (.cells #[.int .i64 (0), .int .i64 (tt + n % 12), .int .i64 (1 + n / 12 % 4), .int .i64 (n / 48 % 60)] 42)).cell? ((⟨wr.heap.size + 1, 0, none⟩ : Addr).add j) = some u) := new_cells2 wr (.cells #[.int .i64 (0), .int .i64 (tt + n % 12), .int .i64 (1 + n / 12 % 4), .int .i64 (n / 48 % 60)] 42) 42 (acCells ⟨0, tt + n % 12, 1 + n / 12 % 4, n / 48 % 60⟩)
          have BB := Lib.hid (below_alloc (below_alloc BEL.out (.cells #[.int .i64 (0), .int .i64 (tt + n % 12), .int .i64 (1 + n / 12 % 4), .int .i64 (n / 48 % 60)] 42)) (.cells #[.int .i64 (0), .int .i64 (tt + n % 12), .int .i64 (1 + n / 12 % 4), .int .i64 (n / 48 % 60)] 42))
          have OW2 := Lib.hid (((OWN.out).alloc (.cells #[.int .i64 (0), .int .i64 (tt + n % 12), .int .i64 (1 + n / 12 % 4), .int .i64 (n / 48 % 60)] 42)).alloc (.cells #[.int .i64 (0), .int .i64 (tt + n % 12), .int .i64 (1 + n / 12 % 4), .int .i64 (n / 48 % 60)] 42))
          go_wp2_with (at_builtin; refine wpList_pushn _ rfl (.tmp 50) (.tmp 52) 29 42 rfl Try.underlying29 _ 4 32 info42 rfl (by omega) (by omega) w.heap.size u3 l.length (l.flatMap acCells) rfl OW2.out (by have := HL.out; omega) ⟨wr.heap.size + 1, 0, none⟩ 1 (acCells ⟨0, tt + n % 12, 1 + n / 12 % 4, n / 48 % 60⟩) rfl rfl NC.out (acCells_one _) BB.out.size ?_; intro v2 w2 own2 ch2 nn2; have O2 := Lib.hid own2; have C2 := Lib.hid ch2; clear own2 ch2 nn2)
          have hat := HAT.out
          have e1 : (l ++ [(⟨0, tt + n % 12, 1 + n / 12 % 4, n / 48 % 60⟩ : Ac)]).length = l.length + 1 := by simp
          have e2 : (l ++ [(⟨0, tt + n % 12, 1 + n / 12 % 4, n / 48 % 60⟩ : Ac)]).flatMap acCells = l.flatMap acCells ++ acCells ⟨0, tt + n % 12, 1 + n / 12 % 4, n / 48 % 60⟩ := by rw [List.flatMap_append]; simp
          refine ⟨⟨j + 1, tt + n % 12, l ++ [⟨0, tt + n % 12, 1 + n / 12 % 4, n / 48 % 60⟩], by omega, by have := HL.out; simp; omega, by go_num, rfl, by omega, by omega, GOOD.out.more _ (by have := HL.out; omega) (by simp) (by simp; omega) (by simp; omega) (by simp; omega) (by simp; omega) (by simp; omega) (by simp; omega) (by intro b hb; have := hat b hb; simp; omega), ?_, by rw [e1, e2]; exact O2.out, ?_⟩, by simp [intOf]; omega⟩
          · intro b hb
            rcases List.mem_append.1 hb with h5 | h5
            · have := hat b h5; omega
            · simp only [List.mem_singleton] at h5; subst h5; simp
          · exact BB.out.trans (C2.out.below (B := w.heap.size) (fun g hg => (OWN.out.lt g hg).1) BB.out.size)
    · by_cases hlt1 : j < len
      · have hlt2 : ¬ j < 16 := by omega
        clear hlt
        go_wp2_with fail
        go_ret
        exact ⟨_, l, rfl, GOOD.out, OWN.out, BEL.out⟩
      · clear hlt
        go_wp2_with fail
        go_ret
        exact ⟨_, l, rfl, GOOD.out, OWN.out, BEL.out⟩

end Go.Proofs.Ytjknlijikojbmaa
