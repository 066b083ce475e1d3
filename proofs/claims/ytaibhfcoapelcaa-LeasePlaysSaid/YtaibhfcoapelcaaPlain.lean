/- The plain laws of windows: what is admitted in each window, and that windows have nothing to do with each other. -/
import Derived.Test.YtaibhfcoapelcaaWindows
namespace Go.Proofs.Ytaibhfcoapelcaa

def lnAt (s : St) (k : Int) : Int := if k = s.lk then s.ln else 0
def cAt (s : St) (i : Nat) (k : Int) : Int := if k = (s.c i).1 then (s.c i).2 else 0

/-- A window that lies behind. -/
structure Good (L S : Int) (al : Prop) (x : Wn) : Prop where
  adm0 : 0 ≤ x.adm
  le : x.adm ≤ x.asked
  most : x.adm ≤ L
  much : x.forgot = false → min x.asked L - 3 * (S - 1) ≤ x.adm
  ones : x.forgot = false → S = 1 ∨ al → x.adm = min x.asked L

/-- An open window: what is leased in it, and what three clients have. -/
structure Opn (L S : Int) (al : Prop) (ln c0 c1 c2 : Int) (x : Wn) : Prop where
  adm0 : 0 ≤ x.adm
  le : x.adm ≤ x.asked
  ln1 : ln ≤ L
  c00 : 0 ≤ c0
  c10 : 0 ≤ c1
  c20 : 0 ≤ c2
  c0S : c0 ≤ S - 1
  c1S : c1 ≤ S - 1
  c2S : c2 ≤ S - 1
  sum : x.adm + c0 + c1 + c2 ≤ ln
  eq : x.forgot = false → x.adm + c0 + c1 + c2 = ln
  den : x.forgot = false → x.adm < x.asked → ln = L
  al1 : al → c1 = 0
  al2 : al → c2 = 0
  al0 : al → x.forgot = false → x.adm < x.asked → c0 = 0

theorem Opn.good {L S ln c0 c1 c2 : Int} {al : Prop} {x : Wn} (h : Opn L S al ln c0 c1 c2 x) : Good L S al x := by
  obtain ⟨h1, h2, h3, h4, h5, h6, h7, h8, h9, h10, h11, h12, h13, h14, h15⟩ := h
  refine ⟨h1, h2, by omega, fun hf => ?_, fun hf ho => ?_⟩
  · have e := h11 hf
    by_cases hd : x.adm < x.asked
    · have := h12 hf hd
      omega
    · omega
  · have e := h11 hf
    by_cases hd : x.adm < x.asked
    · have e2 := h12 hf hd
      rcases ho with ho | ho
      · omega
      · have := h13 ho
        have := h14 ho
        have := h15 ho hf hd
        omega
    · omega

theorem Opn.fresh {L S : Int} {al : Prop} (hL : 1 ≤ L) (hS : 1 ≤ S) (k : Int) : Opn L S al 0 0 0 0 ⟨k, 0, 0, false⟩ := by
  refine ⟨Int.le_refl _, Int.le_refl _, by omega, Int.le_refl _, Int.le_refl _, Int.le_refl _, by omega, by omega, by omega, Int.le_refl _, fun _ => rfl, fun _ hd => ?_, fun _ => rfl, fun _ => rfl, fun _ _ _ => rfl⟩
  have : (0 : Int) < 0 := hd
  omega
theorem Opn.grant {L S ln c0 c1 c2 ln' c0' c1' c2' : Int} {al : Prop} {x : Wn} (h : Opn L S al ln c0 c1 c2 x) (hl : ln ≤ ln') (hl2 : ln' ≤ L) (a0 : 0 ≤ c0') (a1 : 0 ≤ c1') (a2 : 0 ≤ c2')
    (b0 : c0' ≤ S - 1) (b1 : c1' ≤ S - 1) (b2 : c2' ≤ S - 1) (hs : c0' + c1' + c2' + 1 + ln = c0 + c1 + c2 + ln') (d1 : al → c1' = 0) (d2 : al → c2' = 0) :
    Opn L S al ln' c0' c1' c2' { x with asked := x.asked + 1, adm := x.adm + 1 } := by
  obtain ⟨h1, h2, h3, h4, h5, h6, h7, h8, h9, h10, h11, h12, h13, h14, h15⟩ := h
  refine ⟨?_, ?_, hl2, a0, a1, a2, b0, b1, b2, ?_, fun hf => ?_, fun hf hd => ?_, d1, d2, fun ha hf hd => ?_⟩
  · show 0 ≤ x.adm + 1
    omega
  · show x.adm + 1 ≤ x.asked + 1
    omega
  · show x.adm + 1 + c0' + c1' + c2' ≤ ln'
    omega
  · show x.adm + 1 + c0' + c1' + c2' = ln'
    have := h11 hf
    omega
  · have hd : x.adm + 1 < x.asked + 1 := hd
    have := h12 hf (by omega)
    omega
  · have hd : x.adm + 1 < x.asked + 1 := hd
    have := h12 hf (by omega)
    have := h15 ha hf (by omega)
    have := h13 ha
    have := h14 ha
    omega
theorem Opn.deny {L S ln c0 c1 c2 : Int} {al : Prop} {x : Wn} (h : Opn L S al ln c0 c1 c2 x) (hl : ln = L) (h0 : al → c0 = 0) :
    Opn L S al ln c0 c1 c2 { x with asked := x.asked + 1, adm := x.adm + 0 } := by
  obtain ⟨h1, h2, h3, h4, h5, h6, h7, h8, h9, h10, h11, h12, h13, h14, h15⟩ := h
  refine ⟨?_, ?_, h3, h4, h5, h6, h7, h8, h9, ?_, fun hf => ?_, fun _ _ => hl, h13, h14, fun ha _ _ => h0 ha⟩
  · show 0 ≤ x.adm + 0
    omega
  · show x.adm + 0 ≤ x.asked + 1
    omega
  · show x.adm + 0 + c0 + c1 + c2 ≤ ln
    omega
  · show x.adm + 0 + c0 + c1 + c2 = ln
    have := h11 hf
    omega
theorem Opn.forget {L S ln c0 c1 c2 : Int} {al : Prop} {x : Wn} (h : Opn L S al ln c0 c1 c2 x) :
    Opn L S al L c0 c1 c2 { x with forgot := true } := by
  obtain ⟨h1, h2, h3, h4, h5, h6, h7, h8, h9, h10, h11, h12, h13, h14, h15⟩ := h
  refine ⟨h1, h2, Int.le_refl _, h4, h5, h6, h7, h8, h9, ?_, fun hf => (by cases hf), fun hf _ => (by cases hf), h13, h14, fun _ hf _ => (by cases hf)⟩
  show x.adm + c0 + c1 + c2 ≤ L
  omega

structure Law (L S : Int) (al : Prop) (K : Int) (s : St) : Prop where
  lk : s.lk ≤ K
  ck : ∀ i, (s.c i).1 ≤ K
  done : ∀ x ∈ s.done, Good L S al x
  last : ∀ x, s.last = some x → x.k = K ∧ Opn L S al (lnAt s K) (cAt s 0 K) (cAt s 1 K) (cAt s 2 K) x
  no : s.last = none → s.ln = 0 ∧ (∀ i, (s.c i).2 = 0) ∧ s.done = []

theorem Law.start (L S : Int) (al : Prop) : Law L S al 0 St.start :=
  ⟨by simp [St.start], by simp [St.start], by simp [St.start], by simp [St.start], by simp [St.start]⟩

theorem lnAt_zero {s : St} {k : Int} (h : s.ln = 0 ∨ s.lk < k) : lnAt s k = 0 := by
  unfold lnAt; split <;> omega
theorem cAt_zero {s : St} {i : Nat} {k : Int} (h : (s.c i).2 = 0 ∨ (s.c i).1 < k) : cAt s i k = 0 := by
  unfold cAt; split <;> omega

theorem Law.opened {L S K k : Int} {al : Prop} {s : St} (h : Law L S al K s) (hL : 1 ≤ L) (hS : 1 ≤ S) (hk : K ≤ k) :
    (∀ x ∈ (s.opened k).1, Good L S al x) ∧ (s.opened k).2.k = k ∧ Opn L S al (lnAt s k) (cAt s 0 k) (cAt s 1 k) (cAt s 2 k) (s.opened k).2 := by
  have hlk := h.lk
  have hck := h.ck
  unfold St.opened
  rcases hl : s.last with _ | x
  · obtain ⟨h1, h2, h3⟩ := h.no hl
    simp only
    rw [lnAt_zero (.inl h1), cAt_zero (.inl (h2 0)), cAt_zero (.inl (h2 1)), cAt_zero (.inl (h2 2))]
    exact ⟨h.done, trivial, Opn.fresh hL hS k⟩
  · obtain ⟨h1, h2⟩ := h.last x hl
    simp only
    split
    · rename_i he
      obtain rfl : K = k := by omega
      exact ⟨h.done, he, h2⟩
    · rename_i he
      have hlt : K < k := by omega
      rw [lnAt_zero (.inr (by omega)), cAt_zero (.inr (by have := hck 0; omega)), cAt_zero (.inr (by have := hck 1; omega)), cAt_zero (.inr (by have := hck 2; omega))]
      refine ⟨?_, rfl, Opn.fresh hL hS k⟩
      intro y hy
      rcases List.mem_append.1 hy with hy | hy
      · exact h.done y hy
      · simp only [List.mem_singleton] at hy
        subst hy
        exact h2.good

theorem cAt_upd (s : St) (lk ln : Int) (D : List Wn) (o : Option Wn) (b i : Nat) (kc nc k : Int) :
    cAt ⟨lk, ln, upd s.c b (kc, nc), D, o⟩ i k = if i = b then (if k = kc then nc else 0) else cAt s i k := by
  unfold cAt upd
  simp only
  split <;> rfl

theorem Law.step {W L S K : Int} {al : Prop} {s : St} (h : Law L S al K s) (a : Ac) (hL : 1 ≤ L) (hS : 1 ≤ S) (hk : K ≤ a.at_ / W) (hb0 : 0 ≤ a.by_) (hb2 : a.by_ ≤ 2) (hal : al → a.by_ = 0) :
    Law L S al (a.at_ / W) (s.step W L S a) := by
  obtain ⟨o1, o2, o3⟩ := h.opened hL hS hk
  have hlk := h.lk
  have hck := h.ck
  generalize hop : s.opened (a.at_ / W) = op at o1 o2 o3
  obtain ⟨D, y⟩ := op
  simp only at o1 o2 o3
  unfold St.step
  rw [hop]
  simp only
  have e1 : kn W s.lk s.ln a.at_ = lnAt s (a.at_ / W) := rfl
  have e2 : ∀ b, kn W (s.c b).1 (s.c b).2 a.at_ = cAt s b (a.at_ / W) := fun _ => rfl
  generalize hkk : a.at_ / W = k at *
  split
  · refine ⟨Int.le_refl _, fun i => by have := hck i; simp only; omega, o1, ?_, by simp⟩
    intro x hx
    simp only [Option.some.injEq] at hx
    subst hx
    refine ⟨o2, ?_⟩
    have f1 : lnAt { s with lk := k, ln := L, done := D, last := some { y with forgot := true } } k = L := by unfold lnAt; rw [if_pos rfl]
    rw [f1]
    exact o3.forget
  · obtain ⟨b, hb⟩ : ∃ b : Nat, a.by_ = b := ⟨a.by_.toNat, by omega⟩
    have hbt : a.by_.toNat = b := by omega
    rw [hbt]
    unfold adm
    rw [e1, e2, hkk]
    have hcase : b = 0 ∨ b = 1 ∨ b = 2 := by omega
    have g0 := o3.c00
    have g1 := o3.c10
    have g2 := o3.c20
    have g3 := o3.c0S
    have g4 := o3.c1S
    have g5 := o3.c2S
    have g6 := o3.ln1
    have g7 := o3.al1
    have g8 := o3.al2
    have hal2 : al → b = 0 := fun h => by have := hal h; omega
    have hkeep : ∀ (x : Int) i, (upd s.c b (k, x) i).1 ≤ k := by
      intro x i
      simp only [upd]
      split
      · exact Int.le_refl _
      · have := hck i; omega
    split
    · rename_i hv
      refine ⟨by simp only; omega, hkeep _, o1, ?_, by simp⟩
      intro x hx
      simp only [Option.some.injEq, if_true] at hx
      subst hx
      refine ⟨o2, ?_⟩
      simp only [cAt_upd, if_true]
      have f1 : ∀ (o : Option Wn), lnAt ⟨s.lk, s.ln, upd s.c b (k, cAt s b k - 1), D, o⟩ k = lnAt s k := fun _ => rfl
      rw [f1]
      rcases hcase with rfl | rfl | rfl
      · exact o3.grant (by omega) (by omega) (by simp; omega) (by simpa using g1) (by simpa using g2) (by simp; omega) (by simpa using g4) (by simpa using g5) (by simp; omega) (by simpa using g7) (by simpa using g8)
      · exact o3.grant (by omega) (by omega) (by simpa using g0) (by simp; omega) (by simpa using g2) (by simpa using g3) (by simp; omega) (by simpa using g5) (by simp; omega) (fun h => by have := hal2 h; omega) (by simpa using g8)
      · exact o3.grant (by omega) (by omega) (by simpa using g0) (by simpa using g1) (by simp; omega) (by simpa using g3) (by simpa using g4) (by simp; omega) (by simp; omega) (by simpa using g7) (fun h => by have := hal2 h; omega)
    · rename_i hv
      have hz : cAt s b k = 0 := by rcases hcase with rfl | rfl | rfl <;> omega
      split
      · rename_i hm
        have hmS : min S (L - lnAt s k) ≤ S := by omega
        have hmL : min S (L - lnAt s k) ≤ L - lnAt s k := by omega
        refine ⟨by simp, hkeep _, o1, ?_, by simp⟩
        intro x hx
        simp only [Option.some.injEq, if_true] at hx
        subst hx
        refine ⟨o2, ?_⟩
        simp only [cAt_upd, if_true]
        generalize min S (L - lnAt s k) = m at *
        have f1 : ∀ (o : Option Wn), lnAt ⟨k, lnAt s k + m, upd s.c b (k, m - 1), D, o⟩ k = lnAt s k + m := fun _ => by unfold lnAt; simp
        rw [f1]
        rcases hcase with rfl | rfl | rfl
        · exact o3.grant (by omega) (by omega) (by simp; omega) (by simpa using g1) (by simpa using g2) (by simp; omega) (by simpa using g4) (by simpa using g5) (by simp; omega) (by simpa using g7) (by simpa using g8)
        · exact o3.grant (by omega) (by omega) (by simpa using g0) (by simp; omega) (by simpa using g2) (by simpa using g3) (by simp; omega) (by simpa using g5) (by simp; omega) (fun h => by have := hal2 h; omega) (by simpa using g8)
        · exact o3.grant (by omega) (by omega) (by simpa using g0) (by simpa using g1) (by simp; omega) (by simpa using g3) (by simpa using g4) (by simp; omega) (by simp; omega) (by simpa using g7) (fun h => by have := hal2 h; omega)
      · rename_i hm
        have hln : lnAt s k = L := by omega
        have hmz : min S (L - lnAt s k) = 0 := by omega
        rw [hmz]
        refine ⟨by simp, hkeep _, o1, ?_, by simp⟩
        intro x hx
        simp only [Option.some.injEq] at hx
        subst hx
        refine ⟨o2, ?_⟩
        simp only [cAt_upd, if_true]
        have f1 : ∀ (o : Option Wn), lnAt ⟨k, lnAt s k + 0, upd s.c b (k, 0), D, o⟩ k = lnAt s k := fun _ => by unfold lnAt; simp
        rw [f1]
        have f2 : ∀ i, (if i = b then (0 : Int) else cAt s i k) = cAt s i k := by
          intro i
          split
          · rename_i h; rw [h, hz]
          · rfl
        rw [f2, f2, f2]
        refine o3.deny hln (fun h => ?_)
        have := hal2 h
        subst this
        exact hz

/-- The state behind some acts. -/
theorem run_law {W L S : Int} {al : Prop} {l : List Ac} (good : GoodActs l) (hL : 1 ≤ L) (hS : 1 ≤ S) (hW : 1 ≤ W) (hal : al → ∀ a ∈ l, a.by_ = 0) :
    ∀ j, j ≤ l.length → ∃ K, Law L S al K (run W L S (l.take j)) ∧ (∀ i x, j ≤ i → l[i]? = some x → K ≤ x.at_ / W) ∧ (∀ x, 0 < j → l[j - 1]? = some x → K = x.at_ / W) ∧ (j = 0 → run W L S (l.take j) = St.start) := by
  intro j
  induction j with
  | zero =>
    intro _
    refine ⟨0, by simpa [run] using Law.start L S al, ?_, fun _ h => by omega, fun _ => by simp [run]⟩
    intro i x _ hx
    have := good.at0 x (List.mem_of_getElem? hx)
    exact Int.ediv_nonneg this (by omega)
  | succ j ih =>
    intro hj
    obtain ⟨K, h1, h2, h3, h4⟩ := ih (by omega)
    obtain ⟨x, hx⟩ : ∃ x, l[j]? = some x := ⟨_, List.getElem?_eq_getElem (by omega)⟩
    have hmem := List.mem_of_getElem? hx
    rw [run_take hx]
    refine ⟨x.at_ / W, h1.step x hL hS (h2 j x (Nat.le_refl _) hx) (good.by0 x hmem) (good.by1 x hmem) (fun h => hal h x hmem), ?_, ?_, fun h => by omega⟩
    · intro i y hi hy
      obtain ⟨hlt, rfl⟩ := List.getElem?_eq_some_iff.1 hy
      obtain ⟨hlt2, rfl⟩ := List.getElem?_eq_some_iff.1 hx
      exact Int.ediv_le_ediv (by omega) (List.pairwise_iff_getElem.1 good.up j i hlt2 hlt (by omega))
    · intro y _ hy
      rw [show j + 1 - 1 = j from rfl, hx] at hy
      injection hy with hy
      rw [hy]

/-- What is admitted in each window. -/
theorem run_good {W L S : Int} {l : List Ac} (good : GoodActs l) (hL : 1 ≤ L) (hS : 1 ≤ S) (hW : 1 ≤ W) (al : Prop) (hal : al → ∀ a ∈ l, a.by_ = 0) : ∀ x ∈ (run W L S l).out, Good L S al x := by
  obtain ⟨K, h, _⟩ := run_law good hL hS hW hal l.length (Nat.le_refl _)
  rw [List.take_length] at h
  intro x hx
  unfold St.out at hx
  rcases List.mem_append.1 hx with hx | hx
  · exact h.done x hx
  · rcases hl : (run W L S l).last with _ | y
    · rw [hl] at hx; simp at hx
    · rw [hl] at hx
      simp only [Option.toList_some, List.mem_singleton] at hx
      subst hx
      exact (h.last x hl).2.good

/-! ### windows have nothing to do with each other -/
def Sim (k0 : Int) (s s' : St) : Prop := ∀ k, k0 ≤ k → lnAt s k = lnAt s' k ∧ ∀ i, cAt s i k = cAt s' i k

theorem sim_step {W L S K : Int} {B : List Wn} {s s' : St} {a : Ac} (h : Sim K s s') (hk : K ≤ a.at_ / W) (h1 : (s.opened (a.at_ / W)).1 = B ++ (s'.opened (a.at_ / W)).1) (h2 : (s.opened (a.at_ / W)).2 = (s'.opened (a.at_ / W)).2) :
    Sim (a.at_ / W) (s.step W L S a) (s'.step W L S a) ∧ (s.step W L S a).done = B ++ (s'.step W L S a).done ∧ (s.step W L S a).last = (s'.step W L S a).last ∧ (s.step W L S a).last ≠ none := by
  have hs := h (a.at_ / W) hk
  unfold St.step
  split
  · refine ⟨fun k hk2 => ⟨rfl, fun i => (h k (by omega)).2 i⟩, h1, by rw [h2], by simp⟩
  · have e1 : ∀ s : St, kn W s.lk s.ln a.at_ = lnAt s (a.at_ / W) := fun _ => rfl
    have e2 : ∀ (s : St) b, kn W (s.c b).1 (s.c b).2 a.at_ = cAt s b (a.at_ / W) := fun _ _ => rfl
    unfold adm
    simp only
    rw [e1, e1, e2, e2, hs.1, hs.2]
    split
    · refine ⟨fun k hk2 => ⟨(h k (by omega)).1, fun i => ?_⟩, h1, by rw [h2], by simp⟩
      rw [cAt_upd, cAt_upd, (h k (by omega)).2]
    · split
      · refine ⟨fun k hk2 => ⟨rfl, fun i => ?_⟩, h1, by rw [h2], by simp⟩
        rw [cAt_upd, cAt_upd, (h k (by omega)).2]
      · refine ⟨fun k hk2 => ⟨rfl, fun i => ?_⟩, h1, by rw [h2], by simp⟩
        rw [cAt_upd, cAt_upd, (h k (by omega)).2]

/-- A run goes on alike. -/
theorem sim_run {W L S : Int} {B : List Wn} : ∀ (l : List Ac) (K : Int) (s s' : St), Sim K s s' → (∀ a ∈ l, K ≤ a.at_ / W) → l.Pairwise (fun a b => a.at_ / W ≤ b.at_ / W) → s.done = B ++ s'.done → s.last = s'.last → s.last ≠ none →
    (l.foldl (St.step W L S) s).out = B ++ (l.foldl (St.step W L S) s').out
  | [], _, s, s', _, _, _, h1, h2, _ => by simp [St.out, h1, h2]
  | a :: l, K, s, s', h, hk, hp, h1, h2, h3 => by
    obtain ⟨p1, p2⟩ := List.pairwise_cons.1 hp
    have ha := hk a (by simp)
    obtain ⟨r1, r2, r3, r4⟩ := sim_step (B := B) (L := L) (S := S) h ha (by unfold St.opened; rw [← h2]; rcases s.last with _ | x; exact h1; simp only; split <;> simp [h1]) (by unfold St.opened; rw [← h2]; rcases s.last with _ | x; rfl; simp only; split <;> rfl)
    exact sim_run l (a.at_ / W) _ _ r1 p1 p2 r2 r3 r4

theorem run_apart {W L S : Int} {l : List Ac} (good : GoodActs l) (hL : 1 ≤ L) (hS : 1 ≤ S) (hW : 1 ≤ W) (n : Nat) (hn : ∀ x y, 0 < n → l[n]? = some x → l[n - 1]? = some y → x.at_ / W ≠ y.at_ / W) :
    ∃ B, (run W L S l).out = B ++ (run W L S (l.drop n)).out := by
  rcases hd : l.drop n with _ | ⟨a, post⟩
  · exact ⟨(run W L S l).out, by simp [run, St.start, St.out]⟩
  · have hx : l[n]? = some a := by
      have : (l.drop n)[0]? = some a := by rw [hd]; rfl
      rwa [List.getElem?_drop, Nat.add_zero] at this
    have hlt := (List.getElem?_eq_some_iff.1 hx).1
    obtain ⟨K, h1, h2, h3, h4⟩ := run_law (al := False) good hL hS hW (fun h => h.elim) n (by omega)
    have hk := h2 n a (Nat.le_refl _) hx
    have hl : l = l.take n ++ (a :: post) := by rw [← hd, List.take_append_drop]
    have hdiv : (a :: post).Pairwise (fun a b => a.at_ / W ≤ b.at_ / W) := by
      rw [← hd]
      exact (good.up.drop).imp (fun h => Int.ediv_le_ediv (by omega) h)
    obtain ⟨p1, p2⟩ := List.pairwise_cons.1 hdiv
    have hrun : run W L S l = post.foldl (St.step W L S) ((run W L S (l.take n)).step W L S a) := by
      conv => lhs; rw [hl]
      unfold run
      rw [List.foldl_append]
      rfl
    have hrun2 : run W L S (a :: post) = post.foldl (St.step W L S) (St.start.step W L S a) := rfl
    rw [hrun, hrun2]
    generalize hs : run W L S (l.take n) = s at *
    refine ⟨s.out, ?_⟩
    have hno : s.last = none ∨ K < a.at_ / W := by
      rcases Nat.eq_zero_or_pos n with h0 | h0
      · left; rw [h4 h0]; rfl
      · right
        obtain ⟨y, hy⟩ : ∃ y, l[n - 1]? = some y := ⟨_, List.getElem?_eq_getElem (by omega)⟩
        have e := h3 y h0 hy
        have := hn a y h0 hx hy
        omega
    have hz : ∀ k, a.at_ / W ≤ k → lnAt s k = 0 ∧ ∀ i, cAt s i k = 0 := by
      intro k hk2
      have a1 := h1.lk
      have a2 := h1.ck
      rcases hno with h0 | h0
      · obtain ⟨b1, b2, _⟩ := h1.no h0
        exact ⟨lnAt_zero (.inl b1), fun i => cAt_zero (.inl (b2 i))⟩
      · exact ⟨lnAt_zero (.inr (by omega)), fun i => cAt_zero (.inr (by have := a2 i; omega))⟩
    have hsim : Sim (a.at_ / W) s St.start := by
      intro k hk2
      obtain ⟨z1, z2⟩ := hz k hk2
      exact ⟨by rw [z1, lnAt_zero (.inl rfl)], fun i => by rw [z2, cAt_zero (.inl rfl)]⟩
    have ho : s.opened (a.at_ / W) = (s.out, ⟨a.at_ / W, 0, 0, false⟩) := by
      unfold St.opened St.out
      rcases hl2 : s.last with _ | x
      · simp
      · simp only
        have hxk := (h1.last x hl2).1
        rcases hno with h0 | h0
        · rw [hl2] at h0; cases h0
        · rw [if_neg (by omega)]
          simp
    obtain ⟨r1, r2, r3, r4⟩ := sim_step (B := s.out) (L := L) (S := S) hsim (Int.le_refl _) (by rw [ho]; simp [St.opened, St.start]) (by rw [ho]; simp [St.opened, St.start])
    exact sim_run post _ _ _ r1 p1 p2 r2 r3 r4

theorem GoodActs.drop {l : List Ac} (h : GoodActs l) (n : Nat) : GoodActs (l.drop n) :=
  ⟨by have := h.few; simp; omega, fun a ha => h.do_ a (List.mem_of_mem_drop ha), fun a ha => h.at0 a (List.mem_of_mem_drop ha), fun a ha => h.at1 a (List.mem_of_mem_drop ha), fun a ha => h.by0 a (List.mem_of_mem_drop ha), fun a ha => h.by1 a (List.mem_of_mem_drop ha), h.up.drop⟩

end Go.Proofs.Ytaibhfcoapelcaa
