/- An authority behind acts. -/
import Derived.Test.YtjknlijikojbmaaActs
namespace Go.Proofs.Ytjknlijikojbmaa
open Go.RowKit

def pstep (s : Au × Int) (x : Ac) : Au × Int :=
  (if x.do_ = 0 then s.1.issue x.n_ x.at_ x.life else if x.do_ = 1 then s.1.rotate x.at_ x.life else s.1.revoke x.n_, x.at_)
def prun (l : List Ac) : Au × Int := l.foldl pstep (Au.new, 0)

/-- Numbers that stay in their bounds. -/
structure Fine (j : Nat) (s : Au × Int) : Prop where
  fl : s.1.l.length ≤ j
  fu : s.1.u.length ≤ j
  up : s.1.u.Pairwise (fun x y => x ≤ y)

theorem Fine.new : Fine 0 (Au.new, 0) := ⟨by simp [Au.new], by simp [Au.new], by simp [Au.new]⟩
theorem rotate_up {a : Au} (h : a.u.Pairwise (fun x y => x ≤ y)) (now over : Int) : (a.rotate now over).u.Pairwise (fun x y => x ≤ y) := by
  unfold Au.rotate
  rw [List.pairwise_append]
  refine ⟨?_, by simp, ?_⟩
  · rw [List.pairwise_map]
    exact h.imp (fun h => by omega)
  · intro x hx y hy
    obtain ⟨z, _, rfl⟩ := List.mem_map.1 hx
    simp only [List.mem_singleton] at hy
    omega
theorem revoke_l (a : Au) (s : Int) : (a.revoke s).l = a.l := by unfold Au.revoke; split <;> rfl
theorem revoke_u (a : Au) (s : Int) : (a.revoke s).u = a.u := by unfold Au.revoke; split <;> rfl
theorem Fine.step {j : Nat} {s : Au × Int} (h : Fine j s) (x : Ac) : Fine (j + 1) (pstep s x) := by
  obtain ⟨h1, h2, h3⟩ := h
  unfold pstep
  split
  · exact ⟨by simp [Au.issue]; omega, by simp [Au.issue]; omega, h3⟩
  · split
    · exact ⟨by simp [Au.rotate]; omega, by simp [Au.rotate]; omega, rotate_up h3 _ _⟩
    · exact ⟨by simp only [revoke_l]; omega, by simp only [revoke_u]; omega, by simp only [revoke_u]; exact h3⟩
theorem prun_take {l : List Ac} {j : Nat} {x : Ac} (hx : l[j]? = some x) : prun (l.take (j + 1)) = pstep (prun (l.take j)) x := by
  obtain ⟨h, e⟩ := List.getElem?_eq_some_iff.1 hx
  unfold prun
  rw [List.take_succ_eq_append_getElem h, List.foldl_append, e]
  rfl
theorem prun_fine (l : List Ac) : ∀ j, j ≤ l.length → Fine j (prun (l.take j)) := by
  intro j
  induction j with
  | zero => intro _; simpa [prun] using Fine.new
  | succ j ih =>
    intro hj
    obtain ⟨x, hx⟩ : ∃ x, l[j]? = some x := ⟨_, List.getElem?_eq_getElem (by omega)⟩
    rw [prun_take hx]
    exact (ih (by omega)).step x

/-- Acts as a slice that lies below a block. -/
def RdActs (w : World) (B : Nat) (A : Option Addr) (n : Nat) (l : List Ac) : Prop :=
  l.length = n ∧ ∀ i x, l[i]? = some x → ∃ g, A = some ⟨g, 0, none⟩ ∧ g < B ∧ w.cell? ⟨g, i * 4, none⟩ = some (.int .i64 x.do_) ∧ w.cell? ⟨g, i * 4 + 1, none⟩ = some (.int .i64 x.at_) ∧ w.cell? ⟨g, i * 4 + 2, none⟩ = some (.int .i64 x.n_) ∧ w.cell? ⟨g, i * 4 + 3, none⟩ = some (.int .i64 x.life)
theorem RdActs.below {w w' : World} {B : Nat} {A : Option Addr} {n : Nat} {l : List Ac} (h : RdActs w B A n l) (hb : Below B w w') : RdActs w' B A n l := by
  refine ⟨h.1, fun i x hx => ?_⟩
  obtain ⟨g, e, hg, c0, c1, c2, c3⟩ := h.2 i x hx
  exact ⟨g, e, hg, (hb.cell (p := ⟨g, _, none⟩) hg).trans c0, (hb.cell (p := ⟨g, _, none⟩) hg).trans c1, (hb.cell (p := ⟨g, _, none⟩) hg).trans c2, (hb.cell (p := ⟨g, _, none⟩) hg).trans c3⟩
theorem RdActs.of_own {w : World} {base : Nat} {A : Option Addr} {c : Nat} {l : List Ac} (h : w.ownsRow base 42 4 (.slice A l.length c) l.length (l.flatMap acCells)) : RdActs w w.heap.size A l.length l := by
  refine ⟨rfl, fun i x hx => ?_⟩
  have hl := (List.getElem?_eq_some_iff.1 hx).1
  obtain ⟨g, cap', hv, _, hg⟩ := h.form (by omega)
  injection hv with e1 e2 e3
  subst e1
  subst e3
  have f := fun j (hj : j < 4) => flat_get acCells 4 acCells_len l i j x hx hj
  refine ⟨g, rfl, hg, ?_, ?_, ?_, ?_⟩
  · rw [h.cellAt _ (by omega)]; have := f 0 (by omega); rw [show i * 4 = i * 4 + 0 from by omega, this]; rfl
  · rw [h.cellAt _ (by omega)]; have := f 1 (by omega); rw [this]; rfl
  · rw [h.cellAt _ (by omega)]; have := f 2 (by omega); rw [this]; rfl
  · rw [h.cellAt _ (by omega)]; have := f 3 (by omega); rw [this]; rfl

/-- An authority, and the certificates that it gave out, in memory. -/
structure PlIs (w0 w : World) (g : Nat) (vG : Value) (b : Nat) (vU : Value) (a : Au) (vO : Value) : Prop where
  au : AuIs w0.heap.size w g vG b vU a
  out : w.ownsRow w0.heap.size 24 5 vO a.l.length (a.l.flatMap ceCells)
  ne : ∀ i, vG.ownBlock = some i → vO.ownBlock ≠ some i
  bel : Below w0.heap.size w0 w

def PlayRel (w0 : World) (g b : Nat) (l : List Ac) (v t i : Value) (wr : World) : Prop :=
  ∃ (j : Nat) (vG vU : Value), j ≤ l.length ∧ i = .int .i64 j ∧ t = .int .i64 (prun (l.take j)).2 ∧ PlIs w0 wr g vG b vU (prun (l.take j)).1 v

def PlayedIs (l : List Ac) (w : World) (e : Ending) (w' : World) : Prop :=
  ∃ g vG b vU vO, e = .returned (.tuple #[.pointer (some ⟨g, 0, none⟩), vO, .int .i64 (prun l).2]) ∧ PlIs w w' g vG b vU (prun l).1 vO

section
variable {w0 w w' : World} {g : Nat} {vG : Value} {b : Nat} {vU : Value} {a : Au} {vO : Value}
theorem PlIs.below (h : PlIs w0 w g vG b vU a vO) (hb : Below w.heap.size w w') : PlIs w0 w' g vG b vU a vO := ⟨h.au.below hb, own_below h.out hb, h.ne, below_next h.bel hb⟩
theorem PlIs.alloc (h : PlIs w0 w g vG b vU a vO) (o : Obj) : PlIs w0 (w.alloc o) g vG b vU a vO := h.below (below_alloc (Below.refl _ _) o)
theorem PlIs.rotate {vU' : Value} {now over : Int} (h : PlIs w0 w g vG b vU a vO) (au : AuIs w0.heap.size w' g vG b vU' (a.rotate now over)) (ch : Chg (fun i => i = g ∨ vU.ownBlock = some i) w w') : PlIs w0 w' g vG b vU' (a.rotate now over) vO := by
  refine ⟨au, own_chg h.out ch ?_, h.ne, h.bel.trans (ch.below ?_ h.bel.size)⟩
  · intro i hi
    rintro (rfl | e)
    · exact own_blk_ne h.out h.au.blk (by decide) hi
    · exact own_own_ne h.au.ownU h.out (by decide) e hi
  · rintro i (rfl | e)
    · exact h.au.hg
    · exact (h.au.ownU.lt i e).1
theorem PlIs.revoke {s : Int} (h : PlIs w0 w g vG b vU a vO) (au : AuIs w0.heap.size w' g vG b vU (a.revoke s)) (ch : Chg (fun i => i = b) w w') : PlIs w0 w' g vG b vU (a.revoke s) vO := by
  refine ⟨au, ?_, h.ne, h.bel.trans (ch.below ?_ h.bel.size)⟩
  · rw [revoke_l]
    exact own_chg h.out ch (fun i hi e => h.au.set.ne_own h.out (e ▸ hi))
  · rintro i rfl
    exact h.au.hb
theorem PlIs.out5 (h : PlIs w0 w g vG b vU a vO) (ch : Chg (fun i => i = g ∨ vG.ownBlock = some i) w w') : w'.ownsRow w0.heap.size 24 5 vO a.l.length (a.l.flatMap ceCells) := by
  refine own_chg h.out ch ?_
  intro i hi
  rintro (rfl | e)
  · exact own_blk_ne h.out h.au.blk (by decide) hi
  · exact h.ne i e hi
theorem PlIs.issue {w5 w6 : World} {vG' vO' : Value} {v now life : Int} {o : Obj} (h : PlIs w0 w g vG b vU a vO) (au : AuIs w0.heap.size w5 g vG' b vU (a.issue v now life)) (ch : Chg (fun i => i = g ∨ vG.ownBlock = some i) w w5)
    (nn : ∀ i, vG'.ownBlock = some i → vG.ownBlock = some i ∨ w.heap.size ≤ i) (own6 : w6.ownsRow w0.heap.size 24 5 vO' (a.l.length + 1) (a.l.flatMap ceCells ++ ceCells (a.cert v now life)))
    (ch6 : Chg (fun i => vO.ownBlock = some i) (w5.alloc o) w6) (nn6 : ∀ i, vO'.ownBlock = some i → vO.ownBlock = some i ∨ (w5.alloc o).heap.size ≤ i) : PlIs w0 w6 g vG' b vU (a.issue v now life) vO' := by
  have o5 := h.out5 ch
  have e1 : (a.issue v now life).l.length = a.l.length + 1 := by simp [Au.issue]
  have e2 : (a.issue v now life).l.flatMap ceCells = a.l.flatMap ceCells ++ ceCells (a.cert v now life) := by simp [Au.issue]
  have nvg : ∀ i, vG'.ownBlock = some i → vO.ownBlock ≠ some i := by
    intro i hi e
    rcases nn i hi with h1 | h1
    · exact h.ne i h1 e
    · have := (h.out.lt i e).2
      omega
  refine ⟨(au.alloc o).chg ch6 ?_, by rw [e1, e2]; exact own6, ?_, ?_⟩
  · rintro i (rfl | h1 | rfl | h1) e
    · exact own_blk_ne o5 au.blk (by decide) e
    · exact nvg i h1 e
    · exact au.set.ne_own o5 e
    · exact own_own_ne o5 au.ownU (by decide) e h1
  · intro i hi e
    rcases nn6 i e with h1 | h1
    · exact nvg i hi h1
    · have := (au.own.lt i hi).2
      rw [World.size_alloc] at h1
      omega
  · refine h.bel.trans ((ch.below ?_ h.bel.size).trans ?_)
    · rintro i (rfl | e)
      · exact h.au.hg
      · exact (h.au.own.lt i e).1
    · have hz : w0.heap.size ≤ w5.heap.size := Nat.le_trans h.bel.size ch.size
      exact ((Below.refl _ _).alloc hz o).trans (ch6.below (fun i e => (h.out.lt i e).1) (by rw [World.size_alloc]; omega))
end

set_option maxHeartbeats 4000000 in
theorem played_any (A : Option Addr) (c : Nat) (l : List Ac) (w : World) (ha : RdActs w w.heap.size A l.length l) (hg : GoodActs l) : Calls Try.prog 7 #[.slice A l.length c] w (PlayedIs l w) := by
  have HA := Lib.hid ha
  have HG := Lib.hid hg
  have hfew := hg.few
  clear ha hg
  go_enter Try.func7, Try.ntmps7
  go_wp2_with fail
  refine (new_any _).mono ?_
  rintro e w1 ⟨g, b, rfl, au, bel⟩
  have IS0 : Hid (PlIs w w1 g (.slice none 0 0) b (.slice none 0 0) Au.new (.slice none 0 0)) := ⟨au, World.ownsRow_nil _ _ _ _, by simp [Value.ownBlock], bel⟩
  clear au bel
  go_wp2_with fail
  go_loopw [6, 7, 8] (fun v t i wr => PlayRel w g b l v t i wr) (fun _ _ i _ => l.length - (intOf i).toNat)
  case atStart => exact ⟨0, _, _, Nat.zero_le _, rfl, by simp [prun], by simpa [prun] using IS0.out⟩
  case round =>
    clear IS0
    obtain ⟨j, vG, vU, hj, rfl, rfl, is⟩ := hrel
    have IS := Lib.hid is
    clear is
    by_cases hlt : j < l.length
    · obtain ⟨x, hx⟩ : ∃ x, l[j]? = some x := ⟨_, List.getElem?_eq_getElem hlt⟩
      have hmem := List.mem_of_getElem? hx
      have gx1 := HG.out.at0 x hmem
      have gx2 := HG.out.at1 x hmem
      have gx3 := HG.out.n0 x hmem
      have gx4 := HG.out.n1 x hmem
      have gx5 := HG.out.l0 x hmem
      have gx6 := HG.out.l1 x hmem
      have gx7 := HG.out.do_ x hmem
      obtain ⟨ga, rfl, hga, x0, x1, x2, x3⟩ := (HA.out.below IS.out.bel).2 j x hx
      have fine := prun_fine l j hj
      have hst := prun_take hx
      generalize hs : prun (l.take j) = s at *
      have HST := Lib.hid hst
      have FINE := Lib.hid fine
      have HX := Lib.hid hx
      have HGA := Lib.hid hga
      have f1 := fine.fl
      have f2 := fine.fu
      have ISA := Lib.hid (IS.out.alloc (.cells #[.int .i64 x.do_, .int .i64 x.at_, .int .i64 x.n_, .int .i64 x.life] 42))
      clear hst fine hx hga hmem hs
      by_cases hd0 : x.do_ = 0
      · have e0 : (x.do_ == 0) = true := by simpa using hd0
        have HE : Hid (pstep s x = (s.1.issue x.n_ x.at_ x.life, x.at_)) := by show _ = _; unfold pstep; rw [if_pos hd0]
        clear hd0 gx7
        go_wp2_with fail
        refine (issue_any x.n_ x.at_ x.life ISA.out.au ISA.out.bel.size (by omega) gx1 (by omega) gx5 (by omega)).mono ?_
        rintro e w5 ⟨vG2, rfl, au2, ch2, nn2⟩
        have O5 := Lib.hid (ISA.out.out5 ch2)
        have AU2 := Lib.hid au2
        have CH2 := Lib.hid ch2
        have NN2 := Lib.hid nn2
        clear au2 ch2 nn2
        obtain ⟨ce, hce⟩ : ∃ ce, ce = s.1.cert x.n_ x.at_ x.life := ⟨_, rfl⟩
        rw [← hce]
        have HCE := Lib.hid hce
        clear hce
        have NC : Hid (∀ j u, (ceCells ce)[j]? = some u → (w5.alloc (.cells #[.int .i64 ce.s, .int .i64 ce.r, .int .i64 ce.v, .int .i64 ce.f, .int .i64 ce.t] 24)).cell? ((⟨w5.heap.size, 0, none⟩ : Addr).add j) = some u) := new_cells w5 24 (ceCells ce)
        have OWA := Lib.hid (O5.out.alloc (.cells #[.int .i64 ce.s, .int .i64 ce.r, .int .i64 ce.v, .int .i64 ce.f, .int .i64 ce.t] 24))
        have HB : Hid (w.heap.size ≤ (w5.alloc (.cells #[.int .i64 ce.s, .int .i64 ce.r, .int .i64 ce.v, .int .i64 ce.f, .int .i64 ce.t] 24)).heap.size) := by
          have := CH2.out.size
          have := ISA.out.bel.size
          show _ ≤ _
          rw [World.size_alloc]
          omega
        go_wp2_with (at_builtin; refine wpList_pushn _ rfl (.tmp 31) (.tmp 40) 26 24 (by rfl) Try.underlying26 _ 5 40 info24 rfl (by omega) (by omega) w.heap.size u6 s.1.l.length (s.1.l.flatMap ceCells) (by rfl) OWA.out (by omega) ⟨w5.heap.size, 0, none⟩ 1 (ceCells ce) rfl (by rfl) NC.out (ceCells_one _) HB.out ?_; intro v6 w6 own6 ch6 nn6; have O6 := Lib.hid own6; have C6 := Lib.hid ch6; have N6 := Lib.hid nn6; clear own6 ch6 nn6)
        have o6 := O6.out
        rw [HCE.out] at o6
        refine ⟨⟨j + 1, vG2, vU, by omega, by go_num, by rw [HST.out, HE.out], ?_⟩, by simp [intOf]; omega⟩
        rw [HST.out, HE.out]
        exact ISA.out.issue AU2.out CH2.out NN2.out o6 C6.out N6.out
      · have e0 : (x.do_ == 0) = false := by simpa using hd0
        by_cases hd1 : x.do_ = 1
        · have e1 : (x.do_ == 1) = true := by simpa using hd1
          have HE : Hid (pstep s x = (s.1.rotate x.at_ x.life, x.at_)) := by show _ = _; unfold pstep; rw [if_neg hd0, if_pos hd1]
          clear hd0 hd1 gx7
          go_wp2_with fail
          refine (rotate_any x.at_ x.life ISA.out.au ISA.out.bel.size (by omega) FINE.out.up gx1 (by omega) gx5 (by omega)).mono ?_
          rintro e w5 ⟨vU2, rfl, au2, ch2, nn2⟩
          have IS5 := Lib.hid (ISA.out.rotate au2 ch2)
          clear au2 ch2 nn2
          go_wp2_with fail
          refine ⟨⟨j + 1, vG, vU2, by omega, by go_num, by rw [HST.out, HE.out], ?_⟩, by simp [intOf]; omega⟩
          rw [HST.out, HE.out]
          exact IS5.out
        · have e1 : (x.do_ == 1) = false := by simpa using hd1
          have HE : Hid (pstep s x = (s.1.revoke x.n_, x.at_)) := by show _ = _; unfold pstep; rw [if_neg hd0, if_neg hd1]
          clear hd0 hd1 gx7
          go_wp2_with fail
          refine (revoke_any x.n_ ISA.out.au).mono ?_
          rintro e w5 ⟨rfl, au2, ch2⟩
          have IS5 := Lib.hid (ISA.out.revoke au2 ch2)
          clear au2 ch2
          go_wp2_with fail
          refine ⟨⟨j + 1, vG, vU, by omega, by go_num, by rw [HST.out, HE.out], ?_⟩, by simp [intOf]; omega⟩
          rw [HST.out, HE.out]
          exact IS5.out
    · obtain rfl : j = l.length := by omega
      have e := List.take_length (l := l)
      rw [e] at IS
      go_wp2_with fail
      go_ret3
      have e2 : (prun (List.take l.length l)).2 = (prun l).2 := by rw [List.take_length]
      refine ⟨g, vG, b, vU, _, ?_, IS.out⟩
      rw [← e2]
      rfl

end Go.Proofs.Ytjknlijikojbmaa
