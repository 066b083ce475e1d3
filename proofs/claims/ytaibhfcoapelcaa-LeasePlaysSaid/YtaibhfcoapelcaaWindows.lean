/- What happens in each window, by acts: as a function on lists, and that the text computes it. -/
import Derived.Test.YtaibhfcoapelcaaRows2
import Derived.Deep.RegionHeld3
namespace Go.Proofs.Ytaibhfcoapelcaa
open Go.RowKit

/-- What happened in a window. -/
structure Wn where
  k : Int
  asked : Int
  adm : Int
  forgot : Bool
def wnCells (x : Wn) : List Value := [.int .i64 x.k, .int .i64 x.asked, .int .i64 x.adm, .bool x.forgot]
theorem wnCells_len (x : Wn) : (wnCells x).length = 4 := rfl

/-- A limiter, three clients, and what happened: the windows behind, and the last one, if there is one. -/
structure St where
  lk : Int
  ln : Int
  c : Nat → Int × Int
  done : List Wn
  last : Option Wn

def St.out (s : St) : List Wn := s.done ++ s.last.toList
def St.start : St := ⟨0, 0, fun _ => (0, 0), [], none⟩
def upd (c : Nat → Int × Int) (i : Nat) (x : Int × Int) : Nat → Int × Int := fun j => if j = i then x else c j

/-- A tick's window is opened, if it is not the last one. -/
def St.opened (s : St) (k : Int) : List Wn × Wn :=
  match s.last with
  | none => (s.done, ⟨k, 0, 0, false⟩)
  | some x => if x.k = k then (s.done, x) else (s.done ++ [x], ⟨k, 0, 0, false⟩)

def St.step (W L S : Int) (s : St) (a : Ac) : St :=
  if a.do_ = 2 then { s with lk := a.at_ / W, ln := L, done := (s.opened (a.at_ / W)).1, last := some { (s.opened (a.at_ / W)).2 with forgot := true } }
  else
    let r := adm W L S a.at_ s.lk s.ln (s.c a.by_.toNat).1 (s.c a.by_.toNat).2
    ⟨r.k, r.n, upd s.c a.by_.toNat (r.kc, r.nc), (s.opened (a.at_ / W)).1,
      some { (s.opened (a.at_ / W)).2 with asked := (s.opened (a.at_ / W)).2.asked + 1, adm := (s.opened (a.at_ / W)).2.adm + (if r.b then 1 else 0) }⟩

def run (W L S : Int) (l : List Ac) : St := l.foldl (St.step W L S) St.start

/-- Numbers that stay in their bounds. -/
structure St.Fine (L S : Int) (j : Nat) (s : St) : Prop where
  ln0 : 0 ≤ s.ln
  ln1 : s.ln ≤ L
  nc0 : ∀ i, 0 ≤ (s.c i).2
  nc1 : ∀ i, (s.c i).2 ≤ S
  few : s.out.length ≤ j
  nil : s.last = none → s.done = []
  wn : ∀ x, s.last = some x → 0 ≤ x.asked ∧ x.asked ≤ j ∧ 0 ≤ x.adm ∧ x.adm ≤ j

theorem adm_bounds {t L S now k n kc nc : Int} (hS : 1 ≤ S) (hq : 0 ≤ n) (hq2 : n ≤ L) (hc : 0 ≤ nc) (hc2 : nc ≤ S) :
    0 ≤ (adm t L S now k n kc nc).n ∧ (adm t L S now k n kc nc).n ≤ L ∧ 0 ≤ (adm t L S now k n kc nc).nc ∧ (adm t L S now k n kc nc).nc ≤ S := by
  obtain ⟨r1, r2⟩ := kn_range t kc nc now S hc hc2 (by omega)
  obtain ⟨s1, s2⟩ := kn_range t k n now L hq hq2 (by omega)
  unfold adm
  split
  · simp only; omega
  · split <;> simp only <;> omega

theorem opened_length (s : St) (k : Int) : ((s.opened k).1.length + 1 = s.out.length) ∨ ((s.opened k).1.length + 1 = s.out.length + 1) := by
  unfold St.opened St.out
  rcases s.last with _ | x
  · simp
  · simp only [Option.toList_some, List.length_append, List.length_singleton]
    split <;> simp

theorem opened_last {L S : Int} {j : Nat} {s : St} (h : s.Fine L S j) (k : Int) : 0 ≤ (s.opened k).2.asked ∧ (s.opened k).2.asked ≤ j ∧ 0 ≤ (s.opened k).2.adm ∧ (s.opened k).2.adm ≤ j := by
  unfold St.opened
  rcases hl : s.last with _ | x
  · simp only; omega
  · simp only
    split
    · exact h.wn x hl
    · simp only; omega

theorem St.Fine.start (L S : Int) (hL : 1 ≤ L) (hS : 1 ≤ S) : St.start.Fine L S 0 :=
  ⟨by simp [St.start], by simp [St.start]; omega, by simp [St.start], by simp [St.start]; omega, by simp [St.start, St.out], by simp [St.start], by simp [St.start]⟩

theorem St.Fine.step {W L S : Int} {j : Nat} {s : St} (h : s.Fine L S j) (a : Ac) (hS : 1 ≤ S) (hL : 1 ≤ L) : (s.step W L S a).Fine L S (j + 1) := by
  have ol := opened_length s (a.at_ / W)
  have ob := opened_last h (a.at_ / W)
  have hf := h.few
  unfold St.step
  split
  · refine ⟨by simp only; omega, by simp, h.nc0, h.nc1, ?_, by simp, ?_⟩
    · simp only [St.out, Option.toList_some, List.length_append, List.length_singleton] at *
      omega
    · intro x hx
      simp only [Option.some.injEq] at hx
      subst hx
      simp only
      omega
  · have ab := adm_bounds (t := W) (L := L) (S := S) (now := a.at_) (k := s.lk) (n := s.ln) (kc := (s.c a.by_.toNat).1) (nc := (s.c a.by_.toNat).2) hS h.ln0 h.ln1 (h.nc0 _) (h.nc1 _)
    refine ⟨ab.1, ab.2.1, ?_, ?_, ?_, by simp, ?_⟩
    · intro i
      simp only [upd]
      split
      · exact ab.2.2.1
      · exact h.nc0 i
    · intro i
      simp only [upd]
      split
      · exact ab.2.2.2
      · exact h.nc1 i
    · simp only [St.out, Option.toList_some, List.length_append, List.length_singleton] at *
      omega
    · intro x hx
      simp only [Option.some.injEq] at hx
      subst hx
      simp only
      split <;> omega

/-- Acts as a slice that lies below a block. -/
def RdActs (w : World) (B : Nat) (A : Option Addr) (n : Nat) (l : List Ac) : Prop :=
  l.length = n ∧ ∀ i x, l[i]? = some x → ∃ g off, A = some ⟨g, off, none⟩ ∧ g < B ∧ w.cell? ⟨g, off + i * 3, none⟩ = some (.int .i64 x.do_) ∧ w.cell? ⟨g, off + i * 3 + 1, none⟩ = some (.int .i64 x.at_) ∧ w.cell? ⟨g, off + i * 3 + 2, none⟩ = some (.int .i64 x.by_)

theorem RdActs.below {w w' : World} {B : Nat} {A : Option Addr} {n : Nat} {l : List Ac} (h : RdActs w B A n l) (hb : Below B w w') : RdActs w' B A n l := by
  refine ⟨h.1, fun i x hx => ?_⟩
  obtain ⟨g, off, e, hg, c0, c1, c2⟩ := h.2 i x hx
  exact ⟨g, off, e, hg, (hb.cell (p := ⟨g, _, none⟩) hg).trans c0, (hb.cell (p := ⟨g, _, none⟩) hg).trans c1, (hb.cell (p := ⟨g, _, none⟩) hg).trans c2⟩

theorem RdActs.of_own {w : World} {base : Nat} {A : Option Addr} {c : Nat} {l : List Ac} (h : w.ownsRow base 45 3 (.slice A l.length c) l.length (l.flatMap acCells)) : RdActs w w.heap.size A l.length l := by
  refine ⟨rfl, fun i x hx => ?_⟩
  have hl := (List.getElem?_eq_some_iff.1 hx).1
  obtain ⟨g, cap', hv, _, hg⟩ := h.form (by omega)
  injection hv with e1 e2 e3
  subst e1
  subst e3
  have f := fun j (hj : j < 3) => flat_get acCells 3 acCells_len l i j x hx hj
  refine ⟨g, 0, rfl, hg, ?_, ?_, ?_⟩
  · rw [h.cellAt _ (by omega)]; have := f 0 (by omega); rw [show 0 + i * 3 = i * 3 + 0 from by omega, this]; rfl
  · rw [h.cellAt _ (by omega)]; have := f 1 (by omega); rw [show 0 + i * 3 + 1 = i * 3 + 1 from by omega, this]; rfl
  · rw [h.cellAt _ (by omega)]; have := f 2 (by omega); rw [show 0 + i * 3 + 2 = i * 3 + 2 from by omega, this]; rfl

/-- The machine of 'windows' in memory. -/
structure WinIs (w0 w : World) (rb sb gl : Nat) (gc : Nat → Nat) (W L S : Int) (s : St) : Prop where
  r : Blk w rb 23 #[.int .i64 L, .int .i64 W, .int .i64 S]
  lim : Blk w gl 64 #[.int .i64 W, .int .i64 s.lk, .int .i64 s.ln, .int .i64 L, .int .i64 S]
  row : Blk w sb 38 #[.pointer (some ⟨gc 0, 0, none⟩), .pointer (some ⟨gc 1, 0, none⟩), .pointer (some ⟨gc 2, 0, none⟩)]
  cl : ∀ i, i < 3 → Blk w (gc i) 67 #[.int .i64 W, .int .i64 (s.c i).1, .int .i64 (s.c i).2]
  ne : ∀ i j, i < 3 → j < 3 → i ≠ j → gc i ≠ gc j
  from_ : w0.heap.size ≤ rb ∧ w0.heap.size ≤ sb ∧ w0.heap.size ≤ gl ∧ ∀ i, i < 3 → w0.heap.size ≤ gc i
  bel : Below w0.heap.size w0 w

def WinRel (w0 : World) (rb sb gl : Nat) (gc : Nat → Nat) (W L S : Int) (l : List Ac) (v i : Value) (wr : World) : Prop :=
  ∃ (j : Nat), j ≤ l.length ∧ i = .int .i64 j ∧ WinIs w0 wr rb sb gl gc W L S (run W L S (l.take j)) ∧ (run W L S (l.take j)).Fine L S j ∧
    wr.ownsRow w0.heap.size 58 4 v (run W L S (l.take j)).out.length ((run W L S (l.take j)).out.flatMap wnCells)

def WindowsIs (W L S : Int) (l : List Ac) (w : World) (e : Ending) (w' : World) : Prop :=
  ∃ v, e = .returned v ∧ w'.ownsRow w.heap.size 58 4 v (run W L S l).out.length ((run W L S l).out.flatMap wnCells) ∧ Below w.heap.size w w'

theorem Chg.drew {F : Nat → Prop} {a w : World} (h : Chg F a w) : Chg F a w.drew := ⟨h.os, h.tape, h.output, h.size, h.block⟩
theorem WinIs.drewN {w0 w : World} {rb sb gl : Nat} {gc : Nat → Nat} {W L S : Int} {s : St} (h : WinIs w0 w rb sb gl gc W L S s) (n : Nat) : WinIs w0 (w.drewN n) rb sb gl gc W L S s :=
  ⟨h.r, h.lim, h.row, h.cl, h.ne, h.from_, below_drewN h.bel n⟩
theorem info58 : (Try.prog.info? 58).map (fun i => (i.zero, i.size, i.bytes)) = some (some (.agg #[.int .i64 0, .int .i64 0, .int .i64 0, .bool false]), 4, 32) := by kernel_rfl
theorem wnCells_one (a : Wn) : ∀ u ∈ wnCells a, u.oneCell' = true := by
  intro u hu
  unfold wnCells at hu
  simp only [List.mem_cons, List.not_mem_nil, or_false] at hu
  rcases hu with rfl | rfl | rfl | rfl <;> rfl
theorem WinIs.chg {F : Nat → Prop} {w0 w w' : World} {rb sb gl : Nat} {gc : Nat → Nat} {W L S : Int} {s : St} (h : WinIs w0 w rb sb gl gc W L S s) (c : Chg F w w') (hr : ¬ F rb) (hl : ¬ F gl) (hs : ¬ F sb) (hg : ∀ i, i < 3 → ¬ F (gc i)) (hF : ∀ i, F i → w0.heap.size ≤ i) : WinIs w0 w' rb sb gl gc W L S s :=
  ⟨h.r.chg c hr, h.lim.chg c hl, h.row.chg c hs, fun i hi => (h.cl i hi).chg c (hg i hi), h.ne, h.from_, h.bel.trans (c.below hF h.bel.size)⟩
/-- Behind an append to the row of windows. -/
theorem WinIs.app {w0 w w' : World} {rb sb gl : Nat} {gc : Nat → Nat} {W L S : Int} {s : St} (h : WinIs w0 w rb sb gl gc W L S s) (o : Obj) {v : Value} {n : Nat} {xs : List Value} (hv : w.ownsRow w0.heap.size 58 4 v n xs)
    (c : Chg (fun i => v.ownBlock = some i) (w.alloc o) w') : WinIs w0 w' rb sb gl gc W L S s ∧ Below w0.heap.size w w' := by
  have hF : ∀ i, v.ownBlock = some i → w0.heap.size ≤ i := fun i hi => (hv.lt i hi).1
  have c2 : Chg (fun i => v.ownBlock = some i) w w' := ((Chg.refl _ w).alloc o).trans c
  exact ⟨h.chg c2 (own_blk_ne hv h.r (by decide)) (own_blk_ne hv h.lim (by decide)) (own_blk_ne hv h.row (by decide)) (fun i hi => own_blk_ne hv (h.cl i hi) (by decide)) hF, c2.below hF h.bel.size⟩
/-- The last element of a row of windows. -/
theorem own_last {w : World} {base n g cap : Nat} {D : List Wn} {y : Wn} (hn : n = D.length + 1) (h : w.ownsRow base 58 4 (.slice (some ⟨g, 0, none⟩) n cap) n ((D ++ [y]).flatMap wnCells)) :
    base ≤ g ∧ (∃ cs, Blk w g 58 cs) ∧ w.cell? ⟨g, (n - 1) * 4, none⟩ = some (.int .i64 y.k) ∧ w.cell? ⟨g, (n - 1) * 4 + 1, none⟩ = some (.int .i64 y.asked) ∧ w.cell? ⟨g, (n - 1) * 4 + 2, none⟩ = some (.int .i64 y.adm) ∧ w.cell? ⟨g, (n - 1) * 4 + 3, none⟩ = some (.bool y.forgot) := by
  subst hn
  rw [show D.length + 1 - 1 = D.length from rfl]
  obtain ⟨hl, ⟨h0, _⟩ | ⟨g', cap', cur, hv, h3, h4, h5, h6, h7, h8⟩⟩ := h
  · cases h0
  · injection hv with e1 e2 e3
    injection e1 with e1
    injection e1 with e1
    subst e1
    have hx : ∀ i, i < 4 → w.cell? ⟨g, D.length * 4 + i, none⟩ = (wnCells y)[i]? := by
      intro i hi
      have e1 := flat_get wnCells 4 wnCells_len (D ++ [y]) D.length i y (by simp) hi
      have e2 : w.cell? ⟨g, D.length * 4 + i, none⟩ = cur[D.length * 4 + i]? := cell_of_row w g _ cur 58 (0, 0) h4
      rw [e2, ← e1, ← h8, List.getElem?_take_of_lt (by omega), Array.getElem?_toList]
    exact ⟨h3, ⟨cur, h4⟩, hx 0 (by omega), hx 1 (by omega), hx 2 (by omega), hx 3 (by omega)⟩
theorem old_cell {w : World} {p : Addr} {u : Value} (h : w.cell? p = some u) (o : Obj) : (w.alloc o).cell? p = some u := (((Below.refl w.heap.size w).alloc (Nat.le_refl _) o).cell (World.block_lt_of_cell? _ _ h)).trans h
theorem far_cell {w : World} {p q : Addr} {u : Value} (h : w.cell? q = some u) (hne : q.block ≠ p.block) (v : Value) : (w.setCell p v).cell? q = some u := by
  rw [← h]
  unfold World.cell?
  rw [Below.heap_setCell w p v q.block hne]
theorem old_cell2 {w : World} {p : Addr} {u : Value} {o : Obj} (h : (w.alloc o).cell? p = some u) (hp : p.block < w.heap.size) (o' : Obj) : (w.alloc o').cell? p = some u := by
  rw [← h]
  unfold World.cell?
  rw [Below.heap_alloc w o p.block hp, Below.heap_alloc w o' p.block hp]
theorem own_some {w : World} {base e size n : Nat} {v : Value} {xs : List Value} (h : w.ownsRow base e size v n xs) (hn : 0 < n) : ∃ g cap, v = .slice (some ⟨g, 0, none⟩) n cap := by
  obtain ⟨g, cap, hv, _⟩ := h.form hn
  exact ⟨g, cap, hv⟩

theorem Chg.set {F : Nat → Prop} {a w : World} (h : Chg F a w) (g i : Nat) (hg : F g ∨ a.heap.size ≤ g) (u : Value) : Chg F a (w.setCell ⟨g, i, none⟩ u) :=
  ⟨h.os, h.tape, h.output, by rw [World.size_setCell]; exact h.size, fun k hk hn => (Below.heap_setCell w ⟨g, i, none⟩ u k (by
    rintro rfl
    rcases hg with hg | hg
    · exact hn hg
    · omega)).trans (h.block k hk hn)⟩
/-- The last window turned. -/
theorem own_put {w w' : World} {base n g cap : Nat} {D : List Wn} {y y' : Wn} {cs : Array Value} (hn : n = D.length + 1) (h : w.ownsRow base 58 4 (.slice (some ⟨g, 0, none⟩) n cap) n ((D ++ [y]).flatMap wnCells)) (hb : Blk w g 58 cs)
    (hb' : Blk w' g 58 ((((cs.setIfInBounds ((n - 1) * 4) (.int .i64 y'.k)).setIfInBounds ((n - 1) * 4 + 1) (.int .i64 y'.asked)).setIfInBounds ((n - 1) * 4 + 2) (.int .i64 y'.adm)).setIfInBounds ((n - 1) * 4 + 3) (.bool y'.forgot))) :
    w'.ownsRow base 58 4 (.slice (some ⟨g, 0, none⟩) n cap) n ((D ++ [y']).flatMap wnCells) := by
  subst hn
  obtain ⟨hl, ⟨h0, _⟩ | ⟨g', cap', cur, hv, h3, h4, h5, h6, h7, h8⟩⟩ := h
  · cases h0
  · injection hv with e1 e2 e3
    injection e1 with e1
    injection e1 with e1
    subst e1
    subst e3
    have hcc : cur = cs := by
      unfold Blk at hb
      rw [hb] at h4
      injection h4 with h4
      injection h4 with h4
      exact h4.symm
    subst hcc
    have flen := flat_len wnCells 4 wnCells_len
    refine ⟨by rw [flen]; simp, .inr ⟨g, cap, _, rfl, h3, hb', h5, h6, by simpa using h7, ?_⟩⟩
    rw [show D.length + 1 - 1 = D.length from rfl]
    rw [List.flatMap_append] at h8 ⊢
    have hD : cur.toList.take (D.length * 4) = D.flatMap wnCells := by
      have h9 := congrArg (List.take (D.length * 4)) h8
      rw [List.take_take, List.take_left' (flen D)] at h9
      rw [← h9, Nat.min_eq_left (by omega)]
    apply List.ext_getElem?
    intro i
    rw [List.getElem?_take]
    split
    · rename_i hi
      rw [Array.getElem?_toList]
      rcases Nat.lt_or_ge i (D.length * 4) with h1 | h1
      · rw [List.getElem?_append_left (by rw [flen]; exact h1), ← hD, List.getElem?_take_of_lt h1, Array.getElem?_toList]
        simp only [Array.getElem?_setIfInBounds]
        repeat rw [if_neg (by omega)]
      · rw [List.getElem?_append_right (by rw [flen]; exact h1), flen]
        obtain ⟨j, rfl⟩ : ∃ j, i = D.length * 4 + j := ⟨i - D.length * 4, by omega⟩
        rw [show D.length * 4 + j - D.length * 4 = j from by omega]
        have hsz : D.length * 4 + 4 ≤ cur.size := by omega
        have hj : j < 4 := by omega
        simp only [List.flatMap_cons, List.flatMap_nil, List.append_nil, wnCells, Array.getElem?_setIfInBounds, Array.size_setIfInBounds]
        match j, hj with
        | 0, _ => simp; omega
        | 1, _ => simp; omega
        | 2, _ => simp; omega
        | 3, _ => simp; omega
    · rename_i hi
      rw [eq_comm, List.getElem?_eq_none]
      rw [List.length_append, flen, flen]
      simp
      omega
/-- A round's end. -/
theorem WinIs.next {w0 w w' : World} {rb sb gl g b : Nat} {gc : Nat → Nat} {W L S : Int} {s s' : St} (h : WinIs w0 w rb sb gl gc W L S s) {cs : Array Value} (hcs : Blk w g 58 cs) (hg : w0.heap.size ≤ g) (hb : b < 3)
    (c : Chg (fun i => (i = gl ∨ i = gc b) ∨ i = g) w w') (hl : Blk w' gl 64 #[.int .i64 W, .int .i64 s'.lk, .int .i64 s'.ln, .int .i64 L, .int .i64 S]) (hc : Blk w' (gc b) 67 #[.int .i64 W, .int .i64 (s'.c b).1, .int .i64 (s'.c b).2])
    (hs : ∀ i, i ≠ b → s'.c i = s.c i) : WinIs w0 w' rb sb gl gc W L S s' := by
  obtain ⟨f1, f2, f3, f4⟩ := h.from_
  refine ⟨h.r.chg c ?_, hl, h.row.chg c ?_, ?_, h.ne, h.from_, h.bel.trans (c.below ?_ h.bel.size)⟩
  · rintro ((hh | hh) | hh)
    · exact h.r.ne_ h.lim (by decide) hh
    · exact h.r.ne_ (h.cl b hb) (by decide) hh
    · exact h.r.ne_ hcs (by decide) hh
  · rintro ((hh | hh) | hh)
    · exact h.row.ne_ h.lim (by decide) hh
    · exact h.row.ne_ (h.cl b hb) (by decide) hh
    · exact h.row.ne_ hcs (by decide) hh
  · intro i hi
    by_cases hib : i = b
    · subst hib
      exact hc
    · rw [hs i hib]
      refine (h.cl i hi).chg c ?_
      rintro ((hh | hh) | hh)
      · exact (h.cl i hi).ne_ h.lim (by decide) hh
      · exact h.ne i b hi hb hib hh
      · exact (h.cl i hi).ne_ hcs (by decide) hh
  · rintro i ((rfl | rfl) | rfl)
    · exact f3
    · exact f4 b hb
    · exact hg

theorem run_take {W L S : Int} {l : List Ac} {j : Nat} {x : Ac} (hx : l[j]? = some x) : run W L S (l.take (j + 1)) = (run W L S (l.take j)).step W L S x := by
  obtain ⟨h, e⟩ := List.getElem?_eq_some_iff.1 hx
  unfold run
  rw [List.take_succ_eq_append_getElem h, List.foldl_append, e]
  rfl

theorem win_end {w0 WF : World} {rb sb gl : Nat} {gc : Nat → Nat} {W L S lk ln : Int} {cc : Nat → Int × Int} {l : List Ac} {D : List Wn} {y' : Wn} {v i : Value} {n j : Nat} {x : Ac} {s : St} (hx : l[j]? = some x) (hs : run W L S (l.take j) = s)
    (hstep : s.step W L S x = ⟨lk, ln, cc, D, some y'⟩) (fine : s.Fine L S j) (hS : 1 ≤ S) (hL : 1 ≤ L) (is : WinIs w0 WF rb sb gl gc W L S ⟨lk, ln, cc, D, some y'⟩) (hn : n = D.length + 1)
    (own : WF.ownsRow w0.heap.size 58 4 v n ((D ++ [y']).flatMap wnCells)) (hi : i = .int .i64 ((j + 1 : Nat) : Int)) : WinRel w0 rb sb gl gc W L S l v i WF := by
  have hlt := (List.getElem?_eq_some_iff.1 hx).1
  have e := run_take (W := W) (L := L) (S := S) hx
  have fs := fine.step (W := W) x hS hL
  rw [hs, hstep] at e
  rw [hstep] at fs
  refine ⟨j + 1, hlt, hi, by rw [e]; exact is, by rw [e]; exact fs, ?_⟩
  rw [e]
  have ho : (⟨lk, ln, cc, D, some y'⟩ : St).out = D ++ [y'] := rfl
  have hl : (D ++ [y']).length = n := by rw [hn]; simp
  rw [ho, hl]
  exact own

theorem win_put {w0 w wx : World} {rb sb gl g b cap : Nat} {gc : Nat → Nat} {W L S lk ln : Int} {cc : Nat → Int × Int} {l : List Ac} {D : List Wn} {y y' : Wn} {i : Value} {n j : Nat} {x : Ac} {s : St} {cs : Array Value}
    (is : WinIs w0 w rb sb gl gc W L S s) (hcs : Blk w g 58 cs) (hg : w0.heap.size ≤ g) (hb : b < 3) (chg : Chg (fun i => (i = gl ∨ i = gc b) ∨ i = g) w wx)
    (hl : Blk wx gl 64 #[.int .i64 W, .int .i64 lk, .int .i64 ln, .int .i64 L, .int .i64 S]) (hc : Blk wx (gc b) 67 #[.int .i64 W, .int .i64 (cc b).1, .int .i64 (cc b).2]) (hrow : Blk wx g 58 cs) (hcc : ∀ i, i ≠ b → cc i = s.c i)
    (hx : l[j]? = some x) (hs : run W L S (l.take j) = s) (hstep : s.step W L S x = ⟨lk, ln, cc, D, some y'⟩) (fine : s.Fine L S j) (hS : 1 ≤ S) (hL : 1 ≤ L) (hn : n = D.length + 1)
    (own : w.ownsRow w0.heap.size 58 4 (.slice (some ⟨g, 0, none⟩) n cap) n ((D ++ [y]).flatMap wnCells)) (hi : i = .int .i64 ((j + 1 : Nat) : Int)) :
    WinRel w0 rb sb gl gc W L S l (.slice (some ⟨g, 0, none⟩) n cap) i ((((wx.setCell ⟨g, (n - 1) * 4, none⟩ (.int .i64 y'.k)).setCell ⟨g, (n - 1) * 4 + 1, none⟩ (.int .i64 y'.asked)).setCell ⟨g, (n - 1) * 4 + 2, none⟩ (.int .i64 y'.adm)).setCell ⟨g, (n - 1) * 4 + 3, none⟩ (.bool y'.forgot)) := by
  have glg : gl ≠ g := is.lim.ne_ hcs (by decide)
  have ccg : gc b ≠ g := (is.cl b hb).ne_ hcs (by decide)
  have chg2 := (((chg.set g ((n - 1) * 4) (.inl (.inr rfl)) (.int .i64 y'.k)).set g ((n - 1) * 4 + 1) (.inl (.inr rfl)) (.int .i64 y'.asked)).set g ((n - 1) * 4 + 2) (.inl (.inr rfl)) (.int .i64 y'.adm)).set g ((n - 1) * 4 + 3) (.inl (.inr rfl)) (.bool y'.forgot)
  have lim3 := (((hl.far (p := ⟨g, (n - 1) * 4, none⟩) glg (.int .i64 y'.k)).far (p := ⟨g, (n - 1) * 4 + 1, none⟩) glg (.int .i64 y'.asked)).far (p := ⟨g, (n - 1) * 4 + 2, none⟩) glg (.int .i64 y'.adm)).far (p := ⟨g, (n - 1) * 4 + 3, none⟩) glg (.bool y'.forgot)
  have cl3 := (((hc.far (p := ⟨g, (n - 1) * 4, none⟩) ccg (.int .i64 y'.k)).far (p := ⟨g, (n - 1) * 4 + 1, none⟩) ccg (.int .i64 y'.asked)).far (p := ⟨g, (n - 1) * 4 + 2, none⟩) ccg (.int .i64 y'.adm)).far (p := ⟨g, (n - 1) * 4 + 3, none⟩) ccg (.bool y'.forgot)
  have row3 := (((hrow.set_ ((n - 1) * 4) (.int .i64 y'.k)).set_ ((n - 1) * 4 + 1) (.int .i64 y'.asked)).set_ ((n - 1) * 4 + 2) (.int .i64 y'.adm)).set_ ((n - 1) * 4 + 3) (.bool y'.forgot)
  exact win_end hx hs hstep fine hS hL (WinIs.next is hcs hg (b := b) hb chg2 lim3 cl3 hcc) hn (own_put (y' := y') hn own hcs row3) hi

set_option maxHeartbeats 20000000 in
theorem windows_any (W L S : Int) (A : Option Addr) (c : Nat) (l : List Ac) (w : World) (ha : RdActs w w.heap.size A l.length l) (hg : GoodActs l) (hL1 : 1 ≤ L) (hL2 : L ≤ 12) (hW1 : 1 ≤ W) (hW2 : W ≤ 9) (hS1 : 1 ≤ S) (hS2 : S ≤ L) :
    Calls Try.prog 28 #[.agg #[.int .i64 L, .int .i64 W, .int .i64 S], .slice A l.length c] w (WindowsIs W L S l w) := by
  have HA := Lib.hid ha
  have HG := Lib.hid hg
  clear ha hg
  go_enter Try.func28, Try.ntmps28
  go_wp2_with fail
  refine (limiter_new L W S _).mono ?_
  rintro e w1 ⟨gl, hgl, rfl, b1, l1⟩
  have r1 := (Blk.new w 23 #[.int .i64 L, .int .i64 W, .int .i64 S]).below l1 (by simp)
  have B1 := Lib.hid b1
  have R1 := Lib.hid r1
  have L1 := Lib.hid (below_next (below_alloc (Below.refl w.heap.size w) _) l1)
  have HGL : Hid (w.heap.size ≤ gl) := by
    rw [World.size_alloc] at hgl
    show w.heap.size ≤ gl
    omega
  have HRB : Hid (w.heap.size ≤ w.heap.size) := Nat.le_refl _
  clear hgl b1 r1 l1
  generalize hrb : w.heap.size = rb at R1 ⊢
  have HRE := Lib.hid hrb
  clear hrb
  go_wp2_with fail
  have RD := Lib.hid R1.out.drew
  have B1D := Lib.hid B1.out.drew
  have L1D : Hid (Below w.heap.size w w1.drew) := L1.out.drew
  have tok0 : True := trivial
  have tok1 : True := trivial
  have tok2 : True := trivial
  go_region_held3 (fun w' => w'.cell? ⟨rb, 0, none⟩ = some (.int .i64 L) ∧ w'.cell? ⟨rb, 1, none⟩ = some (.int .i64 W) ∧ w'.cell? ⟨rb, 2, none⟩ = some (.int .i64 S))
    (first | exact ⟨(Hid.out ‹Hid (Blk _ rb 23 _)›).cell 0, (Hid.out ‹Hid (Blk _ rb 23 _)›).cell 1, (Hid.out ‹Hid (Blk _ rb 23 _)›).cell 2⟩ | exact ⟨(Blk.alloc (Hid.out ‹Hid (Blk _ rb 23 _)›) _).cell 0, (Blk.alloc (Hid.out ‹Hid (Blk _ rb 23 _)›) _).cell 1, (Blk.alloc (Hid.out ‹Hid (Blk _ rb 23 _)›) _).cell 2⟩)
    (first | (go_at_call 20; have _t := tok0; (with_reducible refine (client_new L W S _).mono ?_); rintro e wa ⟨g0, hg0, rfl, b0, l0⟩; have RA := Lib.hid (RD.out.below l0 RD.out.lt); have BA := Lib.hid (B1D.out.below l0 B1D.out.lt); have LA := Lib.hid (below_next L1D.out l0); have C0A := Lib.hid b0; have H0 := Lib.hid hg0; clear hg0 b0 l0 tok0) | (go_at_call 20; have _t := tok1; (with_reducible refine (client_new L W S _).mono ?_); rintro e wb ⟨g1, hg1, rfl, b1, l1⟩; have RB := Lib.hid (RA.out.below l1 RA.out.lt); have BB := Lib.hid (BA.out.below l1 BA.out.lt); have LB := Lib.hid (below_next LA.out l1); have C0B := Lib.hid (C0A.out.below l1 C0A.out.lt); have C1B := Lib.hid b1; have H1 := Lib.hid hg1; clear hg1 b1 l1 tok1) | (go_at_call 20; have _t := tok2; (with_reducible refine (client_new L W S _).mono ?_); rintro e wc ⟨g2, hg2, rfl, b2, l2⟩; have RC := Lib.hid (RB.out.below l2 RB.out.lt); have BC := Lib.hid (BB.out.below l2 BB.out.lt); have LC := Lib.hid (below_next LB.out l2); have C0C := Lib.hid (C0B.out.below l2 C0B.out.lt); have C1C := Lib.hid (C1B.out.below l2 C1B.out.lt); have C2C := Lib.hid b2; have H2 := Lib.hid hg2; clear hg2 b2 l2 tok2))
  rename_i hHeld
  clear hHeld
  have RW := Lib.hid (Blk.new wc 38 #[.pointer (some ⟨g0, 0, none⟩), .pointer (some ⟨g1, 0, none⟩), .pointer (some ⟨g2, 0, none⟩)])
  have HIS : Hid (∃ gc : Nat → Nat, WinIs w (wc.alloc (.cells #[.pointer (some ⟨g0, 0, none⟩), .pointer (some ⟨g1, 0, none⟩), .pointer (some ⟨g2, 0, none⟩)] 38)) rb wc.heap.size gl gc W L S St.start) := by
    have a0 := C0A.out.lt
    have a1 := C1B.out.lt
    have h1 := H1.out
    have h2 := H2.out
    have h0 := H0.out
    have s1 := L1D.out.size
    have s2 := LA.out.size
    have s3 := LB.out.size
    have s4 := LC.out.size
    refine ⟨fun i => if i = 0 then g0 else if i = 1 then g1 else g2, RC.out.alloc _, BC.out.alloc _, RW.out, ?_, ?_, ⟨by have := HRE.out; omega, by omega, HGL.out, ?_⟩, below_alloc LC.out _⟩
    · intro i hi
      show Blk _ (if i = 0 then g0 else if i = 1 then g1 else g2) _ _
      split
      · exact C0C.out.alloc _
      · split
        · exact C1C.out.alloc _
        · exact C2C.out.alloc _
    · intro i j hi hj hij
      show (if i = 0 then g0 else if i = 1 then g1 else g2) ≠ (if j = 0 then g0 else if j = 1 then g1 else g2)
      split <;> split <;> (try split) <;> (try split) <;> omega
    · intro i hi
      show _ ≤ (if i = 0 then g0 else if i = 1 then g1 else g2)
      split
      · omega
      · split <;> omega
  clear RD B1D L1D RA BA LA C0A H0 RB BB LB C0B C1B H1 RC BC LC C0C C1C C2C H2 RW HRB HRE HGL B1 L1 R1
  obtain ⟨gc, his⟩ := HIS.out
  have HIS2 := Lib.hid his
  clear his HIS
  generalize wc.alloc (.cells #[.pointer (some ⟨g0, 0, none⟩), .pointer (some ⟨g1, 0, none⟩), .pointer (some ⟨g2, 0, none⟩)] 38) = wd at *
  generalize wc.heap.size = sb at *
  go_wp2_with fail
  go_loopw [7, 8] (fun v i wr => WinRel w rb sb gl gc W L S l v i wr) (fun _ i _ => l.length - (intOf i).toNat)
  case atStart => exact ⟨0, Nat.zero_le _, rfl, HIS2.out, St.Fine.start L S hL1 hS1, World.ownsRow_nil _ _ _ _⟩
  case round =>
    clear HIS2
    obtain ⟨j, hj, rfl, his, fine, own⟩ := hrel
    have IS := Lib.hid his
    have FINE := Lib.hid fine
    have OWN := Lib.hid own
    clear his fine own
    by_cases hlt : j < l.length
    · obtain ⟨x, hx⟩ : ∃ x, l[j]? = some x := ⟨_, List.getElem?_eq_getElem hlt⟩
      have hlen := HG.out.few
      have hmem := List.mem_of_getElem? hx
      have gx1 := HG.out.at0 x hmem
      have gx2 := HG.out.at1 x hmem
      have gx3 := HG.out.by0 x hmem
      have gx4 := HG.out.by1 x hmem
      have gx5 := HG.out.do_ x hmem
      obtain ⟨ga, off, rfl, hga, a0, a1, a2⟩ := (HA.out.below IS.out.bel).2 j x hx
      have r1 := IS.out.r.cell 1
      simp only [List.getElem?_toArray, List.getElem?_cons_zero, List.getElem?_cons_succ] at r1
      have HX := Lib.hid hx
      have HGA := Lib.hid hga
      have G5 := Lib.hid gx5
      clear hx hmem hga gx5
      generalize hs : run W L S (List.take j l) = s at IS FINE OWN
      have HS := Lib.hid hs
      generalize hk : x.at_ / W = k
      have HK := Lib.hid hk
      clear hs hk
      by_cases hdo : x.do_ = 2
      · have hdo2 : (x.do_ == 2) = true := by simpa using hdo
        have HDO := Lib.hid hdo
        clear hdo
        rcases hl : s.last with _ | y
        have hd := FINE.out.nil hl
        have ho : s.out = [] := by unfold St.out; rw [hl, hd]; rfl
        have own2 := OWN.out
        rw [ho] at own2
        simp only [List.length_nil, List.flatMap_nil] at own2
        obtain ⟨A, cap, rfl⟩ := own_form own2
        have OPN : Hid (s.opened k = ([], ⟨k, 0, 0, false⟩)) := by show s.opened k = _; unfold St.opened; rw [hl, hd]
        clear OWN
        have OWN := Lib.hid own2
        clear own2 hl hd ho
        go_wp2_with fail
        go_quiet (fail)
        rw [HK.out]
        have IS3 := Lib.hid (IS.out.drewN nq)
        have OW0 : Hid ((wr.drewN nq).ownsRow w.heap.size 58 4 (.slice A 0 cap) 0 ([])) := own_keep (w' := wr.drewN nq) OWN.out (fun _ _ => rfl)
        have a0 : (wr.drewN nq).cell? ⟨ga, off + j * 3, none⟩ = _ := a0
        have a1 : (wr.drewN nq).cell? ⟨ga, off + j * 3 + 1, none⟩ = _ := a1
        have a2 : (wr.drewN nq).cell? ⟨ga, off + j * 3 + 2, none⟩ = _ := a2
        have HSZ : wr.heap.size = (wr.drewN nq).heap.size := rfl
        clear IS OWN
        generalize wr.drewN nq = W1 at *
        (try rw [HSZ])
        clear HSZ
        have NC : Hid (∀ j u, (wnCells ⟨k, 0, 0, false⟩)[j]? = some u → (W1.alloc (.cells #[.int .i64 k, .int .i64 0, .int .i64 0, .bool false] 58)).cell? ((⟨W1.heap.size, 0, none⟩ : Addr).add j) = some u) := new_cells W1 58 (wnCells ⟨k, 0, 0, false⟩)
        have OWA := Lib.hid (OW0.out.alloc (.cells #[.int .i64 k, .int .i64 0, .int .i64 0, .bool false] 58))
        have SZ : Hid (w.heap.size ≤ (W1.alloc (.cells #[.int .i64 k, .int .i64 0, .int .i64 0, .bool false] 58)).heap.size) := (below_alloc IS3.out.bel _).size
        go_wp2_with (
          at_builtin
          refine wpList_pushn _ rfl (.tmp 48) (.tmp 51) 55 58 rfl Try.underlying55 _ 4 32 info58 rfl (by omega) (by omega) w.heap.size (.slice A 0 cap) 0 ([]) rfl OWA.out (by omega) ⟨W1.heap.size, 0, none⟩ 1 (wnCells ⟨k, 0, 0, false⟩) rfl rfl NC.out (wnCells_one _) SZ.out ?_
          intro v2 W2 r2 ch2 nn2
          obtain ⟨g, cap, rfl⟩ := own_some r2 (by omega)
          obtain ⟨is3, b12⟩ := WinIs.app IS3.out _ OW0.out ch2
          have a0 : W2.cell? ⟨ga, off + j * 3, none⟩ = _ := (b12.cell (p := ⟨ga, _, none⟩) HGA.out).trans a0
          have a1 : W2.cell? ⟨ga, off + j * 3 + 1, none⟩ = _ := (b12.cell (p := ⟨ga, _, none⟩) HGA.out).trans a1
          have a2 : W2.cell? ⟨ga, off + j * 3 + 2, none⟩ = _ := (b12.cell (p := ⟨ga, _, none⟩) HGA.out).trans a2
          clear IS3
          have IS3 := Lib.hid is3
          obtain ⟨y, hy⟩ : ∃ y : Wn, y = ⟨k, 0, 0, false⟩ := ⟨_, rfl⟩
          have HY : Hid (0 ≤ y.asked ∧ y.asked ≤ j ∧ 0 ≤ y.adm ∧ y.adm ≤ j) := by rw [hy]; show _ ∧ _; simp only; omega
          obtain ⟨D, hD⟩ : ∃ D : List Wn, D = [] := ⟨_, rfl⟩
          have OPN : Hid (s.opened k = (D, y)) := by rw [hD, hy]; exact OPN
          have OW3 : Hid (W2.ownsRow w.heap.size 58 4 (.slice (some ⟨g, 0, none⟩) (0 + 1) cap) (0 + 1) ((D ++ [y]).flatMap wnCells)) := by rw [hD, hy]; show W2.ownsRow _ _ _ _ _ _; simpa using r2
          have HN : Hid (0 + 1 = D.length + 1) := by rw [hD]; rfl
          have hn2 : 0 + 1 ≤ 100 := by omega
          generalize 0 + 1 = n at OW3 HN hn2 ⊢
          obtain ⟨hbg, ⟨cs, hcs⟩, c0, c1, c2, c3⟩ := own_last HN.out OW3.out
          have HBG := Lib.hid hbg
          have HCS := Lib.hid hcs
          have hn1 : 1 ≤ n := by have := HN.out; omega
          obtain ⟨hy0, hy1, hy2, hy3⟩ := HY.out
          have e0 := old_cell a0 (.cells #[.int .i64 y.k, .int .i64 y.asked, .int .i64 y.adm, .bool y.forgot] 58)
          have e1 := old_cell a1 (.cells #[.int .i64 y.k, .int .i64 y.asked, .int .i64 y.adm, .bool y.forgot] 58)
          have e2 := old_cell a2 (.cells #[.int .i64 y.k, .int .i64 y.asked, .int .i64 y.adm, .bool y.forgot] 58)
          clear a0 a1 a2
          clear hbg hcs is3 b12 hy r2 ch2 nn2 NC OWA OW0 SZ hD)
        rotate_left 1
        have ho : s.out.length = s.done.length + 1 := by unfold St.out; rw [hl]; simp
        have ho2 : s.out = s.done ++ [y] := by unfold St.out; rw [hl]; rfl
        have own2 := OWN.out
        obtain ⟨n, hn⟩ : ∃ n, n = s.out.length := ⟨_, rfl⟩
        have hfew : n ≤ 60 := by have := FINE.out.few; have := HG.out.few; omega
        have hn1 : 1 ≤ n := by omega
        rw [← hn] at own2 ho
        rw [ho2] at own2
        clear hn
        obtain ⟨g, cap, rfl⟩ := own_some own2 (by omega)
        obtain ⟨hbg, ⟨cs, hcs⟩, c0, c1, c2, c3⟩ := own_last ho own2
        have HN := Lib.hid ho
        have HL := Lib.hid hl
        clear OWN
        have OWN := Lib.hid own2
        have HBG := Lib.hid hbg
        have HCS := Lib.hid hcs
        clear own2 hl ho ho2 hbg hcs
        have hne0 : ((n : Int) == 0) = false := by simp; omega
        by_cases hyk : y.k = k
        have OPN : Hid (s.opened k = (s.done, y)) := by show s.opened k = _; unfold St.opened; rw [HL.out]; simp only; rw [if_pos hyk]
        have HY : Hid (0 ≤ y.asked ∧ y.asked ≤ j ∧ 0 ≤ y.adm ∧ y.adm ≤ j) := FINE.out.wn y HL.out
        have hyk2 : (y.k == k) = true := by simpa using hyk
        clear hyk HL
        obtain ⟨D, hD⟩ : ∃ D : List Wn, D = s.done := ⟨_, rfl⟩
        rw [← hD] at OPN OWN HN
        clear hD
        go_wp2_with fail
        go_quiet (fail)
        rw [HK.out]
        have IS3 := Lib.hid (IS.out.drewN nq)
        have OW0 : Hid ((wr.drewN nq).ownsRow w.heap.size 58 4 (.slice (some ⟨g, 0, none⟩) n cap) n ((D ++ [y]).flatMap wnCells)) := own_keep (w' := wr.drewN nq) OWN.out (fun _ _ => rfl)
        have a0 : (wr.drewN nq).cell? ⟨ga, off + j * 3, none⟩ = _ := a0
        have a1 : (wr.drewN nq).cell? ⟨ga, off + j * 3 + 1, none⟩ = _ := a1
        have a2 : (wr.drewN nq).cell? ⟨ga, off + j * 3 + 2, none⟩ = _ := a2
        have c0 : (wr.drewN nq).cell? ⟨g, (n - 1) * 4, none⟩ = _ := c0
        have c1 : (wr.drewN nq).cell? ⟨g, (n - 1) * 4 + 1, none⟩ = _ := c1
        have c2 : (wr.drewN nq).cell? ⟨g, (n - 1) * 4 + 2, none⟩ = _ := c2
        have c3 : (wr.drewN nq).cell? ⟨g, (n - 1) * 4 + 3, none⟩ = _ := c3
        have HCS : Hid (Blk (wr.drewN nq) g 58 cs) := HCS.out.drewN nq
        have HSZ : wr.heap.size = (wr.drewN nq).heap.size := rfl
        clear IS OWN
        generalize wr.drewN nq = W2 at *
        (try rw [HSZ])
        clear HSZ
        have OW3 := OW0
        obtain ⟨hy0, hy1, hy2, hy3⟩ := HY.out
        have e0 := old_cell a0 (.cells #[.int .i64 y.k, .int .i64 y.asked, .int .i64 y.adm, .bool y.forgot] 58)
        have e1 := old_cell a1 (.cells #[.int .i64 y.k, .int .i64 y.asked, .int .i64 y.adm, .bool y.forgot] 58)
        have e2 := old_cell a2 (.cells #[.int .i64 y.k, .int .i64 y.asked, .int .i64 y.adm, .bool y.forgot] 58)
        clear a0 a1 a2
        clear OW0
        go_wp2_with fail
        rotate_left 1
        have OPN : Hid (s.opened k = (s.done ++ [y], ⟨k, 0, 0, false⟩)) := by show s.opened k = _; unfold St.opened; rw [HL.out]; simp only; rw [if_neg hyk]
        have hyk2 : (y.k == k) = false := by simpa using hyk
        clear hyk HL
        obtain ⟨D, hD⟩ : ∃ D : List Wn, D = s.done ++ [y] := ⟨_, rfl⟩
        have HN2 : Hid (n + 1 = D.length + 1) := by rw [hD]; have := HN.out; show n + 1 = _; simp; omega
        rw [← hD] at OPN OWN
        clear hD
        go_wp2_with fail
        go_quiet (fail)
        rw [HK.out]
        have IS3 := Lib.hid (IS.out.drewN nq)
        have OW0 : Hid ((wr.drewN nq).ownsRow w.heap.size 58 4 (.slice (some ⟨g, 0, none⟩) n cap) n (D.flatMap wnCells)) := own_keep (w' := wr.drewN nq) OWN.out (fun _ _ => rfl)
        have a0 : (wr.drewN nq).cell? ⟨ga, off + j * 3, none⟩ = _ := a0
        have a1 : (wr.drewN nq).cell? ⟨ga, off + j * 3 + 1, none⟩ = _ := a1
        have a2 : (wr.drewN nq).cell? ⟨ga, off + j * 3 + 2, none⟩ = _ := a2
        have c0 : (wr.drewN nq).cell? ⟨g, (n - 1) * 4, none⟩ = _ := c0
        have c1 : (wr.drewN nq).cell? ⟨g, (n - 1) * 4 + 1, none⟩ = _ := c1
        have c2 : (wr.drewN nq).cell? ⟨g, (n - 1) * 4 + 2, none⟩ = _ := c2
        have c3 : (wr.drewN nq).cell? ⟨g, (n - 1) * 4 + 3, none⟩ = _ := c3
        clear HCS HBG
        have HSZ : wr.heap.size = (wr.drewN nq).heap.size := rfl
        clear IS OWN
        generalize wr.drewN nq = W1 at *
        (try rw [HSZ])
        clear HSZ
        have NC : Hid (∀ j u, (wnCells ⟨k, 0, 0, false⟩)[j]? = some u → (W1.alloc (.cells #[.int .i64 k, .int .i64 0, .int .i64 0, .bool false] 58)).cell? ((⟨W1.heap.size, 0, none⟩ : Addr).add j) = some u) := new_cells W1 58 (wnCells ⟨k, 0, 0, false⟩)
        have OWA := Lib.hid (OW0.out.alloc (.cells #[.int .i64 k, .int .i64 0, .int .i64 0, .bool false] 58))
        have SZ : Hid (w.heap.size ≤ (W1.alloc (.cells #[.int .i64 k, .int .i64 0, .int .i64 0, .bool false] 58)).heap.size) := (below_alloc IS3.out.bel _).size
        go_wp2_with (
          at_builtin
          refine wpList_pushn _ rfl (.tmp 48) (.tmp 51) 55 58 rfl Try.underlying55 _ 4 32 info58 rfl (by omega) (by omega) w.heap.size (.slice (some ⟨g, 0, none⟩) n cap) n (D.flatMap wnCells) rfl OWA.out (by omega) ⟨W1.heap.size, 0, none⟩ 1 (wnCells ⟨k, 0, 0, false⟩) rfl rfl NC.out (wnCells_one _) SZ.out ?_
          intro v2 W2 r2 ch2 nn2
          obtain ⟨g, cap, rfl⟩ := own_some r2 (by omega)
          obtain ⟨is3, b12⟩ := WinIs.app IS3.out _ OW0.out ch2
          have a0 : W2.cell? ⟨ga, off + j * 3, none⟩ = _ := (b12.cell (p := ⟨ga, _, none⟩) HGA.out).trans a0
          have a1 : W2.cell? ⟨ga, off + j * 3 + 1, none⟩ = _ := (b12.cell (p := ⟨ga, _, none⟩) HGA.out).trans a1
          have a2 : W2.cell? ⟨ga, off + j * 3 + 2, none⟩ = _ := (b12.cell (p := ⟨ga, _, none⟩) HGA.out).trans a2
          clear IS3
          have IS3 := Lib.hid is3
          obtain ⟨y, hy⟩ : ∃ y : Wn, y = ⟨k, 0, 0, false⟩ := ⟨_, rfl⟩
          have HY : Hid (0 ≤ y.asked ∧ y.asked ≤ j ∧ 0 ≤ y.adm ∧ y.adm ≤ j) := by rw [hy]; show _ ∧ _; simp only; omega
          have OPN : Hid (s.opened k = (D, y)) := by rw [hy]; exact OPN
          have OW3 : Hid (W2.ownsRow w.heap.size 58 4 (.slice (some ⟨g, 0, none⟩) (n + 1) cap) (n + 1) ((D ++ [y]).flatMap wnCells)) := by rw [hy]; show W2.ownsRow _ _ _ _ _ _; simpa using r2
          clear HN
          have HN := HN2
          clear HN2
          have hn2 : n + 1 ≤ 100 := by omega
          generalize n + 1 = n at OW3 HN hn2 ⊢
          obtain ⟨hbg, ⟨cs, hcs⟩, c0, c1, c2, c3⟩ := own_last HN.out OW3.out
          have HBG := Lib.hid hbg
          have HCS := Lib.hid hcs
          have hn1 : 1 ≤ n := by have := HN.out; omega
          obtain ⟨hy0, hy1, hy2, hy3⟩ := HY.out
          have e0 := old_cell a0 (.cells #[.int .i64 y.k, .int .i64 y.asked, .int .i64 y.adm, .bool y.forgot] 58)
          have e1 := old_cell a1 (.cells #[.int .i64 y.k, .int .i64 y.asked, .int .i64 y.adm, .bool y.forgot] 58)
          have e2 := old_cell a2 (.cells #[.int .i64 y.k, .int .i64 y.asked, .int .i64 y.adm, .bool y.forgot] 58)
          clear a0 a1 a2
          clear hbg hcs is3 b12 hy r2 ch2 nn2 NC OWA OW0 SZ)
        all_goals (
          have lim2 := IS3.out.lim.alloc (.cells #[.int .i64 y.k, .int .i64 y.asked, .int .i64 y.adm, .bool y.forgot] 58)
          have NB := Lib.hid (Blk.new W2 58 #[.int .i64 y.k, .int .i64 y.asked, .int .i64 y.adm, .bool y.forgot])
          have hpl : W2.heap.size ≠ gl := by have := IS3.out.lim.lt; omega
          have hpg : g ≠ W2.heap.size := by have := HCS.out.lt; omega
          have hpg2 : W2.heap.size ≠ g := Ne.symm hpg
          have hlg : g ≠ gl := HCS.out.ne_ IS3.out.lim (by decide)
          have CH0 := Lib.hid ((Chg.refl (fun i => (i = gl ∨ i = gc 0) ∨ i = g) W2).alloc (.cells #[.int .i64 y.k, .int .i64 y.asked, .int .i64 y.adm, .bool y.forgot] 58))
          have HPS : Hid (W2.heap.size ≤ W2.heap.size) := Nat.le_refl _
          have HCA := Lib.hid (HCS.out.alloc (.cells #[.int .i64 y.k, .int .i64 y.asked, .int .i64 y.adm, .bool y.forgot] 58))
          have CL0 := Lib.hid ((IS3.out.cl 0 (by omega)).alloc (.cells #[.int .i64 y.k, .int .i64 y.asked, .int .i64 y.adm, .bool y.forgot] 58))
          generalize hpe : W2.heap.size = p at NB hpl hpg hpg2 ⊢
          have HPE := Lib.hid hpe
          clear hpe
          have LIM2 := Lib.hid lim2
          clear lim2 e0 e1 e2
          generalize W2.alloc (.cells #[.int .i64 y.k, .int .i64 y.asked, .int .i64 y.adm, .bool y.forgot] 58) = W3 at *
          refine (forget_any gl W _ _ L S x.at_ _ LIM2.out hW1 (by omega) gx1 (by omega)).mono ?_
          rintro e w3 ⟨rfl, hg, hb⟩
          have HB := Lib.hid hb
          have NB3 := Lib.hid (NB.out.grown hg (by simpa using hpl))
          have CG3 := Lib.hid (HCA.out.grown hg (by simpa using hlg))
          have HGR := Lib.hid hg
          clear hg hb
          have d0 := NB3.out.cell 0
          have d1 := NB3.out.cell 1
          have d2 := NB3.out.cell 2
          have d3 := NB3.out.cell 3
          have f3 := NB3.out.frozen 3
          simp only [List.getElem?_toArray, List.getElem?_cons_zero, List.getElem?_cons_succ] at d0 d1 d2 d3
          have k0 : w3.cell? ⟨g, (n - 1) * 4, none⟩ = some (.int .i64 y.k) := by rw [CG3.out.cell, ← HCS.out.cell]; exact c0
          have k1 : w3.cell? ⟨g, (n - 1) * 4 + 1, none⟩ = some (.int .i64 y.asked) := by rw [CG3.out.cell, ← HCS.out.cell]; exact c1
          have k2 : w3.cell? ⟨g, (n - 1) * 4 + 2, none⟩ = some (.int .i64 y.adm) := by rw [CG3.out.cell, ← HCS.out.cell]; exact c2
          have k3 : w3.cell? ⟨g, (n - 1) * 4 + 3, none⟩ = some (.bool y.forgot) := by rw [CG3.out.cell, ← HCS.out.cell]; exact c3
          have q0 := CG3.out.frozen ((n - 1) * 4)
          have q1 := CG3.out.frozen ((n - 1) * 4 + 1)
          have q2 := CG3.out.frozen ((n - 1) * 4 + 2)
          have q3 := CG3.out.frozen ((n - 1) * 4 + 3)
          clear c0 c1 c2 c3
          set_option maxRecDepth 20000 in go_wp2_with fail)
        all_goals (
          have hstep : s.step W L S x = ⟨k, L, s.c, D, some { y with forgot := true }⟩ := by
            unfold St.step
            rw [if_pos HDO.out, HK.out, OPN.out]
          have glg : gl ≠ g := Ne.symm hlg
          have ccg : gc 0 ≠ g := (IS3.out.cl 0 (by omega)).ne_ HCS.out (by decide)
          have ccl : gc 0 ≠ gl := (IS3.out.cl 0 (by omega)).ne_ IS3.out.lim (by decide)
          have cp : gc 0 ≠ p := by have := (IS3.out.cl 0 (by omega)).lt; have := HPE.out; omega
          have lp : gl ≠ p := Ne.symm hpl
          have chg := ((((((CH0.out.trans (Chg.of_grown HGR.out (.inl (.inl rfl)))).set p 3 (.inr (by have := HPE.out; omega)) (.bool true)).set g ((n - 1) * 4) (.inl (.inr rfl)) (.int .i64 y.k)).set g ((n - 1) * 4 + 1) (.inl (.inr rfl)) (.int .i64 y.asked)).set g ((n - 1) * 4 + 2) (.inl (.inr rfl)) (.int .i64 y.adm)).set g ((n - 1) * 4 + 3) (.inl (.inr rfl)) (.bool true))
          have lim3 := (((((HB.out.far (p := ⟨p, 3, none⟩) lp (.bool true)).far (p := ⟨g, (n - 1) * 4, none⟩) glg (.int .i64 y.k)).far (p := ⟨g, (n - 1) * 4 + 1, none⟩) glg (.int .i64 y.asked)).far (p := ⟨g, (n - 1) * 4 + 2, none⟩) glg (.int .i64 y.adm)).far (p := ⟨g, (n - 1) * 4 + 3, none⟩) glg (.bool true))
          have cl3 := ((((((CL0.out.grown HGR.out (by simpa using ccl)).far (p := ⟨p, 3, none⟩) cp (.bool true)).far (p := ⟨g, (n - 1) * 4, none⟩) ccg (.int .i64 y.k)).far (p := ⟨g, (n - 1) * 4 + 1, none⟩) ccg (.int .i64 y.asked)).far (p := ⟨g, (n - 1) * 4 + 2, none⟩) ccg (.int .i64 y.adm)).far (p := ⟨g, (n - 1) * 4 + 3, none⟩) ccg (.bool true))
          have row3 := (((((CG3.out.far (p := ⟨p, 3, none⟩) hpg (.bool true)).set_ ((n - 1) * 4) (.int .i64 y.k)).set_ ((n - 1) * 4 + 1) (.int .i64 y.asked)).set_ ((n - 1) * 4 + 2) (.int .i64 y.adm)).set_ ((n - 1) * 4 + 3) (.bool true))
          rw [HK.out] at lim3
          exact ⟨win_end HX.out HS.out hstep FINE.out hS1 hL1 (WinIs.next IS3.out HCS.out HBG.out (b := 0) (by omega) chg lim3 cl3 (fun _ _ => rfl)) HN.out (own_put (y' := { y with forgot := true }) HN.out OW3.out HCS.out row3) (by go_num), by simp [intOf]; omega⟩)
      · have hdo2 : (x.do_ == 2) = false := by simpa using hdo
        have HDO := Lib.hid hdo
        clear hdo
        rcases hl : s.last with _ | y
        have hd := FINE.out.nil hl
        have ho : s.out = [] := by unfold St.out; rw [hl, hd]; rfl
        have own2 := OWN.out
        rw [ho] at own2
        simp only [List.length_nil, List.flatMap_nil] at own2
        obtain ⟨A, cap, rfl⟩ := own_form own2
        have OPN : Hid (s.opened k = ([], ⟨k, 0, 0, false⟩)) := by show s.opened k = _; unfold St.opened; rw [hl, hd]
        clear OWN
        have OWN := Lib.hid own2
        clear own2 hl hd ho
        go_wp2_with fail
        go_quiet (fail)
        rw [HK.out]
        have IS3 := Lib.hid (IS.out.drewN nq)
        have OW0 : Hid ((wr.drewN nq).ownsRow w.heap.size 58 4 (.slice A 0 cap) 0 ([])) := own_keep (w' := wr.drewN nq) OWN.out (fun _ _ => rfl)
        have a0 : (wr.drewN nq).cell? ⟨ga, off + j * 3, none⟩ = _ := a0
        have a1 : (wr.drewN nq).cell? ⟨ga, off + j * 3 + 1, none⟩ = _ := a1
        have a2 : (wr.drewN nq).cell? ⟨ga, off + j * 3 + 2, none⟩ = _ := a2
        have HSZ : wr.heap.size = (wr.drewN nq).heap.size := rfl
        clear IS OWN
        generalize wr.drewN nq = W1 at *
        (try rw [HSZ])
        clear HSZ
        have NC : Hid (∀ j u, (wnCells ⟨k, 0, 0, false⟩)[j]? = some u → (W1.alloc (.cells #[.int .i64 k, .int .i64 0, .int .i64 0, .bool false] 58)).cell? ((⟨W1.heap.size, 0, none⟩ : Addr).add j) = some u) := new_cells W1 58 (wnCells ⟨k, 0, 0, false⟩)
        have OWA := Lib.hid (OW0.out.alloc (.cells #[.int .i64 k, .int .i64 0, .int .i64 0, .bool false] 58))
        have SZ : Hid (w.heap.size ≤ (W1.alloc (.cells #[.int .i64 k, .int .i64 0, .int .i64 0, .bool false] 58)).heap.size) := (below_alloc IS3.out.bel _).size
        go_wp2_with (
          at_builtin
          refine wpList_pushn _ rfl (.tmp 48) (.tmp 51) 55 58 rfl Try.underlying55 _ 4 32 info58 rfl (by omega) (by omega) w.heap.size (.slice A 0 cap) 0 ([]) rfl OWA.out (by omega) ⟨W1.heap.size, 0, none⟩ 1 (wnCells ⟨k, 0, 0, false⟩) rfl rfl NC.out (wnCells_one _) SZ.out ?_
          intro v2 W2 r2 ch2 nn2
          obtain ⟨g, cap, rfl⟩ := own_some r2 (by omega)
          obtain ⟨is3, b12⟩ := WinIs.app IS3.out _ OW0.out ch2
          have a0 : W2.cell? ⟨ga, off + j * 3, none⟩ = _ := (b12.cell (p := ⟨ga, _, none⟩) HGA.out).trans a0
          have a1 : W2.cell? ⟨ga, off + j * 3 + 1, none⟩ = _ := (b12.cell (p := ⟨ga, _, none⟩) HGA.out).trans a1
          have a2 : W2.cell? ⟨ga, off + j * 3 + 2, none⟩ = _ := (b12.cell (p := ⟨ga, _, none⟩) HGA.out).trans a2
          clear IS3
          have IS3 := Lib.hid is3
          obtain ⟨y, hy⟩ : ∃ y : Wn, y = ⟨k, 0, 0, false⟩ := ⟨_, rfl⟩
          have HY : Hid (0 ≤ y.asked ∧ y.asked ≤ j ∧ 0 ≤ y.adm ∧ y.adm ≤ j) := by rw [hy]; show _ ∧ _; simp only; omega
          obtain ⟨D, hD⟩ : ∃ D : List Wn, D = [] := ⟨_, rfl⟩
          have OPN : Hid (s.opened k = (D, y)) := by rw [hD, hy]; exact OPN
          have OW3 : Hid (W2.ownsRow w.heap.size 58 4 (.slice (some ⟨g, 0, none⟩) (0 + 1) cap) (0 + 1) ((D ++ [y]).flatMap wnCells)) := by rw [hD, hy]; show W2.ownsRow _ _ _ _ _ _; simpa using r2
          have HN : Hid (0 + 1 = D.length + 1) := by rw [hD]; rfl
          have hn2 : 0 + 1 ≤ 100 := by omega
          generalize 0 + 1 = n at OW3 HN hn2 ⊢
          obtain ⟨hbg, ⟨cs, hcs⟩, c0, c1, c2, c3⟩ := own_last HN.out OW3.out
          have HBG := Lib.hid hbg
          have HCS := Lib.hid hcs
          have hn1 : 1 ≤ n := by have := HN.out; omega
          obtain ⟨hy0, hy1, hy2, hy3⟩ := HY.out
          have e0 := old_cell a0 (.cells #[.int .i64 y.k, .int .i64 y.asked, .int .i64 y.adm, .bool y.forgot] 58)
          have e1 := old_cell a1 (.cells #[.int .i64 y.k, .int .i64 y.asked, .int .i64 y.adm, .bool y.forgot] 58)
          have e2 := old_cell a2 (.cells #[.int .i64 y.k, .int .i64 y.asked, .int .i64 y.adm, .bool y.forgot] 58)
          clear a0 a1 a2
          clear hbg hcs is3 b12 hy r2 ch2 nn2 NC OWA OW0 SZ hD)
        rotate_left 1
        have ho : s.out.length = s.done.length + 1 := by unfold St.out; rw [hl]; simp
        have ho2 : s.out = s.done ++ [y] := by unfold St.out; rw [hl]; rfl
        have own2 := OWN.out
        obtain ⟨n, hn⟩ : ∃ n, n = s.out.length := ⟨_, rfl⟩
        have hfew : n ≤ 60 := by have := FINE.out.few; have := HG.out.few; omega
        have hn1 : 1 ≤ n := by omega
        rw [← hn] at own2 ho
        rw [ho2] at own2
        clear hn
        obtain ⟨g, cap, rfl⟩ := own_some own2 (by omega)
        obtain ⟨hbg, ⟨cs, hcs⟩, c0, c1, c2, c3⟩ := own_last ho own2
        have HN := Lib.hid ho
        have HL := Lib.hid hl
        clear OWN
        have OWN := Lib.hid own2
        have HBG := Lib.hid hbg
        have HCS := Lib.hid hcs
        clear own2 hl ho ho2 hbg hcs
        have hne0 : ((n : Int) == 0) = false := by simp; omega
        by_cases hyk : y.k = k
        have OPN : Hid (s.opened k = (s.done, y)) := by show s.opened k = _; unfold St.opened; rw [HL.out]; simp only; rw [if_pos hyk]
        have HY : Hid (0 ≤ y.asked ∧ y.asked ≤ j ∧ 0 ≤ y.adm ∧ y.adm ≤ j) := FINE.out.wn y HL.out
        have hyk2 : (y.k == k) = true := by simpa using hyk
        clear hyk HL
        obtain ⟨D, hD⟩ : ∃ D : List Wn, D = s.done := ⟨_, rfl⟩
        rw [← hD] at OPN OWN HN
        clear hD
        go_wp2_with fail
        go_quiet (fail)
        rw [HK.out]
        have IS3 := Lib.hid (IS.out.drewN nq)
        have OW0 : Hid ((wr.drewN nq).ownsRow w.heap.size 58 4 (.slice (some ⟨g, 0, none⟩) n cap) n ((D ++ [y]).flatMap wnCells)) := own_keep (w' := wr.drewN nq) OWN.out (fun _ _ => rfl)
        have a0 : (wr.drewN nq).cell? ⟨ga, off + j * 3, none⟩ = _ := a0
        have a1 : (wr.drewN nq).cell? ⟨ga, off + j * 3 + 1, none⟩ = _ := a1
        have a2 : (wr.drewN nq).cell? ⟨ga, off + j * 3 + 2, none⟩ = _ := a2
        have c0 : (wr.drewN nq).cell? ⟨g, (n - 1) * 4, none⟩ = _ := c0
        have c1 : (wr.drewN nq).cell? ⟨g, (n - 1) * 4 + 1, none⟩ = _ := c1
        have c2 : (wr.drewN nq).cell? ⟨g, (n - 1) * 4 + 2, none⟩ = _ := c2
        have c3 : (wr.drewN nq).cell? ⟨g, (n - 1) * 4 + 3, none⟩ = _ := c3
        have HCS : Hid (Blk (wr.drewN nq) g 58 cs) := HCS.out.drewN nq
        have HSZ : wr.heap.size = (wr.drewN nq).heap.size := rfl
        clear IS OWN
        generalize wr.drewN nq = W2 at *
        (try rw [HSZ])
        clear HSZ
        have OW3 := OW0
        obtain ⟨hy0, hy1, hy2, hy3⟩ := HY.out
        have e0 := old_cell a0 (.cells #[.int .i64 y.k, .int .i64 y.asked, .int .i64 y.adm, .bool y.forgot] 58)
        have e1 := old_cell a1 (.cells #[.int .i64 y.k, .int .i64 y.asked, .int .i64 y.adm, .bool y.forgot] 58)
        have e2 := old_cell a2 (.cells #[.int .i64 y.k, .int .i64 y.asked, .int .i64 y.adm, .bool y.forgot] 58)
        clear a0 a1 a2
        clear OW0
        go_wp2_with fail
        rotate_left 1
        have OPN : Hid (s.opened k = (s.done ++ [y], ⟨k, 0, 0, false⟩)) := by show s.opened k = _; unfold St.opened; rw [HL.out]; simp only; rw [if_neg hyk]
        have hyk2 : (y.k == k) = false := by simpa using hyk
        clear hyk HL
        obtain ⟨D, hD⟩ : ∃ D : List Wn, D = s.done ++ [y] := ⟨_, rfl⟩
        have HN2 : Hid (n + 1 = D.length + 1) := by rw [hD]; have := HN.out; show n + 1 = _; simp; omega
        rw [← hD] at OPN OWN
        clear hD
        go_wp2_with fail
        go_quiet (fail)
        rw [HK.out]
        have IS3 := Lib.hid (IS.out.drewN nq)
        have OW0 : Hid ((wr.drewN nq).ownsRow w.heap.size 58 4 (.slice (some ⟨g, 0, none⟩) n cap) n (D.flatMap wnCells)) := own_keep (w' := wr.drewN nq) OWN.out (fun _ _ => rfl)
        have a0 : (wr.drewN nq).cell? ⟨ga, off + j * 3, none⟩ = _ := a0
        have a1 : (wr.drewN nq).cell? ⟨ga, off + j * 3 + 1, none⟩ = _ := a1
        have a2 : (wr.drewN nq).cell? ⟨ga, off + j * 3 + 2, none⟩ = _ := a2
        have c0 : (wr.drewN nq).cell? ⟨g, (n - 1) * 4, none⟩ = _ := c0
        have c1 : (wr.drewN nq).cell? ⟨g, (n - 1) * 4 + 1, none⟩ = _ := c1
        have c2 : (wr.drewN nq).cell? ⟨g, (n - 1) * 4 + 2, none⟩ = _ := c2
        have c3 : (wr.drewN nq).cell? ⟨g, (n - 1) * 4 + 3, none⟩ = _ := c3
        clear HCS HBG
        have HSZ : wr.heap.size = (wr.drewN nq).heap.size := rfl
        clear IS OWN
        generalize wr.drewN nq = W1 at *
        (try rw [HSZ])
        clear HSZ
        have NC : Hid (∀ j u, (wnCells ⟨k, 0, 0, false⟩)[j]? = some u → (W1.alloc (.cells #[.int .i64 k, .int .i64 0, .int .i64 0, .bool false] 58)).cell? ((⟨W1.heap.size, 0, none⟩ : Addr).add j) = some u) := new_cells W1 58 (wnCells ⟨k, 0, 0, false⟩)
        have OWA := Lib.hid (OW0.out.alloc (.cells #[.int .i64 k, .int .i64 0, .int .i64 0, .bool false] 58))
        have SZ : Hid (w.heap.size ≤ (W1.alloc (.cells #[.int .i64 k, .int .i64 0, .int .i64 0, .bool false] 58)).heap.size) := (below_alloc IS3.out.bel _).size
        go_wp2_with (
          at_builtin
          refine wpList_pushn _ rfl (.tmp 48) (.tmp 51) 55 58 rfl Try.underlying55 _ 4 32 info58 rfl (by omega) (by omega) w.heap.size (.slice (some ⟨g, 0, none⟩) n cap) n (D.flatMap wnCells) rfl OWA.out (by omega) ⟨W1.heap.size, 0, none⟩ 1 (wnCells ⟨k, 0, 0, false⟩) rfl rfl NC.out (wnCells_one _) SZ.out ?_
          intro v2 W2 r2 ch2 nn2
          obtain ⟨g, cap, rfl⟩ := own_some r2 (by omega)
          obtain ⟨is3, b12⟩ := WinIs.app IS3.out _ OW0.out ch2
          have a0 : W2.cell? ⟨ga, off + j * 3, none⟩ = _ := (b12.cell (p := ⟨ga, _, none⟩) HGA.out).trans a0
          have a1 : W2.cell? ⟨ga, off + j * 3 + 1, none⟩ = _ := (b12.cell (p := ⟨ga, _, none⟩) HGA.out).trans a1
          have a2 : W2.cell? ⟨ga, off + j * 3 + 2, none⟩ = _ := (b12.cell (p := ⟨ga, _, none⟩) HGA.out).trans a2
          clear IS3
          have IS3 := Lib.hid is3
          obtain ⟨y, hy⟩ : ∃ y : Wn, y = ⟨k, 0, 0, false⟩ := ⟨_, rfl⟩
          have HY : Hid (0 ≤ y.asked ∧ y.asked ≤ j ∧ 0 ≤ y.adm ∧ y.adm ≤ j) := by rw [hy]; show _ ∧ _; simp only; omega
          have OPN : Hid (s.opened k = (D, y)) := by rw [hy]; exact OPN
          have OW3 : Hid (W2.ownsRow w.heap.size 58 4 (.slice (some ⟨g, 0, none⟩) (n + 1) cap) (n + 1) ((D ++ [y]).flatMap wnCells)) := by rw [hy]; show W2.ownsRow _ _ _ _ _ _; simpa using r2
          clear HN
          have HN := HN2
          clear HN2
          have hn2 : n + 1 ≤ 100 := by omega
          generalize n + 1 = n at OW3 HN hn2 ⊢
          obtain ⟨hbg, ⟨cs, hcs⟩, c0, c1, c2, c3⟩ := own_last HN.out OW3.out
          have HBG := Lib.hid hbg
          have HCS := Lib.hid hcs
          have hn1 : 1 ≤ n := by have := HN.out; omega
          obtain ⟨hy0, hy1, hy2, hy3⟩ := HY.out
          have e0 := old_cell a0 (.cells #[.int .i64 y.k, .int .i64 y.asked, .int .i64 y.adm, .bool y.forgot] 58)
          have e1 := old_cell a1 (.cells #[.int .i64 y.k, .int .i64 y.asked, .int .i64 y.adm, .bool y.forgot] 58)
          have e2 := old_cell a2 (.cells #[.int .i64 y.k, .int .i64 y.asked, .int .i64 y.adm, .bool y.forgot] 58)
          clear a0 a1 a2
          clear hbg hcs is3 b12 hy r2 ch2 nn2 NC OWA OW0 SZ)
        all_goals (
          obtain ⟨b, hbe⟩ : ∃ b : Nat, x.by_ = (b : Int) := ⟨x.by_.toNat, by omega⟩
          have hb3 : b < 3 := by omega
          have hbt : x.by_.toNat = b := by omega
          have nb := (Blk.new W2 58 #[.int .i64 y.k, .int .i64 (y.asked + 1), .int .i64 y.adm, .bool y.forgot])
          have lp : gl ≠ W2.heap.size := by have := IS3.out.lim.lt; omega
          have hpg : g ≠ W2.heap.size := by have := HCS.out.lt; omega
          have cp : gc b ≠ W2.heap.size := by have := (IS3.out.cl b hb3).lt; omega
          have sp : sb ≠ W2.heap.size := by have := IS3.out.row.lt; omega
          have ap : ga ≠ W2.heap.size := by have := HGA.out; have := IS3.out.bel.size; omega
          have hlg : g ≠ gl := HCS.out.ne_ IS3.out.lim (by decide)
          have ccg : gc b ≠ g := (IS3.out.cl b hb3).ne_ HCS.out (by decide)
          have ccl : gc b ≠ gl := (IS3.out.cl b hb3).ne_ IS3.out.lim (by decide)
          have sl : sb ≠ gl := IS3.out.row.ne_ IS3.out.lim (by decide)
          have scc : sb ≠ gc b := IS3.out.row.ne_ (IS3.out.cl b hb3) (by decide)
          have LIM4 := Lib.hid ((IS3.out.lim.alloc (.cells #[.int .i64 y.k, .int .i64 (y.asked + 1), .int .i64 y.adm, .bool y.forgot] 58)))
          have CL4 := Lib.hid (((IS3.out.cl b hb3).alloc (.cells #[.int .i64 y.k, .int .i64 (y.asked + 1), .int .i64 y.adm, .bool y.forgot] 58)))
          have ROW4 := Lib.hid ((IS3.out.row.alloc (.cells #[.int .i64 y.k, .int .i64 (y.asked + 1), .int .i64 y.adm, .bool y.forgot] 58)))
          have CG4 := Lib.hid ((HCS.out.alloc (.cells #[.int .i64 y.k, .int .i64 (y.asked + 1), .int .i64 y.adm, .bool y.forgot] 58)))
          have CH4 := Lib.hid (((Chg.refl (fun i => (i = gl ∨ i = gc b) ∨ i = g) W2).alloc (.cells #[.int .i64 y.k, .int .i64 (y.asked + 1), .int .i64 y.adm, .bool y.forgot] 58)))
          have hgs : ga < W2.heap.size := by have := HGA.out; have := IS3.out.bel.size; omega
          have a1 := old_cell2 e1 hgs (.cells #[.int .i64 y.k, .int .i64 (y.asked + 1), .int .i64 y.adm, .bool y.forgot] 58)
          have a2 := old_cell2 e2 hgs (.cells #[.int .i64 y.k, .int .i64 (y.asked + 1), .int .i64 y.adm, .bool y.forgot] 58)
          rw [hbe] at a2
          have NB4 := Lib.hid nb
          clear nb e0 e1 e2
          generalize hpe : W2.heap.size = p at *
          have HPE := Lib.hid hpe
          clear hpe
          generalize W2.alloc (.cells #[.int .i64 y.k, .int .i64 (y.asked + 1), .int .i64 y.adm, .bool y.forgot] 58) = W4 at *
          have r4 : W4.cell? ⟨sb, b, none⟩ = some (.pointer (some ⟨gc b, 0, none⟩)) := by
            rw [ROW4.out.cell]
            rcases (by omega : b = 0 ∨ b = 1 ∨ b = 2) with rfl | rfl | rfl <;> rfl
          have hpg2 : p ≠ g := Ne.symm hpg
          have hlp2 : p ≠ gl := Ne.symm lp
          have hcp2 : p ≠ gc b := Ne.symm cp
          have hag : ga ≠ gl := by have := HGA.out; have := IS3.out.from_.2.2.1; omega
          have hac : ga ≠ gc b := by have := HGA.out; have := IS3.out.from_.2.2.2 b hb3; omega
          have NCH : Hid (∀ w5, Chg (fun i => i = gl ∨ i = gc b) W4.drew w5 → (w5.cell? ⟨ga, off + j * 3 + 1, none⟩ = some (.int .i64 x.at_) ∧ w5.cell? ⟨ga, off + j * 3 + 2, none⟩ = some (.int .i64 (b : Int)) ∧ w5.cell? ⟨sb, b, none⟩ = some (.pointer (some ⟨gc b, 0, none⟩)))) := by
            intro w5 h5
            have keep : ∀ (g' o : Nat) (u : Value), W4.cell? ⟨g', o, none⟩ = some u → g' ≠ gl → g' ≠ gc b → w5.cell? ⟨g', o, none⟩ = some u := by
              intro g' o u hu n1 n2
              have hlt := World.block_lt_of_cell? _ _ hu
              have e5 := h5.block g' hlt (by rintro (hh | hh); exact n1 hh; exact n2 hh)
              rw [← hu]
              unfold World.cell?
              rw [e5]
              rfl
            exact ⟨keep _ _ _ a1 hag hac, keep _ _ _ a2 hag hac, keep _ _ _ r4 sl scc⟩
          rcases hrb : (adm W L S x.at_ s.lk s.ln (s.c b).1 (s.c b).2).b with _ | _)
        all_goals (
          have hb4 : (b : Int) < 3 := by omega
          have hb5 : (0 : Int) ≤ (b : Int) := by omega
          have LIM4D := Lib.hid LIM4.out.drew
          have CL4D := Lib.hid CL4.out.drew
          go_region_held3 (fun w' => w'.cell? ⟨ga, off + j * 3 + 1, none⟩ = some (.int .i64 x.at_) ∧ w'.cell? ⟨ga, off + j * 3 + 2, none⟩ = some (.int .i64 (b : Int)) ∧ w'.cell? ⟨sb, b, none⟩ = some (.pointer (some ⟨gc b, 0, none⟩)))
            (first | exact ⟨a1, a2, r4⟩ | exact NCH.out _ (Hid.out ‹Hid (Chg (fun i => i = gl ∨ i = gc b) W4.drew _)›))
            (first | (go_at_call 32; (with_reducible refine (admits_any gl (gc b) W L S x.at_ s.lk s.ln (s.c b).1 (s.c b).2 _ LIM4D.out CL4D.out hW1 (by omega) gx1 (by omega) hL1 (by omega) hS1 (by omega) FINE.out.ln0 FINE.out.ln1 (FINE.out.nc0 b) (by have := FINE.out.nc1 b; omega)).mono ?_); rintro e w5 ⟨rfl, ch5, l5, c5⟩; rw [hrb]; have CH5 := Lib.hid ch5; have LIM5 := Lib.hid l5; have CL5 := Lib.hid c5; clear ch5 l5 c5)))
        all_goals (
          have NB5 := Lib.hid (NB4.out.drew.chg CH5.out (by rintro (hh | hh); exact hlp2 hh; exact hcp2 hh))
          have CG5 := Lib.hid (CG4.out.drew.chg CH5.out (by rintro (hh | hh); exact hlg hh; exact ccg hh.symm))
          have d0 := NB5.out.cell 0
          have d1 := NB5.out.cell 1
          have d2 := NB5.out.cell 2
          have d3 := NB5.out.cell 3
          have f2 := NB5.out.frozen 2
          simp only [List.getElem?_toArray, List.getElem?_cons_zero, List.getElem?_cons_succ] at d0 d1 d2 d3
          have k0 : w5.cell? ⟨g, (n - 1) * 4, none⟩ = some (.int .i64 y.k) := by rw [CG5.out.cell, ← HCS.out.cell]; exact c0
          have k1 : w5.cell? ⟨g, (n - 1) * 4 + 1, none⟩ = some (.int .i64 y.asked) := by rw [CG5.out.cell, ← HCS.out.cell]; exact c1
          have k2 : w5.cell? ⟨g, (n - 1) * 4 + 2, none⟩ = some (.int .i64 y.adm) := by rw [CG5.out.cell, ← HCS.out.cell]; exact c2
          have k3 : w5.cell? ⟨g, (n - 1) * 4 + 3, none⟩ = some (.bool y.forgot) := by rw [CG5.out.cell, ← HCS.out.cell]; exact c3
          have q0 := CG5.out.frozen ((n - 1) * 4)
          have q1 := CG5.out.frozen ((n - 1) * 4 + 1)
          have q2 := CG5.out.frozen ((n - 1) * 4 + 2)
          have q3 := CG5.out.frozen ((n - 1) * 4 + 3)
          rename_i hHeld
          clear hHeld c0 c1 c2 c3 a1 a2 r4
          have HRB := Lib.hid hrb
          have HBE := Lib.hid hbe
          have HBT := Lib.hid hbt
          clear hrb hbe hbt
          set_option maxRecDepth 20000 in go_wp2_with fail)
        all_goals (
          have hchg := CH4.out.trans (((Chg.refl _ W4).drew).trans (CH5.out.mono (fun i hi => .inl hi)))
          have hstep : s.step W L S x = ⟨(adm W L S x.at_ s.lk s.ln (s.c b).1 (s.c b).2).k, (adm W L S x.at_ s.lk s.ln (s.c b).1 (s.c b).2).n, upd s.c b ((adm W L S x.at_ s.lk s.ln (s.c b).1 (s.c b).2).kc, (adm W L S x.at_ s.lk s.ln (s.c b).1 (s.c b).2).nc), D, some { y with asked := y.asked + 1, adm := y.adm + (if (adm W L S x.at_ s.lk s.ln (s.c b).1 (s.c b).2).b then 1 else 0) }⟩ := by
            unfold St.step
            rw [if_neg HDO.out, HK.out, OPN.out, HBT.out]
          have hccb : (upd s.c b ((adm W L S x.at_ s.lk s.ln (s.c b).1 (s.c b).2).kc, (adm W L S x.at_ s.lk s.ln (s.c b).1 (s.c b).2).nc)) b = ((adm W L S x.at_ s.lk s.ln (s.c b).1 (s.c b).2).kc, (adm W L S x.at_ s.lk s.ln (s.c b).1 (s.c b).2).nc) := by unfold upd; rw [if_pos rfl]
          have hcc : ∀ i, i ≠ b → (upd s.c b ((adm W L S x.at_ s.lk s.ln (s.c b).1 (s.c b).2).kc, (adm W L S x.at_ s.lk s.ln (s.c b).1 (s.c b).2).nc)) i = s.c i := by intro i hi; unfold upd; rw [if_neg hi]
          rw [HRB.out] at hstep
          first
          | (have _h : Hid ((adm W L S x.at_ s.lk s.ln (s.c b).1 (s.c b).2).b = false) := HRB); refine ⟨win_put (cc := upd s.c b ((adm W L S x.at_ s.lk s.ln (s.c b).1 (s.c b).2).kc, (adm W L S x.at_ s.lk s.ln (s.c b).1 (s.c b).2).nc)) (y := y) (y' := ⟨y.k, y.asked + 1, y.adm, y.forgot⟩) (wx := w5) IS3.out HCS.out HBG.out hb3 hchg LIM5.out (by rw [hccb]; exact CL5.out) CG5.out hcc HX.out HS.out (hstep.trans (by simp)) FINE.out hS1 hL1 HN.out OW3.out (by go_num), by simp [intOf]; omega⟩
          | (have _h : Hid ((adm W L S x.at_ s.lk s.ln (s.c b).1 (s.c b).2).b = true) := HRB); refine ⟨win_put (cc := upd s.c b ((adm W L S x.at_ s.lk s.ln (s.c b).1 (s.c b).2).kc, (adm W L S x.at_ s.lk s.ln (s.c b).1 (s.c b).2).nc)) (y := y) (y' := ⟨y.k, y.asked + 1, y.adm + 1, y.forgot⟩) (wx := w5.setCell ⟨p, 2, none⟩ (.int .i64 (y.adm + 1))) IS3.out HCS.out HBG.out hb3 (hchg.set p 2 (.inr (by have := HPE.out; omega)) (.int .i64 (y.adm + 1))) (LIM5.out.far (p := ⟨p, 2, none⟩) lp (.int .i64 (y.adm + 1))) (by rw [hccb]; exact CL5.out.far (p := ⟨p, 2, none⟩) cp (.int .i64 (y.adm + 1))) (CG5.out.far (p := ⟨p, 2, none⟩) hpg (.int .i64 (y.adm + 1))) hcc HX.out HS.out (hstep.trans (by simp)) FINE.out hS1 hL1 HN.out OW3.out (by go_num), by simp [intOf]; omega⟩)
    · obtain rfl : j = l.length := by omega
      have e := List.take_length (l := l)
      rw [e] at IS FINE OWN
      clear e hlt
      go_wp2_with fail
      go_ret
      exact ⟨_, rfl, OWN.out, IS.out.bel⟩

end Go.Proofs.Ytaibhfcoapelcaa
