/- A client of leases: what New, Use and Give do, and what a call that asks to be admitted does to a client and a limiter. -/
import Derived.Test.YtaibhfcoapelcaaLives
namespace Go.Proofs.Ytaibhfcoapelcaa
open Go.RowKit

/-! ### what may have turned -/
/-- Of the blocks that there were only those of F may have turned. -/
structure Chg (F : Nat → Prop) (w w' : World) : Prop where
  os : w'.os = w.os
  tape : w'.tape = w.tape
  output : w'.output = w.output
  size : w.heap.size ≤ w'.heap.size
  block : ∀ k, k < w.heap.size → ¬ F k → w'.heap[k]? = w.heap[k]?

section
variable {F F' : Nat → Prop} {a b c w w' : World}
theorem Chg.refl (F : Nat → Prop) (w : World) : Chg F w w := ⟨rfl, rfl, rfl, Nat.le_refl _, fun _ _ _ => rfl⟩
theorem Chg.trans (h : Chg F a b) (k : Chg F b c) : Chg F a c :=
  ⟨k.os.trans h.os, k.tape.trans h.tape, k.output.trans h.output, Nat.le_trans h.size k.size, fun i hi hn => (k.block i (Nat.lt_of_lt_of_le hi h.size) hn).trans (h.block i hi hn)⟩
theorem Chg.mono (h : Chg F a b) (hF : ∀ i, F i → F' i) : Chg F' a b := ⟨h.os, h.tape, h.output, h.size, fun i hi hn => h.block i hi (fun hf => hn (hF i hf))⟩
theorem Chg.alloc (h : Chg F a w) (o : Obj) : Chg F a (w.alloc o) :=
  ⟨h.os, h.tape, h.output, Nat.le_trans h.size (by simp), fun i hi hn => (Below.heap_alloc w o i (Nat.lt_of_lt_of_le hi h.size)).trans (h.block i hi hn)⟩
theorem Chg.of_grown {g : Nat} (h : w.grownBy w' (some g)) (hg : F g) : Chg F w w' :=
  ⟨h.os, h.tape, h.output, h.size, fun k hk hn => h.block k hk (fun e => by injection e with e; exact hn (e ▸ hg))⟩
theorem Chg.of_below (h : Below w.heap.size w w') : Chg F w w' := ⟨h.os, h.tape, h.output, h.size, fun k hk _ => h.block k hk⟩
theorem Chg.below {B : Nat} (h : Chg F a b) (hF : ∀ i, F i → B ≤ i) (hB : B ≤ a.heap.size) : Below B a b :=
  ⟨h.os, h.tape, h.output, h.size, fun k hk => h.block k (by omega) (fun hf => by have := hF k hf; omega)⟩
theorem Blk.chg {g : Nat} {t : TypeId} {cs : Array Value} (h : Blk w g t cs) (k : Chg F w w') (hg : ¬ F g) : Blk w' g t cs := (k.block g h.lt hg).trans h
end

/-- A new client. -/
def ClientNew (W : Int) (w : World) (e : Ending) (w' : World) : Prop :=
  ∃ g, w.heap.size ≤ g ∧ e = .returned (.pointer (some ⟨g, 0, none⟩)) ∧ Blk w' g 67 #[.int .i64 W, .int .i64 0, .int .i64 0] ∧ Below w.heap.size w w'

set_option maxHeartbeats 400000 in
theorem client_new (L W S : Int) (w : World) :
    Calls Try.prog 20 #[.agg #[.int .i64 L, .int .i64 W, .int .i64 S]] w (ClientNew W w) := by
  go_enter Try.func20, Try.ntmps20
  go_wp2_with fail
  go_ret
  exact ⟨w.heap.size + 1, by omega, rfl, blk_new2 _ _ _ _, ((Below.refl _ _).alloc (Nat.le_refl _) _).alloc (by simp) _⟩

/-- Use. -/
def UsePost (g : Nat) (t k n now : Int) (w : World) (e : Ending) (w' : World) : Prop :=
  e = .returned (.bool (decide (1 ≤ kn t k n now))) ∧ w.grownBy w' (some g) ∧ Blk w' g 67 #[.int .i64 t, .int .i64 (now / t), .int .i64 (if 1 ≤ kn t k n now then kn t k n now - 1 else kn t k n now)]

set_option maxHeartbeats 400000 in
theorem use_any (g : Nat) (t k n now : Int) (w : World) (hb : Blk w g 67 #[.int .i64 t, .int .i64 k, .int .i64 n])
   (ht : 1 ≤ t) (ht2 : t ≤ 1000) (hn : 0 ≤ now) (hn2 : now ≤ 1000000) (hq : 0 ≤ n) (hq2 : n ≤ 1000000) :
    Calls Try.prog 24 #[.pointer (some ⟨g, 0, none⟩), .int .i64 now] w (UsePost g t k n now w) := by
  obtain ⟨r1, r2⟩ := kn_range t k n now 1000000 hq hq2 (by omega)
  have HB := Lib.hid hb; clear hb
  have c0 : w.cell? ⟨g, 0, none⟩ = some (.int .i64 t) := by rw [HB.out.cell]; rfl
  go_enter Try.func24, Try.ntmps24
  go_wp2_with fail
  refine (at_any g 67 _ t k n now _ HB.out rfl rfl rfl ht ht2 hn hn2).mono ?_
  rintro e w1 ⟨rfl, hg, hb1⟩
  simp only [List.setIfInBounds_toArray, List.set_cons_succ, List.set_cons_zero] at hb1
  have d2 := hb1.cell 2
  have d0 := hb1.cell 0
  have f2 := hb1.frozen 2
  simp at d0 d2
  have HG := Lib.hid hg
  have HB1 := Lib.hid hb1
  clear hg hb1 c0
  generalize hqe : kn t k n now = q at *
  generalize hke : now / t = k' at *
  have HQ := Lib.hid hqe
  have HK := Lib.hid hke
  clear hqe hke
  by_cases h1 : 1 ≤ q
  · have h1' : ¬ q < 1 := by omega
    go_wp2
    go_ret
    unfold UsePost
    rw [HQ.out, HK.out, if_pos h1]
    refine ⟨by rw [decide_eq_true h1]; rfl, only_setCell (p := ⟨g, 2, none⟩) HG.out (Or.inl rfl) _, ?_⟩
    have h2 := HB1.out.set_ 2 (.int .i64 (q - 1))
    exact h2
  · have h1' : q < 1 := by omega
    go_wp2
    go_ret
    unfold UsePost
    have h3 : ¬ 1 ≤ q := by omega
    rw [HQ.out, HK.out, if_neg h3]
    exact ⟨by rw [decide_eq_false h3]; rfl, HG.out, HB1.out⟩

/-- Give. -/
def GivePost (g : Nat) (t k n now m : Int) (w : World) (e : Ending) (w' : World) : Prop :=
  e = .returned (.tuple #[]) ∧ w.grownBy w' (some g) ∧ Blk w' g 67 #[.int .i64 t, .int .i64 (now / t), .int .i64 (kn t k n now + m)]

set_option maxHeartbeats 400000 in
theorem give_any (g : Nat) (t k n now m : Int) (w : World) (hb : Blk w g 67 #[.int .i64 t, .int .i64 k, .int .i64 n])
   (ht : 1 ≤ t) (ht2 : t ≤ 1000) (hn : 0 ≤ now) (hn2 : now ≤ 1000000) (hq : 0 ≤ n) (hq2 : n ≤ 1000000) (hm : 0 ≤ m) (hm2 : m ≤ 1000000) :
    Calls Try.prog 26 #[.pointer (some ⟨g, 0, none⟩), .int .i64 now, .int .i64 m] w (GivePost g t k n now m w) := by
  obtain ⟨r1, r2⟩ := kn_range t k n now 1000000 hq hq2 (by omega)
  have HB := Lib.hid hb; clear hb
  have c0 : w.cell? ⟨g, 0, none⟩ = some (.int .i64 t) := by rw [HB.out.cell]; rfl
  go_enter Try.func26, Try.ntmps26
  go_wp2_with fail
  refine (at_any g 67 _ t k n now _ HB.out rfl rfl rfl ht ht2 hn hn2).mono ?_
  rintro e w1 ⟨rfl, hg, hb1⟩
  simp only [List.setIfInBounds_toArray, List.set_cons_succ, List.set_cons_zero] at hb1
  have d2 := hb1.cell 2
  have d0 := hb1.cell 0
  have f2 := hb1.frozen 2
  simp at d0 d2
  have HG := Lib.hid hg
  have HB1 := Lib.hid hb1
  clear hg hb1 c0
  generalize hqe : kn t k n now = q at *
  generalize hke : now / t = k' at *
  have HQ := Lib.hid hqe
  have HK := Lib.hid hke
  clear hqe hke
  go_wp2
  go_end0
  unfold GivePost
  rw [HQ.out, HK.out]
  refine ⟨rfl, only_setCell (p := ⟨g, 2, none⟩) HG.out (Or.inl rfl) _, ?_⟩
  have h2 := HB1.out.set_ 2 (.int .i64 (q + m))
  exact h2

/-- A limiter's window and count, a client's, and whether the call is admitted. -/
structure Ad where
  k : Int
  n : Int
  kc : Int
  nc : Int
  b : Bool

def adm (t L S now k n kc nc : Int) : Ad :=
  if 1 ≤ kn t kc nc now then ⟨k, n, now / t, kn t kc nc now - 1, true⟩
  else if 1 ≤ min S (L - kn t k n now) then ⟨now / t, kn t k n now + min S (L - kn t k n now), now / t, min S (L - kn t k n now) - 1, true⟩
  else ⟨now / t, kn t k n now + min S (L - kn t k n now), now / t, min S (L - kn t k n now), false⟩

def AdmitsPost (gl gc : Nat) (t L S now k n kc nc : Int) (w : World) (e : Ending) (w' : World) : Prop :=
  e = .returned (.bool (adm t L S now k n kc nc).b) ∧ Chg (fun i => i = gl ∨ i = gc) w w' ∧
    Blk w' gl 64 #[.int .i64 t, .int .i64 (adm t L S now k n kc nc).k, .int .i64 (adm t L S now k n kc nc).n, .int .i64 L, .int .i64 S] ∧
    Blk w' gc 67 #[.int .i64 t, .int .i64 (adm t L S now k n kc nc).kc, .int .i64 (adm t L S now k n kc nc).nc]

theorem kn_same (t n now : Int) : kn t (now / t) n now = n := by unfold kn; rw [if_pos rfl]

set_option maxHeartbeats 800000 in
theorem admits_any (gl gc : Nat) (t L S now k n kc nc : Int) (w : World) (hl : Blk w gl 64 #[.int .i64 t, .int .i64 k, .int .i64 n, .int .i64 L, .int .i64 S]) (hc : Blk w gc 67 #[.int .i64 t, .int .i64 kc, .int .i64 nc])
   (ht : 1 ≤ t) (ht2 : t ≤ 1000) (hn : 0 ≤ now) (hn2 : now ≤ 1000000) (hL : 1 ≤ L) (hL2 : L ≤ 1000) (hS : 1 ≤ S) (hS2 : S ≤ 1000) (hq : 0 ≤ n) (hq2 : n ≤ L) (hc0 : 0 ≤ nc) (hc2 : nc ≤ 1000) :
    Calls Try.prog 32 #[.pointer (some ⟨gl, 0, none⟩), .pointer (some ⟨gc, 0, none⟩), .int .i64 now] w (AdmitsPost gl gc t L S now k n kc nc w) := by
  have hne := hl.ne_ hc (by decide)
  have HN := Lib.hid hne
  have HL := Lib.hid hl
  have HC := Lib.hid hc
  clear hl hc hne
  obtain ⟨r1, r2⟩ := kn_range t kc nc now 1000 hc0 hc2 (by omega)
  obtain ⟨s1, s2⟩ := kn_range t k n now L hq hq2 (by omega)
  go_enter Try.func32, Try.ntmps32
  go_wp2_with fail
  refine (use_any gc t kc nc now _ HC.out ht ht2 hn hn2 hc0 (by omega)).mono ?_
  rintro e w1 ⟨rfl, g1, b1⟩
  have l1 := HL.out.grown g1 (by simpa using HN.out)
  have G1 := Lib.hid g1
  have B1 := Lib.hid b1
  have L1 := Lib.hid l1
  clear g1 b1 l1
  by_cases h1 : 1 ≤ kn t kc nc now
  · have e1 : adm t L S now k n kc nc = ⟨k, n, now / t, kn t kc nc now - 1, true⟩ := by unfold adm; rw [if_pos h1]
    rw [decide_eq_true h1]
    have E1 := Lib.hid e1
    have H1 := Lib.hid h1
    clear e1 h1
    go_wp2_with fail
    go_ret
    have b1 := B1.out
    rw [if_pos H1.out] at b1
    unfold AdmitsPost
    rw [E1.out]
    exact ⟨rfl, Chg.of_grown G1.out (.inr rfl), L1.out, b1⟩
  · have h0 : kn t kc nc now = 0 := by omega
    have e1 : adm t L S now k n kc nc = if 1 ≤ min S (L - kn t k n now) then ⟨now / t, kn t k n now + min S (L - kn t k n now), now / t, min S (L - kn t k n now) - 1, true⟩
        else ⟨now / t, kn t k n now + min S (L - kn t k n now), now / t, min S (L - kn t k n now), false⟩ := by unfold adm; rw [if_neg h1]
    rw [decide_eq_false h1]
    have b1 := B1.out
    rw [if_neg h1, h0] at b1
    have B2 := Lib.hid b1
    have E1 := Lib.hid e1
    clear e1 h1 h0 b1 B1
    go_wp2_with fail
    refine (ask_any gl t k n L S now _ L1.out ht ht2 hn hn2 hL hL2 hS hS2 hq hq2).mono ?_
    rintro e w2 ⟨rfl, g2, b2⟩
    have c2 := B2.out.grown g2 (by simpa using Ne.symm HN.out)
    have G2 := Lib.hid g2
    have L2 := Lib.hid b2
    have C2 := Lib.hid c2
    clear g2 b2 c2 L1 B2
    have m0 : 0 ≤ min S (L - kn t k n now) := by omega
    have m1 : min S (L - kn t k n now) ≤ 1000 := by omega
    generalize min S (L - kn t k n now) = m at *
    go_wp2_with fail
    refine (give_any gc t (now / t) 0 now m _ C2.out ht ht2 hn hn2 (by omega) (by omega) m0 (by omega)).mono ?_
    rintro e w3 ⟨rfl, g3, b3⟩
    rw [kn_same, Int.zero_add] at b3
    have l3 := L2.out.grown g3 (by simpa using HN.out)
    have G3 := Lib.hid g3
    have C3 := Lib.hid b3
    have L3 := Lib.hid l3
    clear g3 b3 l3 L2 C2
    go_wp2_with fail
    refine (use_any gc t (now / t) m now _ C3.out ht ht2 hn hn2 m0 (by omega)).mono ?_
    rintro e w4 ⟨rfl, g4, b4⟩
    rw [kn_same] at b4 ⊢
    have l4 := L3.out.grown g4 (by simpa using HN.out)
    have G4 := Lib.hid g4
    have C4 := Lib.hid b4
    have L4 := Lib.hid l4
    clear g4 b4 l4 L3 C3
    have HCH : Hid (Chg (fun i => i = gl ∨ i = gc) w w4) := (((Chg.of_grown G1.out (.inr rfl)).trans (Chg.of_grown G2.out (.inl rfl))).trans (Chg.of_grown G3.out (.inr rfl))).trans (Chg.of_grown G4.out (.inr rfl))
    by_cases hm : 1 ≤ m
    · rw [decide_eq_true hm]
      have HM := Lib.hid hm
      clear hm
      go_wp2_with fail
      go_ret
      have b4 := C4.out
      rw [if_pos HM.out] at b4
      unfold AdmitsPost
      rw [E1.out, if_pos HM.out]
      exact ⟨rfl, HCH.out, L4.out, b4⟩
    · rw [decide_eq_false hm]
      have HM := Lib.hid hm
      clear hm
      go_wp2_with fail
      go_ret
      have hm3 : ¬ 1 ≤ m := by have := HM.out; omega
      have b4 := C4.out
      rw [if_neg hm3] at b4
      unfold AdmitsPost
      rw [E1.out, if_neg hm3]
      exact ⟨rfl, HCH.out, L4.out, b4⟩

end Go.Proofs.Ytaibhfcoapelcaa
