/- A table of keys that took effect, as it lies in memory; what New, over and forget do to it. -/
import Derived.Test.YthbpimkbdkjcnaaBase
namespace Go.Proofs.Ythbpimkbdkjcnaa
open Go.RowKit

/-! ### what may have turned -/
/-- Of the blocks that there were only those of F may have turned. -/
structure Chg (F : Nat → Prop) (w w' : World) : Prop where
  os : w'.os = w.os
  tape : w'.tape = w.tape
  output : w'.output = w.output
  size : w.heap.size ≤ w'.heap.size
  block : ∀ k, k < w.heap.size → ¬ F k → w'.heap[k]? = w.heap[k]?

section
variable {F F' : Nat → Prop} {a b c w w' : World}
theorem Chg.refl (F : Nat → Prop) (w : World) : Chg F w w := ⟨rfl, rfl, rfl, Nat.le_refl _, fun _ _ _ => rfl⟩
theorem Chg.trans (h : Chg F a b) (k : Chg F b c) : Chg F a c :=
  ⟨k.os.trans h.os, k.tape.trans h.tape, k.output.trans h.output, Nat.le_trans h.size k.size, fun i hi hn => (k.block i (Nat.lt_of_lt_of_le hi h.size) hn).trans (h.block i hi hn)⟩
/-- A step that may turn what is new, too. -/
theorem Chg.step (h : Chg F a b) (k : Chg F' b c) (hF : ∀ i, F' i → F i ∨ a.heap.size ≤ i) : Chg F a c :=
  ⟨k.os.trans h.os, k.tape.trans h.tape, k.output.trans h.output, Nat.le_trans h.size k.size, fun i hi hn => (k.block i (Nat.lt_of_lt_of_le hi h.size) (fun hf => by
    rcases hF i hf with h1 | h1
    · exact hn h1
    · omega)).trans (h.block i hi hn)⟩
theorem Chg.mono (h : Chg F a b) (hF : ∀ i, F i → F' i) : Chg F' a b := ⟨h.os, h.tape, h.output, h.size, fun i hi hn => h.block i hi (fun hf => hn (hF i hf))⟩
theorem Chg.drewN (h : Chg F a w) (n : Nat) : Chg F a (w.drewN n) := ⟨h.os, h.tape, h.output, h.size, h.block⟩
theorem Chg.drew (h : Chg F a w) : Chg F a w.drew := ⟨h.os, h.tape, h.output, h.size, h.block⟩
theorem Chg.alloc (h : Chg F a w) (o : Obj) : Chg F a (w.alloc o) :=
  ⟨h.os, h.tape, h.output, Nat.le_trans h.size (by simp), fun i hi hn => (Below.heap_alloc w o i (Nat.lt_of_lt_of_le hi h.size)).trans (h.block i hi hn)⟩
theorem Chg.set (h : Chg F a w) (g i : Nat) (hg : F g ∨ a.heap.size ≤ g) (u : Value) : Chg F a (w.setCell ⟨g, i, none⟩ u) :=
  ⟨h.os, h.tape, h.output, by simpa [World.setCell] using h.size, fun k hk hn => (Below.heap_setCell w ⟨g, i, none⟩ u k (by
    rintro rfl
    rcases hg with hg | hg
    · exact hn hg
    · exact absurd hg (by simpa using hk))).trans (h.block k hk hn)⟩
theorem Chg.of_grown {g : Nat} (h : w.grownBy w' (some g)) (hg : F g) : Chg F w w' :=
  ⟨h.os, h.tape, h.output, h.size, fun k hk hn => h.block k hk (fun e => by injection e with e; exact hn (e ▸ hg))⟩
theorem Chg.of_below (h : Below w.heap.size w w') : Chg F w w' := ⟨h.os, h.tape, h.output, h.size, fun k hk _ => h.block k hk⟩
theorem Chg.below {B : Nat} (h : Chg F a b) (hF : ∀ i, F i → B ≤ i) (hB : B ≤ a.heap.size) : Below B a b :=
  ⟨h.os, h.tape, h.output, h.size, fun k hk => h.block k (by omega) (fun hf => by have := hF k hf; omega)⟩
theorem Blk.chg {g : Nat} {t : TypeId} {cs : Array Value} (h : Blk w g t cs) (k : Chg F w w') (hg : ¬ F g) : Blk w' g t cs := (k.block g h.lt hg).trans h
theorem MapIs.chg {g : Nat} {M : Prs} (h : MapIs w g M) (k : Chg F w w') (hg : ¬ F g) : MapIs w' g M := h.of_block (k.block g h.lt hg)
end

/-! ### a row of pairs -/
/-- A slice value whose elements are the pairs R; its spare room is there. -/
def RowAt (w : World) (v : Value) (R : Prs) : Prop :=
  (v = .slice none 0 0 ∧ R = []) ∨
  ∃ g off cap cur, v = .slice (some ⟨g, off, none⟩) R.length cap ∧ Blk w g 52 cur ∧ R.length ≤ cap ∧ off + cap * 2 ≤ cur.size ∧
    ∀ i x, R[i]? = some x → cur[off + i * 2]? = some (.string x.1) ∧ cur[off + i * 2 + 1]? = some (.int .i64 x.2)

theorem RowAt.len {w : World} {v : Value} {R : Prs} (h : RowAt w v R) : ∃ A cap, v = .slice A R.length cap := by
  rcases h with ⟨rfl, rfl⟩ | ⟨g, off, cap, cur, rfl, _⟩
  · exact ⟨_, _, rfl⟩
  · exact ⟨_, _, rfl⟩
theorem RowAt.of_block {w w' : World} {v : Value} {R : Prs} (h : RowAt w v R) (hb : ∀ g, v.ownBlock = some g → w'.heap[g]? = w.heap[g]?) : RowAt w' v R := by
  rcases h with h | ⟨g, off, cap, cur, rfl, hc, r⟩
  · exact .inl h
  · exact .inr ⟨g, off, cap, cur, rfl, (hb g rfl).trans hc, r⟩
theorem RowAt.lt {w : World} {v : Value} {R : Prs} (h : RowAt w v R) : ∀ g, v.ownBlock = some g → g < w.heap.size := by
  rcases h with ⟨rfl, rfl⟩ | ⟨g, off, cap, cur, rfl, hc, r⟩
  · intro g hg; cases hg
  · intro g' hg'
    have : g = g' := by simpa [Value.ownBlock] using hg'
    exact this ▸ hc.lt
theorem RowAt.ne {w : World} {v : Value} {R : Prs} (h : RowAt w v R) {p : Nat} {cs : Array Value} {t : TypeId} (hp : Blk w p t cs) (ht : t ≠ 52) : v.ownBlock ≠ some p := by
  rcases h with ⟨rfl, rfl⟩ | ⟨g, off, cap, cur, rfl, hc, r⟩
  · simp [Value.ownBlock]
  · intro e
    have e : g = p := by simpa [Value.ownBlock] using e
    exact hp.ne_ hc ht e.symm

/-- The table at p: horizon h, the pairs R, its blocks among F. -/
def Tab (w : World) (F : Nat → Prop) (p : Nat) (h : Int) (M R : Prs) : Prop :=
  ∃ b v, Blk w p 48 #[.int .i64 h, .map (some b), v] ∧ MapIs w b M ∧ RowAt w v R ∧ F p ∧ F b ∧ (∀ g, v.ownBlock = some g → F g) ∧ ∀ k, F k → k < w.heap.size

theorem Tab.chg {w w' : World} {F G : Nat → Prop} {p : Nat} {h : Int} {M R : Prs} (H : Tab w F p h M R) (k : Chg G w w') (hd : ∀ i, F i → ¬ G i) : Tab w' F p h M R := by
  obtain ⟨b, v, h1, h2, h3, h4, h5, h6, h7⟩ := H
  exact ⟨b, v, h1.chg k (hd _ h4), h2.chg k (hd _ h5), h3.of_block (fun g hg => k.block g (h7 _ (h6 g hg)) (hd _ (h6 g hg))), h4, h5, h6, fun i hi => Nat.lt_of_lt_of_le (h7 i hi) k.size⟩
theorem Tab.below {w w' : World} {F : Nat → Prop} {p : Nat} {h : Int} {M R : Prs} (H : Tab w F p h M R) (k : Below w.heap.size w w') : Tab w' F p h M R := H.chg (G := fun _ => False) (Chg.of_below k) (fun _ _ h => h)

def NewTab (h : Int) (w : World) (e : Ending) (w' : World) : Prop :=
  ∃ p, e = .returned (.pointer (some ⟨p, 0, none⟩)) ∧ Tab w' (fun k => w.heap.size ≤ k ∧ k < w'.heap.size) p h [] [] ∧ Below w.heap.size w w'

theorem blk_new2 (w : World) (o : Obj) (t : TypeId) (cs : Array Value) : Blk ((w.alloc o).alloc (.cells cs t)) (w.heap.size + 1) t cs := by
  have h := Blk.new (w.alloc o) t cs
  rwa [World.size_alloc] at h

set_option maxHeartbeats 400000 in
theorem new_any (h : Int) (w : World) : Calls Try.prog 11 #[.int .i64 h] w (NewTab h w) := by
  have hmm := @run_makeMap Try.prog
  go_enter Try.func11, Try.ntmps11
  go_wp2_with fail
  go_ret
  refine ⟨w.heap.size + 1, rfl, ⟨w.heap.size, _, blk_new2 _ _ _ _, (MapIs.new w).of_block (Below.heap_alloc _ _ _ (by simp)), .inl ⟨rfl, rfl⟩, by simp, by simp; omega, by simp [Value.ownBlock], by simp⟩, ((Below.refl _ _).alloc (Nat.le_refl _) _).alloc (by simp) _⟩

set_option maxHeartbeats 400000 in
theorem over_any (p : Nat) (h now at_ : Int) (v1 v2 : Value) (w : World) (hb : Blk w p 48 #[.int .i64 h, v1, v2]) (h1 : 0 ≤ now) (h2 : now ≤ 4294967296) (h3 : 0 ≤ at_) (h4 : at_ ≤ 4294967296) :
    Calls Try.prog 24 #[.pointer (some ⟨p, 0, none⟩), .int .i64 now, .int .i64 at_] w fun e w' => e = .returned (.bool (decide (h ≤ now - at_))) ∧ w = w' := by
  have c0 : w.cell? ⟨p, 0, none⟩ = some (.int .i64 h) := by rw [hb.cell]; rfl
  have HB := Lib.hid hb
  clear hb
  go_enter Try.func24, Try.ntmps24
  go_wp2_with fail
  go_ret
  exact ⟨rfl, rfl⟩

end Go.Proofs.Ythbpimkbdkjcnaa
