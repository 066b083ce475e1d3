/- Two tables side by side, and blocks beside them: what an operation on one of them leaves. -/
import Derived.Test.YthbpimkbdkjcnaaArgs
namespace Go.Proofs.Ythbpimkbdkjcnaa
open Go.RowKit

/-- Two tables that share nothing, and blocks beside them; what was there ahead of the call is as it was. -/
structure Two (w0 w : World) (F G : Nat → Prop) (p q : Nat) (h h' t : Int) (L M : Prs) (xs : List (Nat × Array Value)) : Prop where
  a : Tab w F p h L L
  b : Tab w G q h' M M
  oka : Ok t L
  okb : Ok t M
  fa : From w0.heap.size F
  fb : From w0.heap.size G
  dis : ∀ i, F i → ¬ G i
  bel : Below w0.heap.size w0 w
  keep : ∀ x ∈ xs, Blk w x.1 28 x.2 ∧ ¬ F x.1 ∧ ¬ G x.1

section
variable {w0 w w' : World} {F G : Nat → Prop} {p q : Nat} {h h' t t' : Int} {L M : Prs} {xs : List (Nat × Array Value)}

theorem Two.swap (H : Two w0 w F G p q h h' t L M xs) : Two w0 w G F q p h' h t M L xs :=
  ⟨H.b, H.a, H.okb, H.oka, H.fb, H.fa, fun i hi hj => H.dis i hj hi, H.bel, fun x hx => ⟨(H.keep x hx).1, (H.keep x hx).2.2, (H.keep x hx).2.1⟩⟩
theorem Two.later (H : Two w0 w F G p q h h' t L M xs) (ht : t ≤ t') : Two w0 w F G p q h h' t' L M xs :=
  ⟨H.a, H.b, H.oka.later ht, H.okb.later ht, H.fa, H.fb, H.dis, H.bel, H.keep⟩
theorem Two.drop (H : Two w0 w F G p q h h' t L M xs) : Two w0 w F G p q h h' t L M [] :=
  ⟨H.a, H.b, H.oka, H.okb, H.fa, H.fb, H.dis, H.bel, fun x hx => by cases hx⟩
theorem Two.below (H : Two w0 w F G p q h h' t L M xs) (hb : Below w.heap.size w w') : Two w0 w' F G p q h h' t L M xs :=
  ⟨H.a.below hb, H.b.below hb, H.oka, H.okb, H.fa, H.fb, H.dis, below_next H.bel hb, fun x hx => ⟨(H.keep x hx).1.below hb (H.keep x hx).1.lt, (H.keep x hx).2⟩⟩
theorem Two.drewN (H : Two w0 w F G p q h h' t L M xs) (n : Nat) : Two w0 (w.drewN n) F G p q h h' t L M xs :=
  H.below ⟨rfl, rfl, rfl, Nat.le_refl _, fun _ _ => rfl⟩
theorem Two.drew (H : Two w0 w F G p q h h' t L M xs) : Two w0 w.drew F G p q h h' t L M xs :=
  H.below ⟨rfl, rfl, rfl, Nat.le_refl _, fun _ _ => rfl⟩
/-- A new block beside them. -/
theorem Two.box (H : Two w0 w F G p q h h' t L M xs) (cs : Array Value) : Two w0 (w.alloc (.cells cs 28)) F G p q h h' t L M ((w.heap.size, cs) :: xs) := by
  have hb := below_alloc (Below.refl w.heap.size w) (.cells cs 28)
  have H1 := H.below hb
  refine ⟨H1.a, H1.b, H1.oka, H1.okb, H1.fa, H1.fb, H1.dis, H1.bel, fun x hx => ?_⟩
  rcases List.mem_cons.1 hx with rfl | hx
  · exact ⟨Blk.new _ _ _, fun hf => Nat.lt_irrefl _ (H.a.all _ hf), fun hg => Nat.lt_irrefl _ (H.b.all _ hg)⟩
  · exact H1.keep x hx
theorem Two.chg {F' : Nat → Prop} {L' : Prs} (H : Two w0 w F G p q h h' t L M xs) (ht : t ≤ t') (c : Chg F w w') (T : Tab w' F' p h L' L') (ok : Ok t' L') (hF : ∀ i, F' i → F i ∨ w.heap.size ≤ i) : Two w0 w' F' G p q h h' t' L' M xs := by
  refine ⟨T, H.b.chg c (fun i hi hf => H.dis i hf hi), ok, H.okb.later ht, ?_, H.fb, ?_, below_chg H.bel H.fa c, ?_⟩
  · intro i hi
    rcases hF i hi with h1 | h1
    · exact H.fa i h1
    · exact Nat.le_trans H.bel.size h1
  · intro i hi hg
    rcases hF i hi with h1 | h1
    · exact H.dis i h1 hg
    · exact absurd (H.b.all i hg) (by omega)
  · intro x hx
    obtain ⟨h1, h2, h3⟩ := H.keep x hx
    refine ⟨h1.chg c h2, fun hf => ?_, h3⟩
    rcases hF _ hf with h4 | h4
    · exact h2 h4
    · exact absurd h1.lt (by omega)

/-- What a Put on the first one leaves. -/
def PutA (w0 : World) (G : Nat → Prop) (p q : Nat) (h h' now : Int) (L M : Prs) (xs : List (Nat × Array Value)) (k : ByteArray) (e : Ending) (w' : World) : Prop :=
  e = .returned (.bool (!hasL h now L k)) ∧ ∃ F', Two w0 w' F' G p q h h' now (putL h now L k) M xs
def HasA (w0 : World) (F G : Nat → Prop) (p q : Nat) (h h' now : Int) (L M : Prs) (xs : List (Nat × Array Value)) (k : ByteArray) (e : Ending) (w' : World) : Prop :=
  e = .returned (.bool (hasL h now L k)) ∧ Two w0 w' F G p q h h' now (live h now L) M xs
def LenA (w0 : World) (F G : Nat → Prop) (p q : Nat) (h h' now : Int) (L M : Prs) (xs : List (Nat × Array Value)) (e : Ending) (w' : World) : Prop :=
  e = .returned (.int .i64 (live h now L).length) ∧ Two w0 w' F G p q h h' now (live h now L) M xs

theorem put_a (H : Two w0 w F G p q h h' t L M xs) (now : Int) (k : ByteArray) (hh : 1 ≤ h) (ht : t ≤ now) (h1 : 0 ≤ now) (h2 : now ≤ 4294967296) (hl : L.length ≤ 999999) :
    Calls Try.prog 13 #[.pointer (some ⟨p, 0, none⟩), .int .i64 now, .string k] w (PutA w0 G p q h h' now L M xs k) :=
  (put_any w F p h now t L k H.a H.oka hh ht h1 h2 hl).mono fun _ w' ⟨he, T, c⟩ => ⟨he, _, H.chg ht c T (H.oka.putL ht h1) (fun i hi => by
    rcases hi with hi | hi
    · exact .inl hi
    · exact .inr hi.1)⟩
theorem has_a (H : Two w0 w F G p q h h' t L M xs) (now : Int) (k : ByteArray) (ht : t ≤ now) (h1 : 0 ≤ now) (h2 : now ≤ 4294967296) (hl : L.length ≤ 999999) :
    Calls Try.prog 15 #[.pointer (some ⟨p, 0, none⟩), .int .i64 now, .string k] w (HasA w0 F G p q h h' now L M xs k) :=
  (has_any w F p h now t L k H.a H.oka ht h1 h2 (by omega)).mono fun _ w' ⟨he, T, c⟩ => ⟨he, H.chg ht c T ((H.oka.of_live h now).later ht) (fun i hi => .inl hi)⟩
theorem len_a (H : Two w0 w F G p q h h' t L M xs) (now : Int) (ht : t ≤ now) (h1 : 0 ≤ now) (h2 : now ≤ 4294967296) (hl : L.length ≤ 999999) :
    Calls Try.prog 18 #[.pointer (some ⟨p, 0, none⟩), .int .i64 now] w (LenA w0 F G p q h h' now L M xs) :=
  (len_any w F p h now t L H.a H.oka ht h1 h2 (by omega)).mono fun _ w' ⟨he, T, c⟩ => ⟨he, H.chg ht c T ((H.oka.of_live h now).later ht) (fun i hi => .inl hi)⟩

def PutB (w0 : World) (F : Nat → Prop) (p q : Nat) (h h' now : Int) (L M : Prs) (xs : List (Nat × Array Value)) (k : ByteArray) (e : Ending) (w' : World) : Prop :=
  e = .returned (.bool (!hasL h' now M k)) ∧ ∃ G', Two w0 w' F G' p q h h' now L (putL h' now M k) xs
def HasB (w0 : World) (F G : Nat → Prop) (p q : Nat) (h h' now : Int) (L M : Prs) (xs : List (Nat × Array Value)) (k : ByteArray) (e : Ending) (w' : World) : Prop :=
  e = .returned (.bool (hasL h' now M k)) ∧ Two w0 w' F G p q h h' now L (live h' now M) xs
def LenB (w0 : World) (F G : Nat → Prop) (p q : Nat) (h h' now : Int) (L M : Prs) (xs : List (Nat × Array Value)) (e : Ending) (w' : World) : Prop :=
  e = .returned (.int .i64 (live h' now M).length) ∧ Two w0 w' F G p q h h' now L (live h' now M) xs

theorem put_b (H : Two w0 w F G p q h h' t L M xs) (now : Int) (k : ByteArray) (hh : 1 ≤ h') (ht : t ≤ now) (h1 : 0 ≤ now) (h2 : now ≤ 4294967296) (hl : M.length ≤ 999999) :
    Calls Try.prog 13 #[.pointer (some ⟨q, 0, none⟩), .int .i64 now, .string k] w (PutB w0 F p q h h' now L M xs k) :=
  (put_a H.swap now k hh ht h1 h2 hl).mono fun _ _ ⟨he, G', T⟩ => ⟨he, G', T.swap⟩
theorem has_b (H : Two w0 w F G p q h h' t L M xs) (now : Int) (k : ByteArray) (ht : t ≤ now) (h1 : 0 ≤ now) (h2 : now ≤ 4294967296) (hl : M.length ≤ 999999) :
    Calls Try.prog 15 #[.pointer (some ⟨q, 0, none⟩), .int .i64 now, .string k] w (HasB w0 F G p q h h' now L M xs k) :=
  (has_a H.swap now k ht h1 h2 hl).mono fun _ _ ⟨he, T⟩ => ⟨he, T.swap⟩
theorem len_b (H : Two w0 w F G p q h h' t L M xs) (now : Int) (ht : t ≤ now) (h1 : 0 ≤ now) (h2 : now ≤ 4294967296) (hl : M.length ≤ 999999) :
    Calls Try.prog 18 #[.pointer (some ⟨q, 0, none⟩), .int .i64 now] w (LenB w0 F G p q h h' now L M xs) :=
  (len_a H.swap now ht h1 h2 hl).mono fun _ _ ⟨he, T⟩ => ⟨he, T.swap⟩

theorem Two.cell (H : Two w0 w F G p q h h' t L M xs) {g : Nat} {cs : Array Value} (hx : (g, cs) ∈ xs) (i : Nat) : w.cell? ⟨g, i, none⟩ = cs[i]? := (H.keep _ hx).1.cell i
end

/-- A field of a step by value. -/
theorem run_field0 (l : Int) (s : ByteArray) (b : Bool) (w : World) : (Instr.field 28 (.agg #[.int .i64 l, .string s, .bool b]) 0).run Try.prog w = .ok (.int .i64 l) w := by kernel_rfl
theorem run_field1 (l : Int) (s : ByteArray) (b : Bool) (w : World) : (Instr.field 28 (.agg #[.int .i64 l, .string s, .bool b]) 1).run Try.prog w = .ok (.string s) w := by kernel_rfl

/-- Two new tables. -/
theorem two_new {w0 w1 w2 : World} {p q : Nat} {h h' : Int} (hb0 : Below w0.heap.size w0 w1) {wa : World} (b1 : Below wa.heap.size wa w1) (h0 : w0.heap.size ≤ wa.heap.size) (t1 : Tab w1 (fun k => wa.heap.size ≤ k ∧ k < w1.heap.size) p h [] [])
    (t2 : Tab w2 (fun k => w1.heap.size ≤ k ∧ k < w2.heap.size) q h' [] []) (b2 : Below w1.heap.size w1 w2) :
    Two w0 w2 (fun k => wa.heap.size ≤ k ∧ k < w1.heap.size) (fun k => w1.heap.size ≤ k ∧ k < w2.heap.size) p q h h' 0 [] [] [] :=
  ⟨t1.below b2, t2, Ok.nil 0, Ok.nil 0, fun i hi => by omega, fun i hi => by have := b1.size; omega, fun i hi hj => by omega, below_next hb0 b2, fun x hx => by cases hx⟩

end Go.Proofs.Ythbpimkbdkjcnaa
