/- An authority: a set of numbers as a map, the plain model, how it lies in memory, and its small functions. -/
import Derived.Test.YtjknlijikojbmaaBase
import Derived.MapKept
namespace Go.Proofs.Ytjknlijikojbmaa
open Go.RowKit Go.MapKept

/-! ### a set of numbers, as a map from numbers to true -/
def kv (e : MapEntry) : Value × Value := (e.key, e.val)
def pv (k : Int) : Value × Value := (.int .i64 k, .bool true)

def SetIs (w : World) (b : Nat) (G : List Int) : Prop := ∃ es clock, w.heap[b]? = some (.map es clock) ∧ es.toList.map kv = G.map pv

theorem SetIs.lt {w : World} {b : Nat} {G : List Int} (h : SetIs w b G) : b < w.heap.size := by
  obtain ⟨_, _, hb, _⟩ := h
  exact (Array.getElem?_eq_some_iff.1 hb).1
theorem SetIs.of_block {w w' : World} {b : Nat} {G : List Int} (h : SetIs w b G) (hb : w'.heap[b]? = w.heap[b]?) : SetIs w' b G := by
  obtain ⟨es, c, h1, h2⟩ := h
  exact ⟨es, c, hb.trans h1, h2⟩
theorem SetIs.new (w : World) : SetIs (w.alloc (.map #[] 0)) w.heap.size [] := ⟨#[], 0, (heap_alloc w _).1, by simp⟩
theorem SetIs.ne_blk {w : World} {b g : Nat} {G : List Int} {t : TypeId} {cs : Array Value} (h : SetIs w b G) (h' : Blk w g t cs) : g ≠ b := by
  rintro rfl
  obtain ⟨_, _, hb, _⟩ := h
  unfold Blk at h'
  rw [hb] at h'
  cases h'
theorem SetIs.ne_own {w : World} {b base e size n : Nat} {G : List Int} {v : Value} {xs : List Value} (h : SetIs w b G) (h' : w.ownsRow base e size v n xs) : v.ownBlock ≠ some b := by
  rcases h'.2 with ⟨rfl, _⟩ | ⟨g', cap, cur, rfl, _, hh, _⟩
  · simp [Value.ownBlock]
  · intro he
    have : g' = b := by simpa [Value.ownBlock] using he
    subst this
    exact h.ne_blk (t := e) hh rfl

section
variable {P : Program} {w : World} {b : Nat} {G : List Int} {t kt et : TypeId}
theorem set_keys {es : Array MapEntry} (hp : es.toList.map kv = G.map pv) : ∀ x ∈ es.toList, IsKey (.int .i64) x.key := by
  intro x hx
  have h1 : kv x ∈ G.map pv := by rw [← hp]; exact List.mem_map.2 ⟨x, hx, rfl⟩
  obtain ⟨p, _, e⟩ := List.mem_map.1 h1
  have e1 : x.key = .int .i64 p := (congrArg Prod.fst e).symm
  rw [e1]
  rfl
theorem set_find (h : SetIs w b G) (k : Int) : ∃ es clock, w.heap[b]? = some (.map es clock) ∧ es.toList.map kv = G.map pv ∧
    ((Instr.findNow (.int .i64) (.int .i64 k) es.toList 0 = some none ∧ k ∉ G) ∨ ∃ j, Instr.findNow (.int .i64) (.int .i64 k) es.toList 0 = some (some (j, .bool true)) ∧ k ∈ G) := by
  obtain ⟨es, clock, hb, hp⟩ := h
  refine ⟨es, clock, hb, hp, ?_⟩
  rcases findNow_spec (d := .int .i64) (k := .int .i64 k) rfl es.toList 0 (set_keys hp) with ⟨h1, h2⟩ | ⟨j, e, h1, h2, h3⟩
  · refine .inl ⟨h1, fun hv => ?_⟩
    have : pv k ∈ es.toList.map kv := by rw [hp]; exact List.mem_map.2 ⟨_, hv, rfl⟩
    obtain ⟨x, hx, e⟩ := List.mem_map.1 this
    exact h2 x hx (congrArg Prod.fst e)
  · have hm : kv e ∈ G.map pv := by rw [← hp]; exact List.mem_map.2 ⟨e, List.mem_of_getElem? h2, rfl⟩
    obtain ⟨p, hp1, e1⟩ := List.mem_map.1 hm
    have ev : e.val = .bool true := (congrArg Prod.snd e1).symm
    have ek : Value.int .i64 p = e.key := congrArg Prod.fst e1
    rw [h3] at ek
    have ek' : p = k := by injection ek
    exact .inr ⟨0 + j, by rw [h1, ev], ek' ▸ hp1⟩

theorem set_look (ht : P.underlying t = some (.map kt et)) (hk : P.underlying kt = some (.int .i64)) (hz : (zeroValue et).run P w = .ok (.bool false) w) (h : SetIs w b G) (k : Int) :
    (Instr.lookup t (.map (some b)) (.int .i64 k) false).run P w = .ok (.bool (decide (k ∈ G))) w := by
  obtain ⟨es, clock, hb, _, hf⟩ := set_find h k
  rcases hf with ⟨h1, hno⟩ | ⟨j, h1, hm⟩
  · rw [decide_eq_false hno]
    simp [Instr.lookup, run_underlying ht, MapKept.run_getObj_map hb, run_checkKey hk (d := .int .i64) (k := .int .i64 k) rfl _ 9999, run_findKey hk h1, hz, Result.andThen]
  · rw [decide_eq_true hm]
    simp [Instr.lookup, run_underlying ht, MapKept.run_getObj_map hb, run_checkKey hk (d := .int .i64) (k := .int .i64 k) rfl _ 9999, run_findKey hk h1, Result.andThen]

theorem grown_set {es es' : Array MapEntry} {c c' : Nat} (hb : w.heap[b]? = some (.map es c)) :
    w.grownBy { w with heap := w.heap.setIfInBounds b (.map es' c') } (some b) :=
  ⟨rfl, rfl, rfl, by simp, fun i _ hne => (heap_set (o' := .map es' c') hb).2 i (fun e => hne (by rw [e]))⟩

theorem set_store (ht : P.underlying t = some (.map kt et)) (hk : P.underlying kt = some (.int .i64)) (h : SetIs w b G) (k : Int) (hno : k ∉ G) :
    ∃ w', (Instr.mapUpdate t (.map (some b)) (.int .i64 k) (.bool true)).run P w = .ok () w' ∧ SetIs w' b (G ++ [k]) ∧ w.grownBy w' (some b) := by
  obtain ⟨es, clock, hb, hp, hf⟩ := set_find h k
  rcases hf with ⟨h1, _⟩ | ⟨j, h1, hm⟩
  · refine ⟨_, ?_, ⟨es.push ⟨.int .i64 k, .bool true, clock⟩, clock + 1, (heap_set hb).1, ?_⟩, grown_set hb⟩
    · simp [Instr.mapUpdate, run_underlying ht, MapKept.run_getObj_map hb, run_checkKey hk (d := .int .i64) (k := .int .i64 k) rfl _ 9999, run_findKey hk h1, MapKept.run_setObj_map _ hb, Result.andThen]
    · rw [Array.toList_push, List.map_append, hp, List.map_append]
      rfl
  · exact absurd hm hno
end

/-! ### the plain model -/
structure Ce where
  s : Int
  r : Int
  v : Int
  f : Int
  t : Int
deriving DecidableEq
def ceCells (c : Ce) : List Value := [.int .i64 c.s, .int .i64 c.r, .int .i64 c.v, .int .i64 c.f, .int .i64 c.t]
theorem ceCells_len (c : Ce) : (ceCells c).length = 5 := rfl
theorem ceCells_one (a : Ce) : ∀ u ∈ ceCells a, u.oneCell' = true := by
  intro u hu
  unfold ceCells at hu
  simp only [List.mem_cons, List.not_mem_nil, or_false] at hu
  rcases hu with rfl | rfl | rfl | rfl | rfl <;> rfl
abbrev Ce.val (c : Ce) : Value := .agg #[.int .i64 c.s, .int .i64 c.r, .int .i64 c.v, .int .i64 c.f, .int .i64 c.t]

structure Au where
  l : List Ce
  g : List Int
  u : List Int
def Au.new : Au := ⟨[], [], []⟩
def Au.n (a : Au) : Nat := a.u.length + 1
def Au.trusted (a : Au) (root now : Int) : Bool := decide (root = a.n) || decide (now < a.u.getD (root - 1).toNat 0)
def Au.gave (a : Au) (c : Ce) : Bool := decide (1 ≤ c.s) && (decide (c.s ≤ a.l.length) && decide (a.l[(c.s - 1).toNat]? = some c))
def Au.cert (a : Au) (v now life : Int) : Ce := ⟨a.l.length + 1, a.n, v, now, now + life⟩
def Au.issue (a : Au) (v now life : Int) : Au := { a with l := a.l ++ [a.cert v now life] }
def Au.rotate (a : Au) (now over : Int) : Au := { a with u := a.u.map (fun x => min x (now + over)) ++ [now + over] }
def Au.canGo (a : Au) (s : Int) : Bool := decide (1 ≤ s) && (decide (s ≤ a.l.length) && decide (s ∉ a.g))
def Au.revoke (a : Au) (s : Int) : Au := if a.canGo s then { a with g := a.g ++ [s] } else a
def Au.check (a : Au) (c : Ce) (v now : Int) : Int :=
  if a.gave c = false ∨ c.v ≠ v ∨ a.trusted c.r now = false then 20 else if c.s ∈ a.g then 22 else if now < c.f ∨ c.t ≤ now then 21 else 0
def Au.roots (a : Au) (now : Int) : List Int := ((List.range a.n).map (fun (i : Nat) => (i : Int) + 1)).filter (fun r => a.trusted r now)

/-- How it lies in memory. -/
structure AuIs (base : Nat) (w : World) (g : Nat) (vG : Value) (b : Nat) (vU : Value) (a : Au) : Prop where
  blk : Blk w g 51 #[vG, .map (some b), vU]
  own : w.ownsRow base 24 5 vG a.l.length (a.l.flatMap ceCells)
  set : SetIs w b a.g
  ownU : w.ownsRow base 3 1 vU a.u.length (a.u.map (Value.int .i64))
  hg : base ≤ g
  hb : base ≤ b
  few : a.l.length ≤ 1000
  fewU : a.u.length ≤ 1000

def Foot (g : Nat) (vG : Value) (b : Nat) (vU : Value) (i : Nat) : Prop := i = g ∨ vG.ownBlock = some i ∨ i = b ∨ vU.ownBlock = some i

section
variable {base : Nat} {w w' : World} {g : Nat} {vG : Value} {b : Nat} {vU : Value} {a : Au}
theorem AuIs.foot_lt (h : AuIs base w g vG b vU a) {i : Nat} (hi : Foot g vG b vU i) : base ≤ i ∧ i < w.heap.size := by
  rcases hi with rfl | hi | rfl | hi
  · exact ⟨h.hg, h.blk.lt⟩
  · exact h.own.lt i hi
  · exact ⟨h.hb, h.set.lt⟩
  · exact h.ownU.lt i hi
theorem AuIs.keep (h : AuIs base w g vG b vU a) (hk : ∀ i, Foot g vG b vU i → w'.heap[i]? = w.heap[i]?) : AuIs base w' g vG b vU a :=
  ⟨(hk g (.inl rfl)).trans h.blk, own_keep h.own (fun i hi => hk i (.inr (.inl hi))), h.set.of_block (hk b (.inr (.inr (.inl rfl)))), own_keep h.ownU (fun i hi => hk i (.inr (.inr (.inr hi)))), h.hg, h.hb, h.few, h.fewU⟩
theorem AuIs.chg {F : Nat → Prop} (h : AuIs base w g vG b vU a) (c : Chg F w w') (hf : ∀ i, Foot g vG b vU i → ¬ F i) : AuIs base w' g vG b vU a :=
  h.keep fun i hi => c.block i (h.foot_lt hi).2 (hf i hi)
theorem AuIs.below (h : AuIs base w g vG b vU a) (hb : Below w.heap.size w w') : AuIs base w' g vG b vU a := h.keep fun i hi => hb.block i (h.foot_lt hi).2
theorem AuIs.drew (h : AuIs base w g vG b vU a) : AuIs base w.drew g vG b vU a := h.keep fun _ _ => rfl
theorem AuIs.drewN (h : AuIs base w g vG b vU a) (n : Nat) : AuIs base (w.drewN n) g vG b vU a := h.keep fun _ _ => rfl
theorem AuIs.alloc (h : AuIs base w g vG b vU a) (o : Obj) : AuIs base (w.alloc o) g vG b vU a := h.below (below_alloc (Below.refl _ _) o)
end

/-! ### the small functions -/
set_option maxHeartbeats 400000 in
theorem newest_any {base : Nat} {w : World} {g : Nat} {vG : Value} {b : Nat} {vU : Value} {a : Au} (h : AuIs base w g vG b vU a) :
    Calls Try.prog 26 #[.pointer (some ⟨g, 0, none⟩)] w fun e w' => e = .returned (.int .i64 (a.n : Nat)) ∧ w = w' := by
  obtain ⟨A, c, rfl⟩ := own_form h.ownU
  have hf := h.fewU
  have c2 := h.blk.cell 2
  simp only [List.getElem?_toArray, List.getElem?_cons_zero, List.getElem?_cons_succ] at c2
  clear h
  go_enter Try.func26, Try.ntmps26
  go_wp2
  go_ret
  exact ⟨rfl, rfl⟩

end Go.Proofs.Ytjknlijikojbmaa
