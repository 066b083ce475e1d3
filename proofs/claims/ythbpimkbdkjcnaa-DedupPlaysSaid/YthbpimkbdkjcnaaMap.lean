/- A map from texts to numbers, as a list of pairs in any order: what look-up, store, delete and len do to it. -/
import Derived.Test.YthbpimkbdkjcnaaRows
import Derived.WalkKit
import Derived.WalkSpells
import Derived.WalkLawsBesides
import Derived.Handy
import Derived.Lib.Hide
import Derived.MapKept
namespace Go.Proofs.Ythbpimkbdkjcnaa
open Go.RowKit Go.MapKept

abbrev Prs := List (ByteArray × Int)
def kv (e : MapEntry) : Value × Value := (e.key, e.val)
def pv (p : ByteArray × Int) : Value × Value := (.string p.1, .int .i64 p.2)

theorem pv_inj {p q : ByteArray × Int} (h : pv p = pv q) : p = q := by
  obtain ⟨a, b⟩ := p
  obtain ⟨c, d⟩ := q
  simp [pv] at h
  rw [h.1, h.2]

/-- Block b is a map that holds just the pairs M, in some order; no key twice. -/
def MapIs (w : World) (b : Nat) (M : Prs) : Prop :=
  ∃ es clock, w.heap[b]? = some (.map es clock) ∧ (es.toList.map kv).Perm (M.map pv) ∧ (M.map (·.1)).Nodup

/-- The pairs but the one of a key. -/
def without (M : Prs) (k : ByteArray) : Prs := M.filter fun p => decide (p.1 ≠ k)

theorem mem_without {M : Prs} {k : ByteArray} {p : ByteArray × Int} : p ∈ without M k ↔ p ∈ M ∧ p.1 ≠ k := by simp [without]

theorem without_none {M : Prs} {k : ByteArray} (h : ∀ v, (k, v) ∉ M) : without M k = M := by
  unfold without
  rw [List.filter_eq_self]
  intro p hp
  simp only [decide_eq_true_eq]
  rintro rfl
  exact h _ hp

theorem keys_one {M : Prs} (h : (M.map (·.1)).Nodup) {k : ByteArray} {v v' : Int} (h1 : (k, v) ∈ M) (h2 : (k, v') ∈ M) : v = v' := by
  induction M with
  | nil => cases h1
  | cons p r ih =>
    simp only [List.map_cons, List.nodup_cons] at h
    rcases List.mem_cons.1 h1 with e1 | e1 <;> rcases List.mem_cons.1 h2 with e2 | e2
    · rw [← e1] at e2; injection e2 with _ e; exact e.symm
    · exact absurd (List.mem_map.2 ⟨_, e2, by rw [← e1]⟩) h.1
    · exact absurd (List.mem_map.2 ⟨_, e1, by rw [← e2]⟩) h.1
    · exact ih h.2 e1 e2

theorem perm_without {M : Prs} (h : (M.map (·.1)).Nodup) {k : ByteArray} {v : Int} (hm : (k, v) ∈ M) : M.Perm ((k, v) :: without M k) := by
  induction M with
  | nil => cases hm
  | cons p r ih =>
    simp only [List.map_cons, List.nodup_cons] at h
    rcases List.mem_cons.1 hm with e | e
    · subst e
      have hr : without ((k, v) :: r) k = r := by
        have h0 : without r k = r := without_none (fun v' hv => h.1 (List.mem_map.2 ⟨_, hv, rfl⟩))
        unfold without at h0 ⊢
        rw [List.filter_cons_of_neg (by simp)]
        exact h0
      rw [hr]
    · have hne : p.1 ≠ k := by
        rintro rfl
        exact h.1 (List.mem_map.2 ⟨_, e, rfl⟩)
      have hr : without (p :: r) k = p :: without r k := by
        unfold without
        rw [List.filter_cons_of_pos (by simpa using hne)]
      rw [hr]
      exact ((ih h.2 e).cons p).trans (List.Perm.swap _ _ _)

theorem nodup_without {M : Prs} (h : (M.map (·.1)).Nodup) (k : ByteArray) : ((without M k).map (·.1)).Nodup :=
  h.sublist (List.filter_sublist.map _)

theorem nodup_put {M : Prs} (h : (M.map (·.1)).Nodup) (k : ByteArray) (v : Int) : ((((k, v) :: without M k) : Prs).map (·.1)).Nodup := by
  rw [List.map_cons, List.nodup_cons]
  refine ⟨fun hm => ?_, nodup_without h k⟩
  obtain ⟨p, hp, e⟩ := List.mem_map.1 hm
  exact (mem_without.1 hp).2 e

theorem MapIs.perm {w : World} {b : Nat} {M M' : Prs} (h : MapIs w b M) (hp : M.Perm M') : MapIs w b M' := by
  obtain ⟨es, c, hb, he, hn⟩ := h
  exact ⟨es, c, hb, he.trans (hp.map _), (hp.map _).nodup_iff.1 hn⟩
theorem MapIs.nodup {w : World} {b : Nat} {M : Prs} (h : MapIs w b M) : (M.map (·.1)).Nodup := by
  obtain ⟨_, _, _, _, hn⟩ := h
  exact hn
theorem MapIs.lt {w : World} {b : Nat} {M : Prs} (h : MapIs w b M) : b < w.heap.size := by
  obtain ⟨_, _, hb, _⟩ := h
  exact (Array.getElem?_eq_some_iff.1 hb).1
theorem MapIs.of_block {w w' : World} {b : Nat} {M : Prs} (h : MapIs w b M) (hb : w'.heap[b]? = w.heap[b]?) : MapIs w' b M := by
  obtain ⟨es, c, h1, h2⟩ := h
  exact ⟨es, c, hb.trans h1, h2⟩
theorem MapIs.new (w : World) : MapIs (w.alloc (.map #[] 0)) w.heap.size [] := ⟨#[], 0, (heap_alloc w _).1, by simp, by simp⟩

section
variable {P : Program} {w : World} {b : Nat} {M : Prs} {t kt et : TypeId}

theorem mapIs_keys {es : Array MapEntry} (hp : (es.toList.map kv).Perm (M.map pv)) : ∀ x ∈ es.toList, IsKey .string x.key := by
  intro x hx
  have h1 : kv x ∈ M.map pv := hp.subset (List.mem_map.2 ⟨x, hx, rfl⟩)
  obtain ⟨p, _, e⟩ := List.mem_map.1 h1
  have e1 : x.key = .string p.1 := by
    have := congrArg Prod.fst e
    exact this.symm
  rw [e1]
  trivial

theorem mapIs_find (h : MapIs w b M) (k : ByteArray) : ∃ es clock, w.heap[b]? = some (.map es clock) ∧ (es.toList.map kv).Perm (M.map pv) ∧
    ((Instr.findNow .string (.string k) es.toList 0 = some none ∧ ∀ v, (k, v) ∉ M) ∨
     ∃ j e v, Instr.findNow .string (.string k) es.toList 0 = some (some (j, .int .i64 v)) ∧ es.toList[j]? = some e ∧ e.key = .string k ∧ e.val = .int .i64 v ∧ (k, v) ∈ M) := by
  obtain ⟨es, clock, hb, hp, hn⟩ := h
  refine ⟨es, clock, hb, hp, ?_⟩
  rcases findNow_spec (d := .string) (k := .string k) trivial es.toList 0 (mapIs_keys hp) with ⟨h1, h2⟩ | ⟨j, e, h1, h2, h3⟩
  · refine .inl ⟨h1, fun v hv => ?_⟩
    have : pv (k, v) ∈ es.toList.map kv := hp.symm.subset (List.mem_map.2 ⟨_, hv, rfl⟩)
    obtain ⟨x, hx, e⟩ := List.mem_map.1 this
    exact h2 x hx (congrArg Prod.fst e)
  · have hm : kv e ∈ M.map pv := hp.subset (List.mem_map.2 ⟨e, List.mem_of_getElem? h2, rfl⟩)
    obtain ⟨p, hp1, e1⟩ := List.mem_map.1 hm
    have ev : Value.int .i64 p.2 = e.val := congrArg Prod.snd e1
    have ek : Value.string p.1 = e.key := congrArg Prod.fst e1
    rw [h3] at ek
    have ek' : p.1 = k := by injection ek
    refine .inr ⟨j, e, p.2, by rw [← ev] at h1; simpa using h1, h2, h3, ev.symm, ?_⟩
    rw [← ek']
    exact hp1

theorem look_has (ht : P.underlying t = some (.map kt et)) (hk : P.underlying kt = some .string) (h : MapIs w b M) {k : ByteArray} {v : Int} (hm : (k, v) ∈ M) :
    (Instr.lookup t (.map (some b)) (.string k) true).run P w = .ok (.tuple #[.int .i64 v, .bool true]) w := by
  obtain ⟨es, clock, hb, _, hf⟩ := mapIs_find h k
  rcases hf with ⟨_, hno⟩ | ⟨j, e, v', h1, _, _, _, hm'⟩
  · exact absurd hm (hno v)
  · obtain rfl := keys_one h.nodup hm hm'
    simp [Instr.lookup, run_underlying ht, MapKept.run_getObj_map hb, run_checkKey hk (d := .string) (k := .string k) trivial _ 9999, run_findKey hk h1, Result.andThen]

theorem look_not (ht : P.underlying t = some (.map kt et)) (hk : P.underlying kt = some .string) (hz : (zeroValue et).run P w = .ok (.int .i64 0) w) (h : MapIs w b M) {k : ByteArray} (hm : ∀ v, (k, v) ∉ M) :
    (Instr.lookup t (.map (some b)) (.string k) true).run P w = .ok (.tuple #[.int .i64 0, .bool false]) w := by
  obtain ⟨es, clock, hb, _, hf⟩ := mapIs_find h k
  rcases hf with ⟨h1, _⟩ | ⟨j, e, v', _, _, _, _, hm'⟩
  · simp [Instr.lookup, run_underlying ht, MapKept.run_getObj_map hb, run_checkKey hk (d := .string) (k := .string k) trivial _ 9999, run_findKey hk h1, hz, Result.andThen]
  · exact absurd hm' (hm v')

theorem grown_set {es es' : Array MapEntry} {c c' : Nat} (hb : w.heap[b]? = some (.map es c)) :
    w.grownBy { w with heap := w.heap.setIfInBounds b (.map es' c') } (some b) :=
  ⟨rfl, rfl, rfl, by simp, fun i _ hne => (heap_set (o' := .map es' c') hb).2 i (fun e => hne (by rw [e]))⟩

theorem perm_eraseIdx {α : Type} : ∀ (l : List α) (j : Nat) (x : α), l[j]? = some x → l.Perm (x :: l.eraseIdx j)
  | [], _, _, h => by simp at h
  | y :: r, 0, x, h => by
    simp at h
    subst h
    simp
  | y :: r, j + 1, x, h => by
    simp at h
    simp only [List.eraseIdx_cons_succ]
    exact ((perm_eraseIdx r j x h).cons y).trans (List.Perm.swap _ _ _)

theorem map_modify_kv (k v : Value) : ∀ (l : List MapEntry) (j : Nat), (l.modify j (fun e => { e with key := k, val := v })).map kv = (l.map kv).modify j (fun _ => (k, v))
  | [], _ => by simp
  | x :: r, 0 => by simp [kv]
  | x :: r, j + 1 => by simp [map_modify_kv k v r j]

theorem perm_modify {α : Type} (y : α) : ∀ (l : List α) (j : Nat) (x : α), l[j]? = some x → (l.modify j (fun _ => y)).Perm (y :: l.eraseIdx j)
  | [], _, _, h => by simp at h
  | z :: r, 0, x, h => by simp
  | z :: r, j + 1, x, h => by
    simp at h
    simp only [List.modify_succ_cons, List.eraseIdx_cons_succ]
    exact ((perm_modify y r j x h).cons z).trans (List.Perm.swap _ _ _)

theorem rest_perm {es : Array MapEntry} {j : Nat} {e : MapEntry} {k : ByteArray} {v : Int} (hp : (es.toList.map kv).Perm (M.map pv)) (hn : (M.map (·.1)).Nodup) (hj : es.toList[j]? = some e) (hk : e.key = .string k) (hv : e.val = .int .i64 v) (hm : (k, v) ∈ M) :
    ((es.toList.map kv).eraseIdx j).Perm ((without M k).map pv) := by
  have h1 := perm_eraseIdx (es.toList.map kv) j (kv e) (by rw [List.getElem?_map, hj]; rfl)
  have h2 := (perm_without hn hm).map pv
  have h3 := h1.symm.trans (hp.trans h2)
  have e1 : kv e = pv (k, v) := by simp [kv, pv, hk, hv]
  rw [e1, List.map_cons] at h3
  exact List.Perm.cons_inv h3

theorem store_law (ht : P.underlying t = some (.map kt et)) (hk : P.underlying kt = some .string) (h : MapIs w b M) (k : ByteArray) (v : Int) :
    ∃ w', (Instr.mapUpdate t (.map (some b)) (.string k) (.int .i64 v)).run P w = .ok () w' ∧ MapIs w' b ((k, v) :: without M k) ∧ w.grownBy w' (some b) := by
  obtain ⟨es, clock, hb, hp, hf⟩ := mapIs_find h k
  rcases hf with ⟨h1, hno⟩ | ⟨j, e, v', h1, hj, hke, hve, hm⟩
  · refine ⟨_, ?_, ⟨es.push ⟨.string k, .int .i64 v, clock⟩, clock + 1, (heap_set hb).1, ?_, nodup_put h.nodup k v⟩, grown_set hb⟩
    · simp [Instr.mapUpdate, run_underlying ht, MapKept.run_getObj_map hb, run_checkKey hk (d := .string) (k := .string k) trivial _ 9999, run_findKey hk h1, MapKept.run_setObj_map _ hb, Result.andThen]
    · rw [without_none hno, Array.toList_push, List.map_append, List.map_cons, List.map_cons, List.map_nil]
      exact (List.perm_append_singleton _ _).trans (hp.cons _)
  · have hj' : es[j]? = some e := by simpa using hj
    refine ⟨_, ?_, ⟨es.modify j (fun e => { e with key := .string k, val := .int .i64 v }), clock, (heap_set hb).1, ?_, nodup_put h.nodup k v⟩, grown_set hb⟩
    · simp [Instr.mapUpdate, run_underlying ht, MapKept.run_getObj_map hb, run_checkKey hk (d := .string) (k := .string k) trivial _ 9999, run_findKey hk h1, hj', hke, run_keyThatStays (d := .string) (k := .string k) trivial, MapKept.run_setObj_map _ hb, Result.andThen]
    · rw [Array.toList_modify, map_modify_kv, List.map_cons]
      exact (perm_modify _ _ j (kv e) (by rw [List.getElem?_map, hj]; rfl)).trans ((rest_perm hp h.nodup hj hke hve hm).cons _)

theorem map_eraseIdx' {α β : Type} (f : α → β) : ∀ (l : List α) (j : Nat), (l.eraseIdx j).map f = (l.map f).eraseIdx j
  | [], _ => by simp
  | x :: r, 0 => by simp
  | x :: r, j + 1 => by simp [map_eraseIdx' f r j]

theorem drop_law {ty : TypeId} (ht : P.underlying t = some (.map kt et)) (hk : P.underlying kt = some .string) (h : MapIs w b M) (k : ByteArray) :
    ∃ w', (Builtin.delete_ #[t, kt] ty #[.map (some b), .string k]).run P w = .ok (.tuple #[]) w' ∧ MapIs w' b (without M k) ∧ w.grownBy w' (some b) := by
  obtain ⟨es, clock, hb, hp, hf⟩ := mapIs_find h k
  rcases hf with ⟨h1, hno⟩ | ⟨j, e, v', h1, hj, hke, hve, hm⟩
  · refine ⟨_, ?_, ⟨es, clock, (heap_set hb).1, ?_, nodup_without h.nodup k⟩, grown_set hb⟩
    · simp [Builtin.delete_, run_underlying ht, MapKept.run_getObj_map hb, run_checkKey hk (d := .string) (k := .string k) trivial _ 9999, run_findKey hk h1, MapKept.run_setObj_map _ hb, Result.andThen]
    · rw [without_none hno]
      exact hp
  · have hjs : j < es.size := by
      have := (List.getElem?_eq_some_iff.1 hj).1
      simpa using this
    have hsub : (es.eraseIdxIfInBounds j).toList = es.toList.eraseIdx j := by
      unfold Array.eraseIdxIfInBounds
      rw [dif_pos hjs]
      simp
    refine ⟨_, ?_, ⟨es.eraseIdxIfInBounds j, clock, (heap_set hb).1, ?_, nodup_without h.nodup k⟩, grown_set hb⟩
    · simp [Builtin.delete_, run_underlying ht, MapKept.run_getObj_map hb, run_checkKey hk (d := .string) (k := .string k) trivial _ 9999, run_findKey hk h1, MapKept.run_setObj_map _ hb, Result.andThen]
    · rw [hsub, map_eraseIdx']
      exact rest_perm hp h.nodup hj hke hve hm

theorem len_law {ty : TypeId} (ht : P.underlying t = some (.map kt et)) (h : MapIs w b M) : (Builtin.len_ #[t] ty #[.map (some b)]).run P w = .ok (goInt M.length) w := by
  obtain ⟨es, clock, hb, hp, _⟩ := h
  have hl : es.size = M.length := by
    have := hp.length_eq
    simpa using this
  simp [Builtin.len_, run_underlying ht, MapKept.run_getObj_map hb, hl]
end

end Go.Proofs.Ythbpimkbdkjcnaa
