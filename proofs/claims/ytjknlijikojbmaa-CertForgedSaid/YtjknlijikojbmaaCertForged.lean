/- CertForged answers true for every input, and each argument reads afterwards as it read before. No conditions. -/
import Derived.Test.YtjknlijikojbmaaRows
import Derived.Test.YtjknlijikojbmaaForgedW
import Derived.WalkKit
import Derived.ProofKit
import Derived.OpenShut
import Derived.ShutString
import Derived.ChangeOld
import Derived.Below
import Derived.Lib.SmallJoins
namespace Go.Proofs.Ytjknlijikojbmaa.certForged
open Go.ChangeShapes Go.WideShapes Go.ChangeAt Go.RowKit Go.Joins
open Go.ChangeMaps (open_string shut_string)
set_option linter.unusedVariables false

theorem own : ownKnob Try.prog.godebug = none := by kernel_rfl
theorem laidOut : laidOutB Try.prog = true := by kernel_rfl

theorem walk (a0 : Option Addr) (len0 cap0 : Nat) (z0 : List Int) (a1 : Int) (a2 : Int) (a3 : Int) (a4_0 a4_1 a4_2 a4_3 a4_4 : Int) (w : World) (w0 : IsRow w a0 len0 cap0 z0) (w1 : (Lit.int .i64 a1).wf = true) (w2 : (Lit.int .i64 a2).wf = true) (w3 : (Lit.int .i64 a3).wf = true) (w4_0 : (Lit.int .i64 a4_0).wf = true) (w4_1 : (Lit.int .i64 a4_1).wf = true) (w4_2 : (Lit.int .i64 a4_2).wf = true) (w4_3 : (Lit.int .i64 a4_3).wf = true) (w4_4 : (Lit.int .i64 a4_4).wf = true) :
    Calls Try.prog 3 #[.slice a0 len0 cap0, .int .i64 a1, .int .i64 a2, .int .i64 a3, .agg #[.int .i64 a4_0, .int .i64 a4_1, .int .i64 a4_2, .int .i64 a4_3, .int .i64 a4_4]] w fun e w' => e = .returned (.bool true) ∧ Below w.heap.size w w' := by
  exact forged_walk a0 len0 cap0 z0 a1 a2 a3 ⟨a4_0, a4_1, a4_2, a4_3, a4_4⟩ w w0 (bounds_i64 w1).1 (bounds_i64 w1).2 (bounds_i64 w2).1 (bounds_i64 w2).2 (bounds_i64 w4_0).1 (bounds_i64 w4_0).2

set_option maxRecDepth 100000 in
theorem lifted (os : Os) (started : os.Started) (H : Type) (enc : TypeId × Value → H) :
    ReturnsInHanded {} Try.checked os 3 .any (Rows.certForgedSpec.pre6 enc Try.prog Try.f3 Rows.certForgedRow.domain false) (Rows.certForgedSpec.post enc Try.prog Try.f3 false true false false) := by
  refine returnsInHanded_of_change (C := Try.checked) own started (by kernel_rfl) Try.func3
    (ChangeSpec.witness6 (enc := enc) (C := Try.checked) false ⟨#[], #[.slice none 0 0, .int .i64 0, .int .i64 0, .int .i64 0, .agg #[.int .i64 0, .int .i64 0, .int .i64 0, .int .i64 0, .int .i64 0]], []⟩ 8 (by kernel_rfl) (by kernel_rfl) (by kernel_rfl) (by kernel_rfl)) ?_
  intro W base args ds gs before hval0 hW hcnd _
  have hval : ∀ (j : Nat) t v, Try.f3.params[j]? = some t → args[j]? = some v → Value.okWide Try.prog W .any base t v := hval0
  have hW' := hW
  obtain ⟨p, q, hA0, hV, rfl, hfz, hnd⟩ := hW
  have hA : DataW.TrodAll enc Try.prog W 0 (fun _ => true) true Try.f3.params.toList args.toList ds p := hA0
  rw [Try.params3] at hA hval
  obtain ⟨v0, vs0, d0, ds0, p0, q0, hargs, rfl, rfl, h0, r0⟩ := trodAll_cons hA
  obtain ⟨v1, vs1, d1, ds1, p1, q1, rfl, rfl, rfl, h1, r1⟩ := trodAll_cons r0
  obtain ⟨v2, vs2, d2, ds2, p2, q2, rfl, rfl, rfl, h2, r2⟩ := trodAll_cons r1
  obtain ⟨v3, vs3, d3, ds3, p3, q3, rfl, rfl, rfl, h3, r3⟩ := trodAll_cons r2
  obtain ⟨v4, vs4, d4, ds4, p4, q4, rfl, rfl, rfl, h4, r4⟩ := trodAll_cons r3
  obtain ⟨rfl, rfl, rfl⟩ := trodAll_nil r4
  obtain rfl : args = #[v0, v1, v2, v3, v4] := by cases args; simp_all
  obtain ⟨rfl, rfl⟩ := trodVars_none hV
  have k0 := h0
  have lt0 : ∀ x ∈ p0, x.block < W.heap.size := by obtain ⟨m, hm⟩ := k0; exact DataW.trod_lt m _ _ _ hm
  obtain ⟨a0, len0, cap0, rfl⟩ := okWide_slice Try.underlying22 (hval 0 22 v0 rfl rfl)
  obtain ⟨z0, w0⟩ : ∃ zs, IsRow W a0 len0 cap0 zs := by
    obtain ⟨fuel, hf⟩ := h0
    rcases open_ints Try.underlying22 Try.underlying3 (by kernel_rfl) hf with ⟨hcs, _⟩ | ⟨x, l, c, zs, hcs, _, hl, hm, hz, _, hcell, hwz⟩
    · simp [Value.cells] at hcs
      obtain ⟨rfl, rfl, rfl⟩ := hcs
      exact ⟨[], .inl ⟨rfl, rfl, rfl, rfl⟩⟩
    · simp [Value.cells] at hcs
      obtain ⟨rfl, rfl, rfl⟩ := hcs
      exact ⟨zs, .inr ⟨_, rfl, hl, hm, by simpa using hz, hcell, hwz⟩⟩
  obtain ⟨a1, rfl, rfl, rfl, w1⟩ := open_int Try.underlying3 (hval 1 3 v1 rfl rfl) h1
  obtain ⟨a2, rfl, rfl, rfl, w2⟩ := open_int Try.underlying3 (hval 2 3 v2 rfl rfl) h2
  obtain ⟨a3, rfl, rfl, rfl, w3⟩ := open_int Try.underlying3 (hval 3 3 v3 rfl rfl) h3
  have k4 := h4
  have lt4 : ∀ x ∈ p4, x.block < W.heap.size := by obtain ⟨m, hm⟩ := k4; exact DataW.trod_lt m _ _ _ hm
  obtain ⟨c4_0, c4_1, c4_2, c4_3, c4_4, y4_0, y4_1, y4_2, y4_3, y4_4, n4, rfl, hd4, hp4, t4_0, t4_1, t4_2, t4_3, t4_4⟩ := open_agg5 Try.underlying24 (by kernel_rfl) (by kernel_rfl) (hval 4 24 v4 rfl rfl) h4
  obtain ⟨a4_0, e4_0, _, w4_0⟩ := DataW.trod_int Try.underlying3 t4_0
  obtain rfl : c4_0 = .int .i64 a4_0 := by simpa using e4_0
  obtain ⟨a4_1, e4_1, _, w4_1⟩ := DataW.trod_int Try.underlying3 t4_1
  obtain rfl : c4_1 = .int .i64 a4_1 := by simpa using e4_1
  obtain ⟨a4_2, e4_2, _, w4_2⟩ := DataW.trod_int Try.underlying3 t4_2
  obtain rfl : c4_2 = .int .i64 a4_2 := by simpa using e4_2
  obtain ⟨a4_3, e4_3, _, w4_3⟩ := DataW.trod_int Try.underlying3 t4_3
  obtain rfl : c4_3 = .int .i64 a4_3 := by simpa using e4_3
  obtain ⟨a4_4, e4_4, _, w4_4⟩ := DataW.trod_int Try.underlying3 t4_4
  obtain rfl : c4_4 = .int .i64 a4_4 := by simpa using e4_4
  clear hA0 hval0
  refine (walk a0 len0 cap0 z0 a1 a2 a3 a4_0 a4_1 a4_2 a4_3 a4_4 W w0 w1 w2 w3 w4_0 w4_1 w4_2 w4_3 w4_4).mono fun e W' ⟨he, bel⟩ => ?_
  subst he
  exact ⟨_, rfl, _, _, _, [], _, [], hW', trodAll_mk1 (shut_bool Try.underlying4 _), (trodAll_cons_mk (Below.trod laidOut (by kernel_rfl) (of_decide_eq_true (by kernel_rfl)) k0 bel lt0) (trodAll_cons_mk (shut_int Try.underlying3 w1) (trodAll_cons_mk (shut_int Try.underlying3 w2) (trodAll_cons_mk (shut_int Try.underlying3 w3) (trodAll_cons_mk (Below.trod laidOut (by kernel_rfl) (of_decide_eq_true (by kernel_rfl)) k4 bel lt4) trodAll_mk0))))), rfl, bel.frame _, fun h => by cases h⟩

theorem over : Rows.certForgedRow.holds Try.pinned (OpenSpec.ofChange Rows.certForgedSpec) :=
  OpenClaim.holds_of_wide 3 Try.f3 rfl rfl rfl rfl rfl rfl rfl ⟨rfl, rfl, rfl, rfl, rfl⟩ rfl rfl rfl rfl rfl (by kernel_rfl) Try.func3 (by kernel_rfl)
    (of_decide_eq_true (by kernel_rfl)) (by unfold Func.isWrapper; first | (rw [if_pos (by decide +kernel)]; kernel_rfl) | (rw [if_neg (by decide +kernel)]; exact ⟨rfl, rfl⟩))
    (fun os started H enc _ => lifted os started H enc)

/-- The statement. -/
theorem proved : Rows.CertForgedSaid := over
#print axioms proved
end Go.Proofs.Ytjknlijikojbmaa.certForged
