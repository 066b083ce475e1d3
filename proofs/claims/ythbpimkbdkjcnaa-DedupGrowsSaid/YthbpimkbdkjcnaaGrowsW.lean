/- DedupGrows's walk: what a table of a shorter horizon remembers of keys that are put once, one of a longer horizon does, too. -/
import Derived.Test.YthbpimkbdkjcnaaDec
namespace Go.Proofs.Ythbpimkbdkjcnaa
open Go.RowKit

set_option maxHeartbeats 400000 in
theorem horizon_is (n : Int) (w : World) (h1 : -9223372036854775808 ≤ n) (h2 : n ≤ 9223372036854775807) :
    Calls Try.prog 10 #[.int .i64 n] w fun e w' => e = .returned (.int .i64 (1 + arnd n 40)) ∧ w = w' := by
  have a1 := arnd_lo n 40 (by omega)
  have a2 := arnd_hi n 40 (by omega)
  go_enter Try.func10, Try.ntmps10
  go_wp2_with fail
  refine (around_any n 40 _ h1 h2 (by omega) (by omega)).mono ?_
  rintro e w' ⟨rfl, rfl⟩
  go_wp2_with fail
  go_ret
  exact ⟨rfl, rfl⟩

theorem Same.put_new {h now : Int} {L H : Prs} {k : ByteArray} (A : Same h now L H) (hno : hasL h now L k = false) : Same h now (putL h now L k) (H ++ [(k, now)]) := by
  intro n hn
  unfold putL
  rw [if_neg (by rw [hno]; simp)]
  have e1 : live h n (live h now L ++ [(k, now)]) = live h n (live h now L) ++ live h n [(k, now)] := by unfold live; rw [List.filter_append]
  have e2 : live h n (H ++ [(k, now)]) = live h n H ++ live h n [(k, now)] := by unfold live; rw [List.filter_append]
  rw [e1, e2, live_live hn, A n hn]
theorem hasL_mono {x y n : Int} {H : Prs} {k : ByteArray} (hxy : x ≤ y) (h : hasL x n H k = true) : hasL y n H k = true := by
  unfold hasL at *
  rw [List.any_eq_true] at *
  obtain ⟨p, hp, h2⟩ := h
  simp only [decide_eq_true_eq] at h2
  exact ⟨p, hp, by simp only [decide_eq_true_eq]; exact ⟨h2.1, by omega⟩⟩
theorem live_mono {x y n : Int} (H : Prs) (hxy : x ≤ y) : (live x n H).length ≤ (live y n H).length := by
  unfold live
  rw [← List.countP_eq_length_filter, ← List.countP_eq_length_filter]
  apply List.countP_mono_left
  intro p _ h
  simp only [decide_eq_true_eq] at *
  omega
/-- The keys of the first j numbers. -/
def Firsts (j : Nat) (H : Prs) : Prop := ∀ p ∈ H, ∃ k, k < j ∧ p.1 = dec k
theorem Firsts.no {j : Nat} {H : Prs} (hf : Firsts j H) (hj : j < 20) (h n : Int) : hasL h n H (dec j) = false := by
  unfold hasL
  rw [List.any_eq_false]
  intro p hp
  simp only [decide_eq_true_eq]
  rintro ⟨h1, _⟩
  obtain ⟨k, hk, h2⟩ := hf p hp
  have := dec_inj k (by omega) j hj (h2.symm.trans h1)
  omega
theorem Firsts.more {j : Nat} {H : Prs} (hf : Firsts j H) (n : Int) : Firsts (j + 1) (H ++ [(dec j, n)]) := by
  intro p hp
  rcases List.mem_append.1 hp with h | h
  · obtain ⟨k, hk, h2⟩ := hf p h
    exact ⟨k, by omega, h2⟩
  · simp only [List.mem_singleton] at h
    subst h
    exact ⟨j, by omega, rfl⟩

def GrRel (w : World) (p q : Nat) (x y : Int) (nw i : Value) (wr : World) : Prop :=
  ∃ (j : Nat) (now : Int) (L M H : Prs) (F G : Nat → Prop), j ≤ 20 ∧ i = .int .i64 j ∧ nw = .int .i64 now ∧ 0 ≤ now ∧ now ≤ 100 * (j : Int) ∧ L.length ≤ j ∧ M.length ≤ j ∧ Same x now L H ∧ Same y now M H ∧ Firsts j H ∧ Two w wr F G p q x y now L M []
def GrIn (w : World) (F G : Nat → Prop) (p q : Nat) (x y now : Int) (N : Nat) (H : Prs) (kk : Value) (wr : World) : Prop :=
  ∃ (i : Nat) (L M : Prs), i ≤ N ∧ kk = .int .i64 i ∧ L.length ≤ N ∧ M.length ≤ N ∧ Same x now L H ∧ Same y now M H ∧ Two w wr F G p q x y now L M []

set_option maxHeartbeats 1000000 in
theorem grows_walk (a0 a1 : Int) (a : Option Addr) (len cap : Nat) (zs : List Int) (w : World) (h1 : -9223372036854775808 ≤ a0) (h2 : a0 ≤ 9223372036854775807) (h3 : -9223372036854775808 ≤ a1) (h4 : a1 ≤ 9223372036854775807) (hr : IsRow w a len cap zs) :
    Calls Try.prog 9 #[.int .i64 a0, .int .i64 a1, .slice a len cap] w fun e w' => e = .returned (.bool true) ∧ Below w.heap.size w w' := by
  have HR := Lib.hid hr
  have hlen := hr.len
  clear hr
  obtain ⟨ha, ha1, ha2, K0⟩ : ∃ ha : Int, 1 ≤ ha ∧ ha ≤ 40 ∧ ∀ W, Calls Try.prog 10 #[.int .i64 a0] W fun e w' => e = .returned (.int .i64 ha) ∧ W = w' :=
    ⟨1 + arnd a0 40, by have := arnd_lo a0 40 (by omega); omega, by have := arnd_hi a0 40 (by omega); omega, fun W => horizon_is a0 W h1 h2⟩
  obtain ⟨hb, hb1, hb2, K1⟩ : ∃ hb : Int, 1 ≤ hb ∧ hb ≤ 40 ∧ ∀ W, Calls Try.prog 10 #[.int .i64 a1] W fun e w' => e = .returned (.int .i64 hb) ∧ W = w' :=
    ⟨1 + arnd a1 40, by have := arnd_lo a1 40 (by omega); omega, by have := arnd_hi a1 40 (by omega); omega, fun W => horizon_is a1 W h3 h4⟩
  clear h1 h2 h3 h4
  obtain ⟨x, hx⟩ : ∃ x : Int, (if hb < ha then hb else ha) = x := ⟨_, rfl⟩
  obtain ⟨y, hy⟩ : ∃ y : Int, (if ha < hb then hb else ha) = y := ⟨_, rfl⟩
  have hxy : 1 ≤ x ∧ x ≤ y ∧ y ≤ 40 := by
    rw [← hx, ← hy]
    split <;> split <;> omega
  obtain ⟨hx1, hxy, hy40⟩ := hxy
  have H0 := Lib.hid K0
  have H1 := Lib.hid K1
  clear K0 K1 ha1 ha2 hb1 hb2
  go_enter Try.func9, Try.ntmps9
  go_wp2_with fail
  refine (H0.out _).mono ?_
  rintro e w' ⟨rfl, rfl⟩
  go_wp2_with fail
  refine (H1.out _).mono ?_
  rintro e w' ⟨rfl, rfl⟩
  go_wp2_with fail
  refine (H0.out _).mono ?_
  rintro e w' ⟨rfl, rfl⟩
  go_wp2_with fail
  refine (H1.out _).mono ?_
  rintro e w' ⟨rfl, rfl⟩
  go_wp2_with fail
  clear hx hy H0 H1
  refine (new_any x _).mono ?_
  rintro e w1 ⟨p, rfl, t1, b1⟩
  have T1 := Lib.hid t1
  have B1 := Lib.hid b1
  clear t1 b1
  go_wp2_with fail
  refine (new_any y _).mono ?_
  rintro e w2 ⟨q, rfl, t2, b2⟩
  have TW := Lib.hid (two_new B1.out B1.out (Nat.le_refl _) T1.out t2 b2)
  clear t2 b2 T1 B1
  generalize (fun k => w.heap.size ≤ k ∧ k < w1.heap.size) = F0 at *
  generalize (fun k => w1.heap.size ≤ k ∧ k < w2.heap.size) = G0 at *
  go_wp2_with fail
  go_loopw [11, 12] (fun nw i wr => GrRel w p q x y nw i wr) (fun _ i _ => 20 - (intOf i).toNat)
  case atStart => exact ⟨0, 0, [], [], [], F0, G0, by omega, rfl, rfl, by omega, by omega, by simp, by simp, fun n hn => rfl, fun n hn => rfl, fun p hp => (by cases hp), TW.out⟩
  case round =>
    clear TW
    obtain ⟨j, now, L, M, H, F, G, hj, rfl, rfl, hn0, hn1, hLl, hMl, agl, agm, fst, tw⟩ := hrel
    have AGL := Lib.hid agl
    have AGM := Lib.hid agm
    have FST := Lib.hid fst
    have TW := Lib.hid tw
    clear agl agm fst tw
    by_cases hlt : j < len ∧ j < 20
    · obtain ⟨hlt1, hlt2⟩ := hlt
      obtain ⟨ad, z, rfl, hc, hz1, hz2⟩ := HR.out.later TW.out.bel hlt1
      go_wp2_with fail
      refine (of_any z _ hz1 hz2).mono ?_
      rintro e w4 ⟨l, s, pb, hl1, hl2, hs, rfl, b4⟩
      clear hc hz1 hz2
      have TW4 := Lib.hid ((TW.out.below b4).later (show now ≤ now + l by omega))
      have AL := Lib.hid (AGL.out.later (show now ≤ now + l by omega))
      have AM := Lib.hid (AGM.out.later (show now ≤ now + l by omega))
      clear b4 TW AGL AGM
      have hfld := run_field0 l s pb w4
      go_wp2_with fail
      clear hfld
      refine (decimal_any j hlt2 _).mono ?_
      rintro e w5 ⟨rfl, b5⟩
      have TW5 := Lib.hid (TW4.out.below b5)
      clear b5 TW4
      go_wp2_with fail
      refine (put_a TW5.out (now + l) (dec j) hx1 (by omega) (by omega) (by omega) (by omega)).mono ?_
      rintro e w6 ⟨rfl, F6, tw6⟩
      have n1 : hasL x (now + l) L (dec j) = false := by rw [AL.out.has (Int.le_refl _)]; exact FST.out.no hlt2 _ _
      have n2 : hasL y (now + l) M (dec j) = false := by rw [AM.out.has (Int.le_refl _)]; exact FST.out.no hlt2 _ _
      rw [n1]
      have AL6 := Lib.hid (AL.out.put_new n1)
      have AM6 := Lib.hid (AM.out.put_new n2)
      have hL6 := putL_length x (now + l) L (dec j)
      have hM6 := putL_length y (now + l) M (dec j)
      have N2 := Lib.hid n2
      have FS6 := Lib.hid (FST.out.more (now + l))
      have TW6 := Lib.hid tw6
      clear tw6 TW5 AL AM n1 n2 FST
      generalize putL x (now + l) L (dec j) = L6 at *
      go_wp2_with fail
      refine (decimal_any j hlt2 _).mono ?_
      rintro e w7 ⟨rfl, b7⟩
      have TW7 := Lib.hid (TW6.out.below b7)
      clear b7 TW6
      go_wp2_with fail
      refine (put_b TW7.out (now + l) (dec j) (by omega) (by omega) (by omega) (by omega) (by omega)).mono ?_
      rintro e w8 ⟨rfl, G8, tw8⟩
      rw [N2.out]
      have TW8 := Lib.hid tw8
      clear tw8 TW7 N2
      generalize putL y (now + l) M (dec j) = M6 at *
      generalize H ++ [(dec j, now + l)] = H6 at *
      go_wp2_with fail
      go_loopw [13] (fun kk wr => GrIn w F6 G8 p q x y (now + l) (j + 1) H6 kk wr) (fun kk _ => j + 1 - (intOf kk).toNat)
      case atStart => exact ⟨0, L6, M6, by omega, rfl, by omega, by omega, AL6.out, AM6.out, TW8.out⟩
      case round =>
        clear AL6 AM6 TW8
        obtain ⟨i, L7, M7, hi, rfl, hL7, hM7, al, am, tw⟩ := hrel
        have AL := Lib.hid al
        have AM := Lib.hid am
        have TW := Lib.hid tw
        clear al am tw
        by_cases hi6 : i ≤ j
        · go_wp2_with fail
          refine (decimal_any i (by omega) _).mono ?_
          rintro e w9 ⟨rfl, b9⟩
          have TW9 := Lib.hid (TW.out.below b9)
          clear b9 TW
          go_wp2_with fail
          refine (has_a TW9.out (now + l) (dec i) (by omega) (by omega) (by omega) (by omega)).mono ?_
          rintro e w10 ⟨rfl, tw10⟩
          have hL10 := live_length x (now + l) L7
          have TW10 := Lib.hid tw10
          have AL10 := Lib.hid AL.out.live_a
          have e1 := AL.out.has (Int.le_refl _) (dec i)
          rw [e1]
          clear tw10 TW9 AL e1
          by_cases hb : hasL x (now + l) H6 (dec i) = true
          · rw [hb]
            have hm := hasL_mono hxy hb
            have HM := Lib.hid hm
            clear hb hm
            go_wp2_with fail
            refine (decimal_any i (by omega) _).mono ?_
            rintro e w11 ⟨rfl, b11⟩
            have TW11 := Lib.hid (TW10.out.below b11)
            clear b11 TW10
            go_wp2_with fail
            refine (has_b TW11.out (now + l) (dec i) (by omega) (by omega) (by omega) (by omega)).mono ?_
            rintro e w12 ⟨rfl, tw12⟩
            have hM12 := live_length y (now + l) M7
            have TW12 := Lib.hid tw12
            have AM12 := Lib.hid AM.out.live_a
            rw [AM.out.has (Int.le_refl _), HM.out]
            clear tw12 TW11 AM
            go_wp2_with fail
            exact ⟨⟨i + 1, _, _, by omega, by go_num, by omega, by omega, AL10.out, AM12.out, TW12.out⟩, by simp [intOf]; omega⟩
          · have hb' : hasL x (now + l) H6 (dec i) = false := by simpa using hb
            rw [hb']
            clear hb hb'
            go_wp2_with fail
            exact ⟨⟨i + 1, _, _, by omega, by go_num, by omega, by omega, AL10.out, AM.out, TW10.out⟩, by simp [intOf]; omega⟩
        · go_wp2_with fail
          refine (len_a TW.out (now + l) (by omega) (by omega) (by omega) (by omega)).mono ?_
          rintro e w9 ⟨rfl, tw9⟩
          have hL9 := live_length x (now + l) L7
          have TW9 := Lib.hid tw9
          have AL9 := Lib.hid AL.out.live_a
          clear tw9 TW
          go_wp2_with fail
          refine (len_b TW9.out (now + l) (by omega) (by omega) (by omega) (by omega)).mono ?_
          rintro e w10 ⟨rfl, tw10⟩
          have hM10 := live_length y (now + l) M7
          have TW10 := Lib.hid tw10
          have AM10 := Lib.hid AM.out.live_a
          have hle : (live x (now + l) L7).length ≤ (live y (now + l) M7).length := by
            rw [AL.out _ (Int.le_refl _), AM.out _ (Int.le_refl _)]
            exact live_mono H6 hxy
          clear tw10 TW9 AL AM
          generalize live x (now + l) L7 = L8 at *
          generalize live y (now + l) M7 = M8 at *
          go_wp2_with fail
          exact ⟨⟨j + 1, now + l, L8, M8, H6, F6, G8, by omega, by go_num, rfl, by omega, by omega, by omega, by omega, AL9.out, AM10.out, FS6.out, TW10.out⟩, by simp [intOf]; omega⟩
    · by_cases hlt1 : j < len
      · have hlt2 : ¬ j < 20 := by omega
        clear hlt
        go_wp2_with fail
        refine (lives_any _).mono ?_
        rintro e w11 ⟨rfl, b11⟩
        have B11 := Lib.hid b11
        clear b11
        go_wp2_with fail
        go_ret
        exact ⟨rfl, below_next TW.out.bel B11.out⟩
      · clear hlt
        go_wp2_with fail
        refine (lives_any _).mono ?_
        rintro e w11 ⟨rfl, b11⟩
        have B11 := Lib.hid b11
        clear b11
        go_wp2_with fail
        go_ret
        exact ⟨rfl, below_next TW.out.bel B11.out⟩

end Go.Proofs.Ythbpimkbdkjcnaa
