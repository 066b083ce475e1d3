/- DedupOnce's walk: between two Puts of one key that told true there are as many ticks as the horizon, at least. -/
import Derived.Test.YthbpimkbdkjcnaaArgs
namespace Go.Proofs.Ythbpimkbdkjcnaa
open Go.RowKit

/-- What was put with true is remembered, or over. -/
def Hist (h now : Int) (L H : Prs) : Prop := ∀ x ∈ H, (x ∈ L ∨ h ≤ now - x.2) ∧ 0 ≤ x.2 ∧ x.2 ≤ now

theorem Hist.put {h now now' : Int} {L H : Prs} {k : ByteArray} (hh : Hist h now L H) (ht : now ≤ now') : Hist h now' (putL h now' L k) H := by
  intro x hx
  obtain ⟨h1, h2, h3⟩ := hh x hx
  refine ⟨?_, h2, by omega⟩
  rcases h1 with h1 | h1
  · by_cases ho : now' - x.2 < h
    · left
      have hl : x ∈ live h now' L := mem_live.2 ⟨h1, ho⟩
      unfold putL
      split
      · exact hl
      · exact List.mem_append.2 (.inl hl)
    · right
      omega
  · right
    omega
theorem Hist.more {h now : Int} {L H : Prs} {k : ByteArray} (hh : Hist h now (putL h now L k) H) (hno : hasL h now L k = false) (h0 : 0 ≤ now) : Hist h now (putL h now L k) (H ++ [(k, now)]) := by
  intro x hx
  rcases List.mem_append.1 hx with hx | hx
  · exact hh x hx
  · simp only [List.mem_singleton] at hx
    subst hx
    refine ⟨.inl ?_, h0, Int.le_refl _⟩
    unfold putL
    rw [if_neg (by rw [hno]; simp)]
    simp
/-- A key that is not remembered was put so long ago. -/
theorem Hist.far {h now now' : Int} {L H : Prs} {k : ByteArray} (hh : Hist h now L H) (ht : now ≤ now') (hno : hasL h now' L k = false) : ∀ a, (k, a) ∈ H → h ≤ now' - a := by
  intro a ha
  obtain ⟨h1, _, _⟩ := hh _ ha
  rcases h1 with h1 | h1
  · exact hasL_false hno a h1
  · simp only at h1
    omega

def keysOf (H : Prs) : List Value := H.map fun x => .string x.1
def atsOf (H : Prs) : List Value := H.map fun x => .int .i64 x.2

def OnceRel (w : World) (p : Nat) (h : Int) (vk va nw i : Value) (wr : World) : Prop :=
  ∃ (j : Nat) (now : Int) (H L : Prs) (F : Nat → Prop), j ≤ 60 ∧ i = .int .i64 j ∧ nw = .int .i64 now ∧ 0 ≤ now ∧ now ≤ 100 * (j : Int) ∧ H.length ≤ j ∧ L.length ≤ j ∧
    wr.ownsRow w.heap.size 9 1 vk H.length (keysOf H) ∧ wr.ownsRow w.heap.size 3 1 va H.length (atsOf H) ∧ Hist h now L H ∧ Ok now L ∧
    Tab wr F p h L L ∧ From w.heap.size F ∧ (∀ g, vk.ownBlock = some g → ¬ F g) ∧ (∀ g, va.ownBlock = some g → ¬ F g) ∧ Below w.heap.size w wr

theorem info9 : (Try.prog.info? 9).map (fun i => (i.zero, i.size, i.bytes)) = some (some (.string { data := #[] }), 1, 16) := by kernel_rfl
theorem info3 : (Try.prog.info? 3).map (fun i => (i.zero, i.size, i.bytes)) = some (some (.int .i64 0), 1, 8) := by kernel_rfl

set_option maxHeartbeats 1000000 in
theorem once_walk (n : Int) (a : Option Addr) (len cap : Nat) (zs : List Int) (w : World) (h1 : -9223372036854775808 ≤ n) (h2 : n ≤ 9223372036854775807) (hr : IsRow w a len cap zs) :
    Calls Try.prog 3 #[.int .i64 n, .slice a len cap] w fun e w' => e = .returned (.bool true) ∧ Below w.heap.size w w' := by
  have HR := Lib.hid hr
  have hlen := hr.len
  clear hr
  go_enter Try.func3, Try.ntmps3
  go_wp2_with fail
  refine (horizon_some n _ h1 h2).mono ?_
  rintro e w' ⟨h, hh1, hh2, rfl, rfl⟩
  clear h1 h2
  go_wp2_with fail
  refine (new_any h _).mono ?_
  rintro e w1 ⟨p, rfl, t1, b1⟩
  have F1 : Hid (From w.heap.size fun k => w.heap.size ≤ k ∧ k < w1.heap.size) := fun i hi => hi.1
  have T1 := Lib.hid t1
  have B1 := Lib.hid b1
  clear t1 b1
  generalize (fun k => w.heap.size ≤ k ∧ k < w1.heap.size) = F at *
  go_wp2_with fail
  go_loopw [7, 8, 9, 10] (fun vk va nw i wr => OnceRel w p h vk va nw i wr) (fun _ _ _ i _ => 60 - (intOf i).toNat)
  case atStart => exact ⟨0, 0, [], [], F, by omega, rfl, rfl, by omega, by omega, by simp, by simp, World.ownsRow_nil _ _ _ _, World.ownsRow_nil _ _ _ _, fun x hx => (by cases hx), Ok.nil 0, T1.out, F1.out, by simp [Value.ownBlock], by simp [Value.ownBlock], B1.out⟩
  case round =>
    clear T1 F1 B1
    obtain ⟨j, now, H, L, G, hj, rfl, rfl, hn0, hn1, hHl, hLl, ok, oa, hist, hok, tab, fr, dk, da, bel⟩ := hrel
    have OK := Lib.hid ok
    have OA := Lib.hid oa
    have HIST := Lib.hid hist
    have HOK := Lib.hid hok
    have TAB := Lib.hid tab
    have FR := Lib.hid fr
    have DK := Lib.hid dk
    have DA := Lib.hid da
    have BEL := Lib.hid bel
    clear ok oa hist hok tab fr dk da bel
    by_cases hlt : j < len
    · by_cases hlt2 : j < 60
      · obtain ⟨x, z, rfl, hc, hz1, hz2⟩ := HR.out.later BEL.out hlt
        go_wp2_with fail
        refine (of_any z _ hz1 hz2).mono ?_
        rintro e w3 ⟨l, s, pb, hl1, hl2, hs, rfl, b3⟩
        clear hc hz1 hz2
        have B3 := Lib.hid b3
        clear b3
        go_wp2_with fail
        have X4 := Lib.hid (Blk.new w3 28 #[.int .i64 l, .string s, .bool pb])
        have b4 := below_alloc B3.out (.cells #[.int .i64 l, .string s, .bool pb] 28)
        have hx4 : Hid (wr.heap.size ≤ w3.heap.size) := B3.out.size
        have T4 := Lib.hid (TAB.out.below b4)
        have OK4 := Lib.hid (own_chg (F := fun _ => False) OK.out (Chg.of_below b4) (fun _ _ h => h))
        have OA4 := Lib.hid (own_chg (F := fun _ => False) OA.out (Chg.of_below b4) (fun _ _ h => h))
        have BEL4 := Lib.hid (below_next BEL.out b4)
        have NX : Hid (∀ i, G i → i < w3.heap.size) := fun i hi => Nat.lt_of_lt_of_le (TAB.out.all i hi) B3.out.size
        have NKX : Hid (∀ g, u7.ownBlock = some g → g < w3.heap.size) := fun g hg => Nat.lt_of_lt_of_le (OK.out.lt g hg).2 B3.out.size
        have NAX : Hid (∀ g, u8.ownBlock = some g → g < w3.heap.size) := fun g hg => Nat.lt_of_lt_of_le (OA.out.lt g hg).2 B3.out.size
        clear b4 B3 BEL TAB OK OA
        generalize (w3.alloc (.cells #[.int .i64 l, .string s, .bool pb] 28)) = w4 at *
        generalize w3.heap.size = xb at *
        refine (put_any _ G p h (now + l) now L s T4.out HOK.out hh1 (by omega) (by omega) (by omega) (by omega)).mono ?_
        rintro e w5 ⟨rfl, t5, c5⟩
        have hok5 := Lib.hid (HOK.out.putL (h := h) (k := s) (show now ≤ now + l by omega) (by omega))
        have hL5 := putL_length h (now + l) L s
        have hist5 := Lib.hid (HIST.out.put (k := s) (show now ≤ now + l by omega))
        have F5 : Hid (From w.heap.size (grow G w4 w5)) := FR.out.grow BEL4.out.size
        have BEL5 := Lib.hid (below_chg BEL4.out FR.out c5)
        have X5 := Lib.hid (X4.out.chg c5 (fun hg => Nat.lt_irrefl _ (NX.out _ hg)))
        have OK5 := Lib.hid (own_chg OK4.out c5 DK.out)
        have OA5 := Lib.hid (own_chg OA4.out c5 DA.out)
        have DK5 : Hid (∀ g, u7.ownBlock = some g → ¬ grow G w4 w5 g) := fun g hg hgg => by
          rcases hgg with hgg | hgg
          · exact DK.out g hg hgg
          · have := (OK4.out.lt g hg).2; omega
        have DA5 : Hid (∀ g, u8.ownBlock = some g → ¬ grow G w4 w5 g) := fun g hg hgg => by
          rcases hgg with hgg | hgg
          · exact DA.out g hg hgg
          · have := (OA4.out.lt g hg).2; omega
        have NX5 : Hid (¬ grow G w4 w5 xb) := fun hgg => by
          rcases hgg with hgg | hgg
          · exact Nat.lt_irrefl _ (NX.out _ hgg)
          · have := X4.out.lt; omega
        have T5 := Lib.hid t5
        clear t5 c5 T4 OK4 OA4 X4 BEL4 FR DK DA HOK
        generalize grow G w4 w5 = G5 at *
        generalize hLL : putL h (now + l) L s = L5 at *
        have HLL := Lib.hid hLL
        clear hLL
        by_cases hh : hasL h (now + l) L s = true
        · rw [hh]
          go_wp2_with fail
          refine ⟨⟨j + 1, now + l, H, L5, G5, by omega, by go_num, rfl, by omega, by omega, by omega, by omega, OK5.out, OA5.out, hist5.out, hok5.out, T5.out, F5.out, DK5.out, DA5.out, BEL5.out⟩, by simp [intOf]; omega⟩
        · have hh' : hasL h (now + l) L s = false := by simpa using hh
          rw [hh']
          have HH := Lib.hid hh'
          clear hh hh'
          go_wp2_with fail
          have q1 := X5.out.cell 1
          simp only [List.getElem?_toArray, List.getElem?_cons_zero, List.getElem?_cons_succ] at q1
          obtain ⟨A7, c7, rfl⟩ := own_form OK5.out
          obtain ⟨A8, c8, rfl⟩ := own_form OA5.out
          have FAR := Lib.hid (HIST.out.far (show now ≤ now + l by omega) HH.out)
          go_loopw [12] (fun jj w6 => ∃ i : Nat, i ≤ H.length ∧ jj = .int .i64 i ∧ ∃ q, w6 = w5.drewN q) (fun jj _ => H.length - (intOf jj).toNat)
          case atStart => exact ⟨0, Nat.zero_le _, rfl, 0, rfl⟩
          case round =>
            obtain ⟨i, hi, rfl, q, rfl⟩ := hrel
            by_cases hlt3 : i < H.length
            · obtain ⟨y, hy⟩ : ∃ y, H[i]? = some y := ⟨_, List.getElem?_eq_getElem hlt3⟩
              obtain ⟨g7, rfl, k7⟩ := own_at OK5.out hlt3
              obtain ⟨g8, rfl, k8⟩ := own_at OA5.out hlt3
              have e7 : (keysOf H)[i]? = some (.string y.1) := by unfold keysOf; rw [List.getElem?_map, hy]; rfl
              have e8 : (atsOf H)[i]? = some (.int .i64 y.2) := by unfold atsOf; rw [List.getElem?_map, hy]; rfl
              rw [e7] at k7
              rw [e8] at k8
              have hm : y ∈ H := List.mem_of_getElem? hy
              have hb := (HIST.out y hm).2
              have hb1 := hb.1
              have hb2 := hb.2
              have HY := Lib.hid hy
              clear e7 e8 hy hb
              by_cases hk : y.1 = s
              · have hkb := text_eq hk
                have hf := FAR.out y.2 (by rw [← hk]; exact hm)
                have hd : decide (now + l - y.2 < h) = false := by simp; omega
                clear hk hm
                go_wp2_with fail
                go_quiet (fail)
                go_wp2_with fail
                exact ⟨⟨i + 1, by omega, by go_num, _, rfl⟩, by simp [intOf]; omega⟩
              · have hkb := text_ne hk
                clear hk hm
                go_wp2_with fail
                go_quiet (fail)
                go_wp2_with fail
                exact ⟨⟨i + 1, by omega, by go_num, _, rfl⟩, by simp [intOf]; omega⟩
            · have q1' : (w5.drewN q).cell? ⟨xb, 1, none⟩ = some (.string s) := q1
              have OK6 := Lib.hid (own_drewN OK5.out q)
              have OA6 := Lib.hid (own_drewN OA5.out q)
              have T6 := Lib.hid (Tab.chg (G := fun _ => False) T5.out ((Chg.refl _ w5).drewN q) (fun _ _ h => h))
              have BEL6 := Lib.hid (below_drewN BEL5.out q)
              clear q1 OK5 OA5 T5 BEL5 X5 NX NKX NAX NX5 hx4
              generalize w5.drewN q = w6 at *
              have HZ : Hid ((w6.alloc (.cells #[.string s] 9)).cell? ((⟨w6.heap.size, 0, none⟩ : Addr).add 0) = some (.string s)) := (Blk.new w6 9 #[.string s]).cell 0
              have HB : Hid (w.heap.size ≤ (w6.alloc (.cells #[.string s] 9)).heap.size) := (below_alloc BEL6.out _).size
              go_wp2_with (first | (at_builtin; refine wpList_push _ rfl (.tmp 67) (.tmp 70) 26 9 rfl Try.underlying26 _ 16 info9 rfl (by omega) w.heap.size (.slice A7 H.length c7) H.length (keysOf H) rfl (own_alloc OK6.out _) (by omega) ⟨w6.heap.size, 0, none⟩ 1 (.string s) rfl HZ.out rfl HB.out ?_; intro vk2 w7 ok7 ck7 nk7; have OK7 := Lib.hid ok7; have CK7 := Lib.hid ck7; have NK7 := Lib.hid nk7; clear ok7 ck7 nk7; have OA7 := Lib.hid (own_chg (own_alloc OA6.out (.cells #[.string s] 9)) CK7.out (fun g hg hgg => own_ne OA6.out OK6.out (by decide) g hg hgg)); have T7 := Lib.hid ((T6.out.below (below_alloc (Below.refl _ _) (.cells #[.string s] 9))).chg CK7.out (fun g hg hgg => DK5.out g hgg hg)); have BEL7 := Lib.hid ((below_alloc BEL6.out (.cells #[.string s] 9)).trans (CK7.out.below (B := w.heap.size) (fun g hg => (OK6.out.lt g hg).1) HB.out)); have HZ7 : Hid ((w7.alloc (.cells #[.int .i64 (now + l)] 3)).cell? ((⟨w7.heap.size, 0, none⟩ : Addr).add 0) = some (.int .i64 (now + l))) := (Blk.new w7 3 #[.int .i64 (now + l)]).cell 0; have HB7 : Hid (w.heap.size ≤ (w7.alloc (.cells #[.int .i64 (now + l)] 3)).heap.size) := (below_alloc BEL7.out _).size) | (at_builtin; refine wpList_push _ rfl (.tmp 72) (.tmp 74) 22 3 rfl Try.underlying22 _ 8 info3 rfl (by omega) w.heap.size (.slice A8 H.length c8) H.length (atsOf H) rfl (own_alloc OA7.out _) (by omega) ⟨w7.heap.size, 0, none⟩ 1 (.int .i64 (now + l)) rfl HZ7.out rfl HB7.out ?_; intro va2 w8 oa8 ca8 na8; have OA8 := Lib.hid oa8; have CA8 := Lib.hid ca8; have NA8 := Lib.hid na8; clear oa8 ca8 na8))
              have hist8 : Hist h (now + l) L5 (H ++ [(s, now + l)]) := by
                rw [← HLL.out]
                exact Hist.more (by rw [HLL.out]; exact hist5.out) HH.out (by omega)
              have hl8 : (H ++ [(s, now + l)]).length = H.length + 1 := by simp
              have T8 := (T7.out.below (below_alloc (Below.refl _ _) (.cells #[.int .i64 (now + l)] 3))).chg CA8.out (fun g hg hgg => DA5.out g hgg hg)
              have BEL8 := (below_alloc BEL7.out (.cells #[.int .i64 (now + l)] 3)).trans (CA8.out.below (B := w.heap.size) (fun g hg => (OA7.out.lt g hg).1) HB7.out)
              have OK8 := own_chg (own_alloc OK7.out (.cells #[.int .i64 (now + l)] 3)) CA8.out (fun g hg hgg => own_ne OK7.out OA7.out (by decide) g hg hgg)
              have DK8 : ∀ g, vk2.ownBlock = some g → ¬ G5 g := fun g hg hgg => by
                rcases NK7.out g hg with h9 | h9
                · exact DK5.out g h9 hgg
                · have h10 := T6.out.all g hgg
                  rw [World.size_alloc] at h9
                  omega
              have DA8 : ∀ g, va2.ownBlock = some g → ¬ G5 g := fun g hg hgg => by
                rcases NA8.out g hg with h9 | h9
                · exact DA5.out g h9 hgg
                · have h10 := T7.out.all g hgg
                  rw [World.size_alloc] at h9
                  omega
              refine ⟨⟨j + 1, now + l, H ++ [(s, now + l)], L5, G5, by omega, by go_num, rfl, by omega, by omega, by omega, by omega, ?_, ?_, hist8, hok5.out, T8, F5.out, DK8, DA8, BEL8⟩, by simp [intOf]; omega⟩
              · rw [hl8]
                have e : keysOf (H ++ [(s, now + l)]) = keysOf H ++ [.string s] := by unfold keysOf; rw [List.map_append]; rfl
                rw [e]
                exact OK8
              · rw [hl8]
                have e : atsOf (H ++ [(s, now + l)]) = atsOf H ++ [.int .i64 (now + l)] := by unfold atsOf; rw [List.map_append]; rfl
                rw [e]
                exact OA8.out
      · go_wp2_with fail
        refine (lives_any _).mono ?_
        rintro e w3 ⟨rfl, b3⟩
        have B3 := Lib.hid b3
        clear b3
        go_wp2_with fail
        go_ret
        exact ⟨rfl, below_next BEL.out B3.out⟩
    · go_wp2_with fail
      refine (lives_any _).mono ?_
      rintro e w3 ⟨rfl, b3⟩
      have B3 := Lib.hid b3
      clear b3
      go_wp2_with fail
      go_ret
      exact ⟨rfl, below_next BEL.out B3.out⟩

end Go.Proofs.Ythbpimkbdkjcnaa
