/- DedupPlays's walk: what is remembered, and how many keys are, is the document's. -/
import Derived.Test.YthbpimkbdkjcnaaRef
namespace Go.Proofs.Ythbpimkbdkjcnaa
open Go.RowKit

theorem info54 : (Try.prog.info? 54).map (fun i => (i.zero, i.size, i.bytes)) = some (some (.agg #[.string { data := #[] }, .int .i64 0]), 2, 24) := by kernel_rfl

/-- One more pair at the end of a row of the call's own, at the operation. -/
theorem wpList_pair (w : World) {ops : Array Oper} {rest : List Oper} {o : Oper} {a : Act} {Q : Exit → Act → World → Prop} (hgd : o.guard = none) (s x : Operand)
    (ho : o.op = .call { callee := .builtin .append, args := #[s, x], argTypes := #[34, 34] }) (base : Nat) (v : Value) (H : Prs) (hs : a.eval s = v) (hown : w.ownsRow base 54 2 v H.length (flat H)) (hn : H.length ≤ 1000000)
    (ad : Addr) (c : Nat) (k : ByteArray) (n : Int) (hx : a.eval x = .slice (some ad) 1 c) (h0 : w.cell? (ad.add 0) = some (.string k)) (h1 : w.cell? (ad.add 1) = some (.int .i64 n)) (hbase : base ≤ w.heap.size)
    (hK : ∀ v' w', w'.ownsRow base 54 2 v' (H ++ [(k, n)]).length (flat (H ++ [(k, n)])) → Chg (fun i => v.ownBlock = some i) w w' → (∀ g, v'.ownBlock = some g → v.ownBlock = some g ∨ w.heap.size ≤ g) → wpList Try.prog ops Q rest (a.put o.dst v') w') :
    wpList Try.prog ops Q (o :: rest) a w := by
  refine wpList_plain hgd fun K hK' => ?_
  obtain ⟨i0, hi, hz0, hz1, hz2⟩ := info_parts info54
  obtain ⟨v', w', hrun, r1, r2, _, r4⟩ := run_append_own_at (P := Try.prog) w base 34 o.type 54 i0 _ 2 24 Try.underlying34 hi hz0 hz1 hz2 rfl (by omega) v H.length (flat H) hown ad 1 c [.string k, .int .i64 n] rfl
    (fun j u' hu => by
      match j, hu with
      | 0, hu => rw [h0]; simpa using hu
      | 1, hu => rw [h1]; simpa using hu
      | j + 2, hu => simp at hu)
    (fun u' hu => by
      rcases List.mem_cons.1 hu with rfl | hu
      · rfl
      · rcases List.mem_cons.1 hu with rfl | hu
        · rfl
        · cases hu) (by unfold maxLen; omega) (by omega) hbase
  have hfl : flat (H ++ [(k, n)]) = flat H ++ [.string k, .int .i64 n] := by rw [flat_append]; rfl
  have hlen : (H ++ [(k, n)]).length = H.length + 1 := by simp
  unfold Oper.wp
  simp [execOp, ho, resolve, invoke, builtin, hs, hx, hrun, Result.andThen]
  exact hK' _ _ (hK v' w' (by rw [hfl, hlen]; exact r1) ⟨r2.os, r2.tape, r2.output, r2.size, fun k hk hne => r2.block k hk (fun e => hne e.symm)⟩ (fun g hg => by
    rcases r4 with h | h
    · exact .inl (h ▸ hg)
    · rw [h] at hg
      injection hg with hg
      exact .inr (by omega)))

/-- What the document's Put leaves. -/
def RefPut (base : Nat) (v : Value) (H : Prs) (h now : Int) (k : ByteArray) (w : World) (e : Ending) (w' : World) : Prop :=
  ∃ v' H', e = .returned (.tuple #[v', .bool (!hasL h now H k)]) ∧ H' = (if hasL h now H k = true then H else H ++ [(k, now)]) ∧ w'.ownsRow base 54 2 v' H'.length (flat H') ∧ Chg (fun i => v.ownBlock = some i) w w' ∧ (∀ g, v'.ownBlock = some g → v.ownBlock = some g ∨ w.heap.size ≤ g)

set_option maxHeartbeats 600000 in
theorem ref_put (base : Nat) (A : Option Addr) (c : Nat) (H : Prs) (h now : Int) (k : ByteArray) (w : World) (ho : w.ownsRow base 54 2 (.slice A H.length c) H.length (flat H)) (hl : H.length ≤ 100000)
    (hat : ∀ x ∈ H, 0 ≤ x.2 ∧ x.2 ≤ now) (h1 : 1 ≤ h) (h2 : h ≤ 100000) (h4 : now ≤ 4294967296) (hbase : base ≤ w.heap.size) :
    Calls Try.prog 17 #[.slice A H.length c, .int .i64 h, .int .i64 now, .string k] w (RefPut base (.slice A H.length c) H h now k w) := by
  have HO := Lib.hid ho
  have HC := Lib.hid (ref_has base A c H h now k w ho hl hat h1 h2 h4)
  clear ho hat
  by_cases hh : hasL h now H k = true
  · go_enter Try.func17, Try.ntmps17
    go_wp2_with fail
    refine HC.out.mono ?_
    rintro e w' ⟨rfl, rfl⟩
    rw [hh]
    have HH := Lib.hid hh
    clear hh
    go_wp2_with fail
    go_ret2
    exact ⟨_, H, by rw [HH.out]; rfl, by rw [if_pos HH.out], HO.out, Chg.refl _ _, fun g hg => .inl hg⟩
  · have hh' : hasL h now H k = false := by simpa using hh
    go_enter Try.func17, Try.ntmps17
    go_wp2_with fail
    refine HC.out.mono ?_
    rintro e w' ⟨rfl, rfl⟩
    rw [hh']
    have HH := Lib.hid hh'
    clear hh hh'
    have nb := Blk.new w 54 #[.string k, .int .i64 now]
    have HZ0 : Hid ((w.alloc (.cells #[.string k, .int .i64 now] 54)).cell? ((⟨w.heap.size, 0, none⟩ : Addr).add 0) = some (.string k)) := nb.cell 0
    have HZ1 : Hid ((w.alloc (.cells #[.string k, .int .i64 now] 54)).cell? ((⟨w.heap.size, 0, none⟩ : Addr).add 1) = some (.int .i64 now)) := nb.cell 1
    have HB : Hid (base ≤ (w.alloc (.cells #[.string k, .int .i64 now] 54)).heap.size) := by
      show base ≤ _
      rw [World.size_alloc]
      omega
    clear nb
    go_wp2_with (at_builtin; refine wpList_pair _ rfl (.tmp 18) (.tmp 22) rfl base (.slice A H.length c) H rfl (own_alloc HO.out _) (by omega) ⟨w.heap.size, 0, none⟩ 1 k now rfl HZ0.out HZ1.out HB.out ?_; intro v2 w2 r2 c2 n2; have R2 := Lib.hid r2; have C2 := Lib.hid c2; have N2 := Lib.hid n2; clear r2 c2 n2)
    go_ret2
    refine ⟨v2, H ++ [(k, now)], by rw [HH.out]; rfl, by rw [if_neg (by rw [HH.out]; simp)], R2.out, ((Chg.refl _ w).alloc _).trans C2.out, fun g hg => ?_⟩
    rcases N2.out g hg with h5 | h5
    · exact .inl h5
    · rw [World.size_alloc] at h5
      exact .inr (by omega)

/-- A table, the document's list beside it, and the step. -/
structure Doc (w0 w : World) (F : Nat → Prop) (p : Nat) (h t : Int) (L H : Prs) (v : Value) (xs : List (Nat × Array Value)) : Prop where
  a : Tab w F p h L L
  ok : Ok t L
  fa : From w0.heap.size F
  bel : Below w0.heap.size w0 w
  row : w.ownsRow w0.heap.size 54 2 v H.length (flat H)
  rf : ∀ g, v.ownBlock = some g → ¬ F g
  same : Same h t L H
  ats : ∀ x ∈ H, 0 ≤ x.2 ∧ x.2 ≤ t
  keep : ∀ x ∈ xs, Blk w x.1 28 x.2 ∧ ¬ F x.1

section
variable {w0 w w' : World} {F F' : Nat → Prop} {p : Nat} {h t t' : Int} {L L' H : Prs} {v : Value} {xs : List (Nat × Array Value)}
theorem Doc.later (D : Doc w0 w F p h t L H v xs) (ht : t ≤ t') : Doc w0 w F p h t' L H v xs :=
  ⟨D.a, D.ok.later ht, D.fa, D.bel, D.row, D.rf, D.same.later ht, fun x hx => ⟨(D.ats x hx).1, Int.le_trans (D.ats x hx).2 ht⟩, D.keep⟩
theorem Doc.drop (D : Doc w0 w F p h t L H v xs) : Doc w0 w F p h t L H v [] := ⟨D.a, D.ok, D.fa, D.bel, D.row, D.rf, D.same, D.ats, fun x hx => by cases hx⟩
theorem Doc.below (D : Doc w0 w F p h t L H v xs) (hb : Below w.heap.size w w') : Doc w0 w' F p h t L H v xs :=
  ⟨D.a.below hb, D.ok, D.fa, below_next D.bel hb, own_chg (F := fun _ => False) D.row (Chg.of_below hb) (fun _ _ h => h), D.rf, D.same, D.ats, fun x hx => ⟨(D.keep x hx).1.below hb (D.keep x hx).1.lt, (D.keep x hx).2⟩⟩
theorem Doc.drewN (D : Doc w0 w F p h t L H v xs) (n : Nat) : Doc w0 (w.drewN n) F p h t L H v xs := D.below ⟨rfl, rfl, rfl, Nat.le_refl _, fun _ _ => rfl⟩
theorem Doc.drew (D : Doc w0 w F p h t L H v xs) : Doc w0 w.drew F p h t L H v xs := D.below ⟨rfl, rfl, rfl, Nat.le_refl _, fun _ _ => rfl⟩
theorem Doc.box (D : Doc w0 w F p h t L H v xs) (cs : Array Value) : Doc w0 (w.alloc (.cells cs 28)) F p h t L H v ((w.heap.size, cs) :: xs) := by
  have D1 := D.below (below_alloc (Below.refl w.heap.size w) (.cells cs 28))
  refine ⟨D1.a, D1.ok, D1.fa, D1.bel, D1.row, D1.rf, D1.same, D1.ats, fun x hx => ?_⟩
  rcases List.mem_cons.1 hx with rfl | hx
  · exact ⟨Blk.new _ _ _, fun hf => Nat.lt_irrefl _ (D.a.all _ hf)⟩
  · exact D1.keep x hx
/-- A step of the table. -/
theorem Doc.chg (D : Doc w0 w F p h t L H v xs) (c : Chg F w w') (T : Tab w' F' p h L' L') (ok : Ok t L') (sm : Same h t L' H) (hF : ∀ i, F' i → F i ∨ w.heap.size ≤ i) : Doc w0 w' F' p h t L' H v xs := by
  refine ⟨T, ok, fun i hi => ?_, below_chg D.bel D.fa c, own_chg D.row c D.rf, fun g hg hf => ?_, sm, D.ats, fun x hx => ?_⟩
  · rcases hF i hi with h1 | h1
    · exact D.fa i h1
    · exact Nat.le_trans D.bel.size h1
  · rcases hF g hf with h1 | h1
    · exact D.rf g hg h1
    · exact absurd (D.row.lt g hg).2 (by omega)
  · obtain ⟨h1, h2⟩ := D.keep x hx
    refine ⟨h1.chg c h2, fun hf => ?_⟩
    rcases hF _ hf with h4 | h4
    · exact h2 h4
    · exact absurd h1.lt (by omega)
theorem Doc.cell (D : Doc w0 w F p h t L H v xs) {g : Nat} {cs : Array Value} (hx : (g, cs) ∈ xs) (i : Nat) : w.cell? ⟨g, i, none⟩ = cs[i]? := (D.keep _ hx).1.cell i

def DocHas (w0 : World) (F : Nat → Prop) (p : Nat) (h t : Int) (L H : Prs) (v : Value) (xs : List (Nat × Array Value)) (k : ByteArray) (e : Ending) (w' : World) : Prop :=
  e = .returned (.bool (hasL h t H k)) ∧ Doc w0 w' F p h t (live h t L) H v xs
theorem doc_has (D : Doc w0 w F p h t L H v xs) (k : ByteArray) (h1 : 0 ≤ t) (h2 : t ≤ 4294967296) (hl : L.length ≤ 999999) :
    Calls Try.prog 15 #[.pointer (some ⟨p, 0, none⟩), .int .i64 t, .string k] w (DocHas w0 F p h t L H v xs k) :=
  (has_any w F p h t t L k D.a D.ok (Int.le_refl _) h1 h2 (by omega)).mono fun _ _ ⟨he, T, c⟩ => ⟨by rw [he, D.same.has (Int.le_refl _)], D.chg c T (D.ok.of_live h t) D.same.live_a (fun i hi => .inl hi)⟩
def DocLen (w0 : World) (F : Nat → Prop) (p : Nat) (h t : Int) (L H : Prs) (v : Value) (xs : List (Nat × Array Value)) (e : Ending) (w' : World) : Prop :=
  e = .returned (.int .i64 (live h t H).length) ∧ Doc w0 w' F p h t (live h t L) H v xs
theorem doc_len (D : Doc w0 w F p h t L H v xs) (h1 : 0 ≤ t) (h2 : t ≤ 4294967296) (hl : L.length ≤ 999999) :
    Calls Try.prog 18 #[.pointer (some ⟨p, 0, none⟩), .int .i64 t] w (DocLen w0 F p h t L H v xs) :=
  (len_any w F p h t t L D.a D.ok (Int.le_refl _) h1 h2 (by omega)).mono fun _ _ ⟨he, T, c⟩ => ⟨by rw [he, D.same t (Int.le_refl _)], D.chg c T (D.ok.of_live h t) D.same.live_a (fun i hi => .inl hi)⟩

/-- Both put. -/
theorem Same.both {h now : Int} {L H : Prs} {k : ByteArray} (A : Same h now L H) : Same h now (putL h now L k) (if hasL h now H k = true then H else H ++ [(k, now)]) := by
  by_cases hh : hasL h now H k = true
  · rw [if_pos hh]
    have h2 : hasL h now L k = true := by rw [A.has (Int.le_refl _)]; exact hh
    unfold putL
    rw [if_pos h2]
    exact A.live_a
  · rw [if_neg hh]
    intro n hn
    have h2 : hasL h now L k = false := by rw [A.has (Int.le_refl _)]; simpa using hh
    unfold putL
    rw [if_neg (by rw [h2]; simp)]
    have e1 : live h n (live h now L ++ [(k, now)]) = live h n (live h now L) ++ live h n [(k, now)] := by unfold live; rw [List.filter_append]
    have e2 : live h n (H ++ [(k, now)]) = live h n H ++ live h n [(k, now)] := by unfold live; rw [List.filter_append]
    rw [e1, e2, live_live hn, A n hn]

/-- What stands between the document's Put and the table's. -/
structure Mid (w0 w : World) (F : Nat → Prop) (p : Nat) (h t : Int) (L H H' : Prs) (v' : Value) (xs : List (Nat × Array Value)) (k : ByteArray) : Prop where
  a : Tab w F p h L L
  ok : Ok t L
  fa : From w0.heap.size F
  bel : Below w0.heap.size w0 w
  row : w.ownsRow w0.heap.size 54 2 v' H'.length (flat H')
  rf : ∀ g, v'.ownBlock = some g → ¬ F g
  same : Same h t L H
  hist : H' = if hasL h t H k = true then H else H ++ [(k, t)]
  ats : ∀ x ∈ H', 0 ≤ x.2 ∧ x.2 ≤ t
  keep : ∀ x ∈ xs, Blk w x.1 28 x.2 ∧ ¬ F x.1

theorem Doc.mid {H' : Prs} {v' : Value} {k : ByteArray} (D : Doc w0 w F p h t L H v xs) (h0 : 0 ≤ t) (hist : H' = if hasL h t H k = true then H else H ++ [(k, t)]) (row : w'.ownsRow w0.heap.size 54 2 v' H'.length (flat H')) (c : Chg (fun i => v.ownBlock = some i) w w')
    (n : ∀ g, v'.ownBlock = some g → v.ownBlock = some g ∨ w.heap.size ≤ g) : Mid w0 w' F p h t L H H' v' xs k := by
  refine ⟨D.a.chg c (fun i hi hv => D.rf i hv hi), D.ok, D.fa, ?_, row, fun g hg hf => ?_, D.same, hist, fun x hx => ?_, fun x hx => ?_⟩
  · exact D.bel.trans (c.below (B := w0.heap.size) (fun g hg => (D.row.lt g hg).1) D.bel.size)
  · rcases n g hg with h1 | h1
    · exact D.rf g h1 hf
    · exact absurd (D.a.all g hf) (by omega)
  · rw [hist] at hx
    split at hx
    · exact D.ats x hx
    · rcases List.mem_append.1 hx with h1 | h1
      · exact D.ats x h1
      · simp only [List.mem_singleton] at h1
        subst h1
        exact ⟨h0, Int.le_refl _⟩
  · obtain ⟨h1, h2⟩ := D.keep x hx
    refine ⟨h1.chg c (fun hv => ?_), h2⟩
    rcases D.row.2 with ⟨rfl, _⟩ | ⟨g, cap, cur, rfl, _, hg, _⟩
    · cases hv
    · have e : g = x.1 := by simpa [Value.ownBlock] using hv
      subst e
      exact h1.ne_ (t' := 54) hg (by decide) rfl
theorem Mid.cell {H' : Prs} {v' : Value} {k : ByteArray} (D : Mid w0 w F p h t L H H' v' xs k) {g : Nat} {cs : Array Value} (hx : (g, cs) ∈ xs) (i : Nat) : w.cell? ⟨g, i, none⟩ = cs[i]? := (D.keep _ hx).1.cell i

def MidPut (w0 : World) (p : Nat) (h t : Int) (L H H' : Prs) (v' : Value) (xs : List (Nat × Array Value)) (k : ByteArray) (e : Ending) (w' : World) : Prop :=
  e = .returned (.bool (!hasL h t H k)) ∧ ∃ F', Doc w0 w' F' p h t (putL h t L k) H' v' xs
theorem mid_put {H' : Prs} {v' : Value} {k : ByteArray} (D : Mid w0 w F p h t L H H' v' xs k) (hh : 1 ≤ h) (h1 : 0 ≤ t) (h2 : t ≤ 4294967296) (hl : L.length ≤ 999999) :
    Calls Try.prog 13 #[.pointer (some ⟨p, 0, none⟩), .int .i64 t, .string k] w (MidPut w0 p h t L H H' v' xs k) := by
  refine (put_any w F p h t t L k D.a D.ok hh (Int.le_refl _) h1 h2 hl).mono fun _ w' hP => ?_
  obtain ⟨he, T, c⟩ := hP
  refine ⟨by rw [he, D.same.has (Int.le_refl _)], grow F w w', T, D.ok.putL (Int.le_refl _) h1, D.fa.grow D.bel.size, below_chg D.bel D.fa c, own_chg D.row c D.rf, fun g hg hf => ?_, ?_, D.ats, fun x hx => ?_⟩
  · rcases hf with h3 | h3
    · exact D.rf g hg h3
    · exact absurd (D.row.lt g hg).2 (by omega)
  · rw [D.hist]
    exact D.same.both
  · obtain ⟨h3, h4⟩ := D.keep x hx
    refine ⟨h3.chg c h4, fun hf => ?_⟩
    rcases hf with h5 | h5
    · exact h4 h5
    · exact absurd h3.lt (by omega)
end

def PlRel (w : World) (p : Nat) (h : Int) (v nw i : Value) (wr : World) : Prop :=
  ∃ (j : Nat) (now : Int) (L H : Prs) (F : Nat → Prop), j ≤ 40 ∧ i = .int .i64 j ∧ nw = .int .i64 now ∧ 0 ≤ now ∧ now ≤ 100 * (j : Int) ∧ L.length ≤ j ∧ H.length ≤ j ∧ Doc w wr F p h now L H v []

theorem hist_length {h t : Int} {H H' : Prs} {k : ByteArray} (hh : H' = if hasL h t H k = true then H else H ++ [(k, t)]) : H'.length ≤ H.length + 1 := by
  rw [hh]
  split <;> simp

set_option maxHeartbeats 1000000 in
theorem plays_walk (a0 : Int) (a : Option Addr) (len cap : Nat) (zs : List Int) (w : World) (h1 : -9223372036854775808 ≤ a0) (h2 : a0 ≤ 9223372036854775807) (hr : IsRow w a len cap zs) :
    Calls Try.prog 5 #[.int .i64 a0, .slice a len cap] w fun e w' => e = .returned (.bool true) ∧ Below w.heap.size w w' := by
  have HR := Lib.hid hr
  have hlen := hr.len
  clear hr
  go_enter Try.func5, Try.ntmps5
  go_wp2_with fail
  refine (horizon_some a0 _ h1 h2).mono ?_
  rintro e w' ⟨h, hh1, hh2, rfl, rfl⟩
  clear h1 h2
  go_wp2_with fail
  refine (new_any h _).mono ?_
  rintro e w1 ⟨p, rfl, t1, b1⟩
  have D1 : Hid (Doc w w1 (fun k => w.heap.size ≤ k ∧ k < w1.heap.size) p h 0 [] [] (.slice none 0 0) []) :=
    ⟨t1, Ok.nil 0, fun i hi => hi.1, b1, World.ownsRow_nil _ _ _ _, fun g hg => (by cases hg), fun n hn => rfl, fun x hx => (by cases hx), fun x hx => (by cases hx)⟩
  clear t1 b1
  generalize (fun k => w.heap.size ≤ k ∧ k < w1.heap.size) = F0 at *
  go_wp2_with fail
  go_loopw [7, 8, 9] (fun v nw i wr => PlRel w p h v nw i wr) (fun _ _ i _ => 40 - (intOf i).toNat)
  case atStart => exact ⟨0, 0, [], [], F0, by omega, rfl, rfl, by omega, by omega, by simp, by simp, D1.out⟩
  case round =>
    clear D1
    obtain ⟨j, now, L, H, F, hj, rfl, rfl, hn0, hn1, hLl, hHl, dd⟩ := hrel
    have DD := Lib.hid dd
    clear dd
    by_cases hlt : j < len ∧ j < 40
    · obtain ⟨hlt1, hlt2⟩ := hlt
      obtain ⟨ad, z, rfl, hc, hz1, hz2⟩ := HR.out.later DD.out.bel hlt1
      go_wp2_with fail
      refine (of_any z _ hz1 hz2).mono ?_
      rintro e w4 ⟨l, s, pb, hl1, hl2, hs, rfl, b4⟩
      clear hc hz1 hz2
      have D5 := Lib.hid (((DD.out.below b4).box #[.int .i64 l, .string s, .bool pb]).later (show now ≤ now + l by omega))
      obtain ⟨A, c7, rfl⟩ := own_form DD.out.row
      clear b4 DD
      go_wp2_with fail
      generalize (w4.alloc (.cells #[.int .i64 l, .string s, .bool pb] 28)) = w5 at *
      generalize w4.heap.size = xb at *
      have DDR := Lib.hid D5.out.drew
      have x0 := DDR.out.cell (List.mem_cons_self) 0
      have x1 := DDR.out.cell (List.mem_cons_self) 1
      have x2 := DDR.out.cell (List.mem_cons_self) 2
      simp only [List.getElem?_toArray, List.getElem?_cons_zero, List.getElem?_cons_succ] at x0 x1 x2
      clear D5
      go_region_held3 (fun w' => w'.cell? ⟨xb, 1, none⟩ = some (.string s) ∧ w'.cell? ⟨xb, 2, none⟩ = some (.bool pb))
        (first | exact ⟨x1, x2⟩ | (exact ⟨(Hid.out ‹Hid (Doc _ _ _ _ _ _ _ _ _ _)›).cell (List.mem_cons_self) 1, (Hid.out ‹Hid (Doc _ _ _ _ _ _ _ _ _ _)›).cell (List.mem_cons_self) 2⟩))
        (first | (go_at_call 15; (with_reducible refine (doc_has DDR.out s (by omega) (by omega) (by omega)).mono ?_); rintro e w6 ⟨rfl, d6⟩; have D6 := Lib.hid d6; clear d6) | (go_at_call 16; (with_reducible refine (ref_has w.heap.size A c7 H h (now + l) s _ D6.out.row (by omega) D6.out.ats hh1 (by omega) (by omega)).mono ?_); rintro e w7 ⟨rfl, rfl⟩))
      have y1 := D6.out.cell (List.mem_cons_self) 1
      have y2 := D6.out.cell (List.mem_cons_self) 2
      simp only [List.getElem?_toArray, List.getElem?_cons_zero, List.getElem?_cons_succ] at y1 y2
      have hL6 := live_length h (now + l) L
      rename_i hS
      clear hS x0 x1 x2 DDR
      cases pb with
      | false =>
        generalize hL5 : live h (now + l) L = L5 at *
        clear hL5
        go_wp2_with fail
        refine (doc_len D6.out (by omega) (by omega) (by omega)).mono ?_
        rintro e w20 ⟨rfl, d20⟩
        have hL20 := live_length h (now + l) L5
        have D20 := Lib.hid d20
        clear d20 D6
        go_wp2_with fail
        refine (ref_len w.heap.size A c7 H h (now + l) _ D20.out.row (by omega) D20.out.ats hh1 (by omega) (by omega)).mono ?_
        rintro e w21 ⟨rfl, rfl⟩
        generalize (live h (now + l) H).length = m at *
        go_wp2_with fail
        exact ⟨⟨j + 1, now + l, _, H, _, by omega, by go_num, rfl, by omega, by omega, by omega, by omega, D20.out.drop⟩, by simp [intOf]; omega⟩
      | true =>
        generalize hL5 : live h (now + l) L = L5 at *
        clear hL5
        go_wp2_with fail
        refine (ref_put w.heap.size A c7 H h (now + l) s _ D6.out.row (by omega) D6.out.ats hh1 (by omega) (by omega) D6.out.bel.size).mono ?_
        rintro e w7 ⟨v7, H7, rfl, hist, row7, c8, n7⟩
        have hH7 := hist_length hist
        have M7 := Lib.hid (D6.out.mid (by omega) hist row7 c8 n7)
        obtain ⟨A9, c9, rfl⟩ := own_form row7
        clear hist row7 c8 n7 D6 y1 y2
        have y1 := M7.out.cell (List.mem_cons_self) 1
        simp only [List.getElem?_toArray, List.getElem?_cons_zero, List.getElem?_cons_succ] at y1
        go_wp2_with fail
        refine (mid_put M7.out hh1 (by omega) (by omega) (by omega)).mono ?_
        rintro e w8 ⟨rfl, F8, d8⟩
        have hL8 := putL_length h (now + l) L5 s
        have D8 := Lib.hid d8
        clear d8 M7 y1
        generalize putL h (now + l) L5 s = L8 at *
        generalize hasL h (now + l) H s = b1 at *
        go_wp2_with fail
        refine (doc_len D8.out (by omega) (by omega) (by omega)).mono ?_
        rintro e w20 ⟨rfl, d20⟩
        have hL20 := live_length h (now + l) L8
        have D20 := Lib.hid d20
        clear d20 D8
        go_wp2_with fail
        refine (ref_len w.heap.size A9 c9 H7 h (now + l) _ D20.out.row (by omega) D20.out.ats hh1 (by omega) (by omega)).mono ?_
        rintro e w21 ⟨rfl, rfl⟩
        generalize (live h (now + l) H7).length = m at *
        go_wp2_with fail
        exact ⟨⟨j + 1, now + l, _, H7, _, by omega, by go_num, rfl, by omega, by omega, by omega, by omega, D20.out.drop⟩, by simp [intOf]; omega⟩
    · by_cases hlt1 : j < len
      · have hlt2 : ¬ j < 40 := by omega
        clear hlt
        go_wp2_with fail
        refine (lives_any _).mono ?_
        rintro e w11 ⟨rfl, b11⟩
        have B11 := Lib.hid b11
        clear b11
        go_wp2_with fail
        go_ret
        exact ⟨rfl, below_next DD.out.bel B11.out⟩
      · clear hlt
        go_wp2_with fail
        refine (lives_any _).mono ?_
        rintro e w11 ⟨rfl, b11⟩
        have B11 := Lib.hid b11
        clear b11
        go_wp2_with fail
        go_ret
        exact ⟨rfl, below_next DD.out.bel B11.out⟩

end Go.Proofs.Ythbpimkbdkjcnaa
