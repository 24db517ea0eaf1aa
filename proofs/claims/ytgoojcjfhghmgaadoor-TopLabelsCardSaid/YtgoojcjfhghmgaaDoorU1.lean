/- Explain. -/
import Derived.Test.YtgoojcjfhghmgaaDoorDisEe
import Derived.Test.YtgoojcjfhghmgaaDoorDisHc
import Derived.Test.YtgoojcjfhghmgaaDoorDisIa
import Derived.Deep.RegionWith
import Derived.OwnWalk

namespace Go.Proofs.YtgoojcjfhghmgaaDoor
open Go.RowKit

theorem keep2 {w0 W : World} {n : Nat} {c0 c1 : Value} (hlt : n < w0.heap.size) (h : w0.cell? ⟨n, 0, none⟩ = some c0 ∧ w0.cell? ⟨n, 1, none⟩ = some c1) (hb : Below w0.heap.size w0 W) :
    W.cell? ⟨n, 0, none⟩ = some c0 ∧ W.cell? ⟨n, 1, none⟩ = some c1 ∧ Below w0.heap.size w0 W :=
  ⟨(hb.cell (p := ⟨n, 0, none⟩) hlt).trans h.1, (hb.cell (p := ⟨n, 1, none⟩) hlt).trans h.2, hb⟩
/-- Whether a rule follows. -/
def FlR (l : List Ru) (p : Nat) (x : Ru) (r : Bool) : Prop := ∃ y, Cl l (mk (natL x.1)) allW y ∧ y < 2 ^ p ∧ r = y.testBit x.2.toNat
def FlV (l : List Ru) (p : Nat) (x : Ru) (v : Value) : Prop := ∃ r, v = .bool r ∧ FlR l p x r

set_option maxRecDepth 100000 in
set_option maxHeartbeats 4000000 in
theorem follows_any (A AR : Option Addr) (c cR B p : Nat) (l : List Ru) (x : Ru) (w : World) (hB : B ≤ w.heap.size) (h : RusAt B w AR l) (hi : IntsAt B w A x.1) (hs : l.length ≤ 60) (hl : ∀ x ∈ l, x.1.length ≤ 40) (hm : x.1.length ≤ 60) (hr : ∀ x ∈ l, ruOk p x = true) (hx : ruOk p x = true) (hp : p ≤ 10) :
    Calls Tryd.prog 78 #[.slice AR l.length cR, .agg #[.slice A x.1.length c, .int .i64 x.2]] w fun e w' => ∃ v, e = .returned v ∧ FlV l p x v ∧ Below w.heap.size w w' := by
  obtain ⟨ps, t0⟩ := x
  obtain ⟨hset, ht0, htp⟩ := ruOk_mem hx
  obtain ⟨t, rfl⟩ := Int.eq_ofNat_of_zero_le ht0
  simp only at hi hm hset ht0 htp ⊢
  have htn : t < p := by omega
  have hb0 := Blk.new w 42 #[.slice A ps.length c, .int .i64 t]
  have hw0 : Below w.heap.size w (w.alloc (.cells #[.slice A ps.length c, .int .i64 t] 42)) := (Below.refl _ _).alloc (Nat.le_refl _) _
  obtain ⟨W0, hW0⟩ : ∃ W0, W0 = w.alloc (.cells #[.slice A ps.length c, .int .i64 t] 42) := ⟨_, rfl⟩
  rw [← hW0] at hb0 hw0
  have hlt : w.heap.size < W0.heap.size := hb0.lt
  have hR := (h.below (Below.refl _ _) hB).below hw0 (Nat.le_of_lt hlt)
  have hP := (hi.below (Below.refl _ _) hB).below hw0 (Nat.le_of_lt hlt)
  have hps := isS_mem hset
  have hin : intL (natL ps) = ps := int_nat fun x hx => (hps x hx).1
  have hlp := natL_lt hps
  have cm0 := fun W (hW : Below W0.heap.size W0 W) => mask_any A c W0.heap.size (natL ps) W (by rw [hin]; exact hP.below hW (Nat.le_refl _)) (by rw [natL_length]; omega) (fun x hx => by have := hlp x hx; omega)
  rw [natL_length] at cm0
  have cm := Lib.hid cm0
  have cc := Lib.hid (fun W (hW : Below W0.heap.size W0 W) => closure_any AR cR W0.heap.size l p (mk (natL ps)) (-1) allW W hW.size (hR.below hW (Nat.le_refl _)) hs hl hr hp (mk_lt hlp) minus_one)
  have kt := fun y (hy : y < 2 ^ p) => bit_test (m := y) (i := t) (Nat.lt_of_lt_of_le hy (Nat.pow_le_pow_right (by decide) (by omega)))
  have Kt := Lib.hid kt
  have HF := Lib.hid (fun y (h1 : Cl l (mk (natL ps)) allW y) (h2 : y < 2 ^ p) => show FlV l p (ps, (t : Int)) (.bool (y.testBit t)) from ⟨_, rfl, y, h1, h2, by simp⟩)
  have HB := Lib.hid hb0
  have Hw := Lib.hid hw0
  clear h hi hs hl hm hr hx hset ht0 htp hb0 hw0 hR hP hps hin hlp cm0 kt hB
  generalize mk (natL ps) = m at cm cc HF
  have tok := Lib.hid (Nat.le_refl 0)
  go_enter Tryd.func78, Tryd.ntmps78
  go_wp2_with fail
  rw [← hW0]
  clear hW0
  go_region_held3 (fun W => W.cell? ⟨w.heap.size, 0, none⟩ = some (.slice A ps.length c) ∧ W.cell? ⟨w.heap.size, 1, none⟩ = some (.int .i64 t) ∧ Below W0.heap.size W0 W)
    ((refine keep2 hlt ⟨HB.out.cell 0, HB.out.cell 1⟩ ?_; repeat (first | exact Below.refl _ _ | assumption | refine Below.drew ?_)))
    (first
      | (go_at_call 76; have tk := tok; clear tok; refine (cm.out _ (by repeat (first | exact Below.refl _ _ | assumption | refine Below.drew ?_))).mono ?_; rintro e w5 ⟨rfl, rfl⟩; have tok2 := tk)
      | (go_at_call 75; have tk := tok2; clear tok2; refine (cc.out _ (by repeat (first | exact Below.refl _ _ | assumption | refine Below.drew ?_))).mono ?_; rintro e w6 ⟨y, rfl, hcl, hyl, hd6⟩; have kty := Kt.out y hyl; have hb6 : Below W0.heap.size W0 w6 := Below.trans (by repeat (first | exact Below.refl _ _ | assumption | refine Below.drew ?_)) (hd6.mono (Below.size (w := W0) (B := W0.heap.size) (by repeat (first | exact Below.refl _ _ | assumption | refine Below.drew ?_)))); have q0 := (hb6.cell (p := ⟨w.heap.size, 0, none⟩) hlt).trans (HB.out.cell 0); have q1 := (hb6.cell (p := ⟨w.heap.size, 1, none⟩) hlt).trans (HB.out.cell 1)))
  all_goals
    have HB6 := Lib.hid (Hw.out.trans (hb6.mono Hw.out.size))
    have HF6 := Lib.hid (HF.out y hcl hyl)
    clear hcl hyl hb6 kty
    generalize y.testBit t = r at HF6 ⊢
    cases r
    all_goals
      go_wp2_with fail
      go_ret
      exact ⟨_, rfl, HF6.out, HB6.out⟩

end Go.Proofs.YtgoojcjfhghmgaaDoor


namespace Go.Proofs.YtgoojcjfhghmgaaDoor
open Go.RowKit

theorem mkTo_zero (l : List Nat) : mkTo l 0 = 0 := by simp [mkTo]
end Go.Proofs.YtgoojcjfhghmgaaDoor


namespace Go.Proofs.YtgoojcjfhghmgaaDoor
open Go.RowKit

theorem bsF_bit (b : Bk) (q : Nat) : ∀ (l : List Nat) (m : Nat), (l.foldl (fun m i => m ||| mk (hasL b i)) m).testBit q = (m.testBit q || l.any fun i => (mk (hasL b i)).testBit q)
  | [], m => by simp
  | i :: l, m => by
    rw [List.foldl_cons, bsF_bit b q l, Nat.testBit_or, List.any_cons, Bool.or_assoc]
end Go.Proofs.YtgoojcjfhghmgaaDoor


namespace Go.Proofs.YtgoojcjfhghmgaaDoor
open Go.RowKit

def akR (b : Bk) (item prop : Int) : Int := if nmR b item = 0 then (if prop < 0 ∨ b.p ≤ prop then 5 else 0) else nmR b item
theorem ak_zero {b : Bk} {item prop : Int} (h : akR b item prop = 0) : nmR b item = 0 ∧ 0 ≤ prop ∧ prop < b.p := by
  unfold akR at h
  split at h
  · rename_i h0
    split at h
    · omega
    · rename_i h1
      exact ⟨h0, by omega, by omega⟩
  · rename_i h0
    exact absurd h h0
/-- A step: property, item, rule. -/
abbrev St := Int × Int × Int
def StAt (B : Nat) (w : World) (A : Option Addr) (l : List St) : Prop :=
  ∀ k (hk : k < l.length), ∃ b off, A = some ⟨b, off, none⟩ ∧ b < B ∧ w.cell? ⟨b, off + k * 3, none⟩ = some (.int .i64 l[k].1) ∧ w.cell? ⟨b, off + k * 3 + 1, none⟩ = some (.int .i64 l[k].2.1) ∧ w.cell? ⟨b, off + k * 3 + 2, none⟩ = some (.int .i64 l[k].2.2)
theorem StAt.below {B B' : Nat} {w w' : World} {A : Option Addr} {l : List St} (h : StAt B w A l) (hb : Below B w w') (hB : B ≤ B') : StAt B' w' A l := by
  intro k hk
  obtain ⟨b, off, e, h1, h2, h3, h4⟩ := h k hk
  exact ⟨b, off, e, by omega, (hb.cell (p := ⟨b, off + k * 3, none⟩) h1).trans h2, (hb.cell (p := ⟨b, off + k * 3 + 1, none⟩) h1).trans h3, (hb.cell (p := ⟨b, off + k * 3 + 2, none⟩) h1).trans h4⟩
/-- Whether a step is right, with the properties K. -/
def rgR (b : Bk) (item : Nat) (s : St) (K : Nat) : Bool :=
  if s.1 < 0 ∨ b.p ≤ s.1 then false
  else if s.2.2 = -1 then decide (0 ≤ s.2.1) && decide (s.2.1 < b.its.length) && (cnS b item).testBit s.2.1.toNat && ((b.its[s.2.1.toNat]?.getD ([], [])).2).contains s.1
  else decide (s.2.1 = -1) && decide (0 ≤ s.2.2) && decide (s.2.2 < b.rus.length) && decide ((b.rus[s.2.2.toNat]?.getD ([], 0)).2 = s.1) && allB K (natL (b.rus[s.2.2.toNat]?.getD ([], 0)).1)

set_option maxRecDepth 100000 in
set_option maxHeartbeats 2000000 in
theorem asked_any (AI AR : Option Addr) (cI cR B : Nat) (b : Bk) (item prop : Int) (w : World) (hB : B ≤ w.heap.size) (h : ItsAt B w AI b.its) (h' : RusAt B w AR b.rus) (hs : Short b) :
    Calls Tryd.prog 85 #[.agg #[.int .i64 b.p, .slice AI b.its.length cI, .slice AR b.rus.length cR], .int .i64 item, .int .i64 prop] w fun e w' => e = .returned (.int .i64 (akR b item prop)) ∧ Below w.heap.size w w' := by
  have hb0 := Blk.new w 25 #[.int .i64 b.p, .slice AI b.its.length cI, .slice AR b.rus.length cR]
  have hw0 : Below w.heap.size w (w.alloc (.cells #[.int .i64 b.p, .slice AI b.its.length cI, .slice AR b.rus.length cR] 25)) := (Below.refl _ _).alloc (Nat.le_refl _) _
  have hlt : w.heap.size < (w.alloc (.cells #[.int .i64 b.p, .slice AI b.its.length cI, .slice AR b.rus.length cR] 25)).heap.size := hb0.lt
  have hI := (h.below (Below.refl _ _) hB).below hw0 (Nat.le_of_lt hlt)
  have hR := (h'.below (Below.refl _ _) hB).below hw0 (Nat.le_of_lt hlt)
  have cv := Lib.hid (named_any AI AR cI cR _ b item _ (Nat.le_refl _) hI hR hs)
  have Hn := Lib.hid (show akR b item prop = if nmR b item = 0 then (if prop < 0 ∨ b.p ≤ prop then 5 else 0) else nmR b item from rfl)
  have HB := Lib.hid hb0
  have Hw := Lib.hid hw0
  generalize nmR b item = e0 at cv Hn
  clear h h' hs hI hR hb0 hw0
  by_cases he : e0 = 0
  · subst he
    have Hn2 := Lib.hid (show akR b item prop = if prop < 0 ∨ b.p ≤ prop then 5 else 0 by rw [Hn.out, if_pos rfl])
    by_cases h1 : prop < 0
    · have Hr := Lib.hid (show akR b item prop = 5 by rw [Hn2.out, if_pos (.inl h1)])
      go_enter Tryd.func85, Tryd.ntmps85
      go_wp2_with (go_at_call 67; refine cv.out.mono ?_; rintro e w1 ⟨rfl, hd⟩; have hx1 := HB.out.below hd hlt; have z1 := hx1.cell 0)
      go_ret
      exact ⟨by rw [Hr.out]; rfl, Hw.out.trans (hd.mono Hw.out.size)⟩
    · have h1d : decide (prop < 0) = false := by simpa using h1
      by_cases h2 : b.p ≤ prop
      · have Hr := Lib.hid (show akR b item prop = 5 by rw [Hn2.out, if_pos (.inr h2)])
        have h2d : decide (b.p ≤ prop) = true := by simpa using h2
        go_enter Tryd.func85, Tryd.ntmps85
        go_wp2_with (go_at_call 67; refine cv.out.mono ?_; rintro e w1 ⟨rfl, hd⟩; have hx1 := HB.out.below hd hlt; have z1 := hx1.cell 0)
        go_ret
        exact ⟨by rw [Hr.out]; rfl, Hw.out.trans (hd.mono Hw.out.size)⟩
      · have Hr := Lib.hid (show akR b item prop = 0 by rw [Hn2.out, if_neg (by omega)])
        have h2d : decide (b.p ≤ prop) = false := by simpa using h2
        go_enter Tryd.func85, Tryd.ntmps85
        go_wp2_with (go_at_call 67; refine cv.out.mono ?_; rintro e w1 ⟨rfl, hd⟩; have hx1 := HB.out.below hd hlt; have z1 := hx1.cell 0)
        go_ret
        exact ⟨by rw [Hr.out]; rfl, Hw.out.trans (hd.mono Hw.out.size)⟩
  · have Hr := Lib.hid (show akR b item prop = e0 by rw [Hn.out, if_neg he])
    have he1 : (e0 == 0) = false := by simpa using he
    have he2 : (e0 != 0) = true := by simpa using he
    go_enter Tryd.func85, Tryd.ntmps85
    go_wp2_with (go_at_call 67; refine cv.out.mono ?_; rintro e w1 ⟨rfl, hd⟩; have hx1 := HB.out.below hd hlt; have z1 := hx1.cell 0)
    go_ret
    exact ⟨by rw [Hr.out]; rfl, Hw.out.trans (hd.mono Hw.out.size)⟩


end Go.Proofs.YtgoojcjfhghmgaaDoor


namespace Go.Proofs.YtgoojcjfhghmgaaDoor
open Go.RowKit

/-- The properties of steps. -/
def kS (l : List St) : Nat := l.foldl (fun m s => m ||| 2 ^ s.1.toNat) 0
theorem kS_snoc (l : List St) (s : St) : kS (l ++ [s]) = kS l ||| 2 ^ s.1.toNat := by simp [kS]
theorem kS_take {l : List St} {i : Nat} (hi : i < l.length) : kS (l.take (i + 1)) = kS (l.take i) ||| 2 ^ l[i].1.toNat := by
  rw [List.take_succ_eq_append_getElem hi, kS_snoc]
/-- The number of bits below n. -/
def cntB (x : Nat) : Nat → Nat
  | 0 => 0
  | n + 1 => cntB x n + if x.testBit n then 1 else 0
theorem cntB_le (x : Nat) : ∀ n, cntB x n ≤ n
  | 0 => Nat.le_refl _
  | n + 1 => by unfold cntB; have := cntB_le x n; split <;> omega
theorem cntB_far {x t : Nat} : ∀ n, n ≤ t → cntB (x ||| 2 ^ t) n = cntB x n
  | 0, _ => rfl
  | n + 1, h => by
    unfold cntB
    rw [cntB_far n (by omega), Nat.testBit_or, Nat.testBit_two_pow]
    have : decide (t = n) = false := by simp; omega
    rw [this, Bool.or_false]
theorem cntB_or {x t : Nat} (hx : x.testBit t = false) : ∀ n, t < n → cntB (x ||| 2 ^ t) n = cntB x n + 1
  | n + 1, h => by
    unfold cntB
    by_cases e : t = n
    · subst e
      rw [cntB_far t (Nat.le_refl _), Nat.testBit_or, Nat.testBit_two_pow, hx]
      simp
    · rw [cntB_or hx n (by omega), Nat.testBit_or, Nat.testBit_two_pow]
      have : decide (t = n) = false := by simp; omega
      rw [this, Bool.or_false]; omega
theorem cntB_full {x : Nat} : ∀ n, n ≤ cntB x n → ∀ q, q < n → x.testBit q = true
  | n + 1, h, q, hq => by
    unfold cntB at h
    have h1 := cntB_le x n
    split at h
    · rename_i hb
      by_cases e : q = n
      · subst e; exact hb
      · exact cntB_full n (by omega) q (by omega)
    · omega
/-- Each step is right. -/
def Prf (b : Bk) (item : Nat) (l : List St) : Prop := ∀ i (hi : i < l.length), rgR b item l[i] (kS (l.take i)) = true
theorem Prf.nil (b : Bk) (item : Nat) : Prf b item [] := fun i hi => by simp at hi
theorem Prf.snoc {b : Bk} {item : Nat} {l : List St} {s : St} (h : Prf b item l) (hs : rgR b item s (kS l) = true) : Prf b item (l ++ [s]) := fun i hi => by
  rw [List.length_append, List.length_singleton] at hi
  by_cases e : i < l.length
  · rw [List.getElem_append_left e, List.take_append_of_le_length (by omega)]
    exact h i e
  · obtain rfl : i = l.length := by omega
    rw [List.getElem_append_right (Nat.le_refl _), List.take_append_of_le_length (Nat.le_refl _), List.take_length]
    simpa using hs
theorem rg_prop {b : Bk} {item K : Nat} {s : St} (h : rgR b item s K = true) : 0 ≤ s.1 ∧ s.1 < b.p := by
  unfold rgR at h
  split at h
  · exact absurd h (by decide)
  · omega
/-- What a right step proves is in the label, if what was known is. -/
theorem rg_label {b : Bk} (hv : VBk b) {item K x : Nat} (hi : item < b.its.length) {s : St} (hx : Lbl b item x) (hK : Sub K x) (h : rgR b item s K = true) : x.testBit s.1.toNat = true := by
  have hp := rg_prop h
  unfold rgR at h
  rw [if_neg (by omega)] at h
  split at h
  · simp only [Bool.and_eq_true, decide_eq_true_eq] at h
    obtain ⟨⟨⟨h0, h1⟩, h2⟩, h3⟩ := h
    refine hx.1.1.1 _ ?_
    unfold bsS
    rw [bsF_bit, Nat.zero_testBit, Bool.false_or, List.any_eq_true]
    have hlt : cnS b item < 18446744073709551616 := Nat.lt_of_lt_of_le (cnS_lt hv hi) (Nat.le_trans (Nat.pow_le_pow_right (by decide) (show item + 1 ≤ 60 by have := hv.ni; omega)) (by decide))
    refine ⟨s.2.1.toNat, (mem_bl _ hlt _).2 h2, ?_⟩
    rw [mk_bit, List.contains_iff_mem]
    exact List.mem_map_of_mem (List.contains_iff_mem.1 h3)
  · simp only [Bool.and_eq_true, decide_eq_true_eq] at h
    obtain ⟨⟨⟨⟨_, h0⟩, h1⟩, h2⟩, h3⟩ := h
    have hlt : s.2.2.toNat < b.rus.length := by omega
    rw [List.getElem?_eq_getElem hlt, Option.getD_some] at h2 h3
    have := hx.1.2 b.rus[s.2.2.toNat] (List.getElem_mem hlt) (allB_sub hK h3) rfl
    rw [h2] at this
    exact this
theorem Prf.sub {b : Bk} (hv : VBk b) {item x : Nat} (hit : item < b.its.length) {l : List St} (h : Prf b item l) (hx : Lbl b item x) : ∀ i, i ≤ l.length → Sub (kS (l.take i)) x
  | 0, _ => fun q hq => by simp [kS] at hq
  | i + 1, hi => fun q hq => by
    have ih := h.sub hv hit hx i (by omega)
    rw [kS_take (by omega), Nat.testBit_or, Bool.or_eq_true] at hq
    rcases hq with hq | hq
    · exact ih q hq
    · rw [Nat.testBit_two_pow, decide_eq_true_eq] at hq
      subst hq
      exact rg_label hv hit hx ih (h i (by omega))
theorem Prf.all {b : Bk} (hv : VBk b) {item x : Nat} (hit : item < b.its.length) {l : List St} (h : Prf b item l) (hx : Lbl b item x) : Sub (kS l) x := by
  have := h.sub hv hit hx l.length (Nat.le_refl _)
  rwa [List.take_length] at this

/-- What adding a step leaves. -/
def addS (prop : Nat) (l : List St) (s : St) : List St := if (kS l).testBit prop || (kS l).testBit s.1.toNat then l else l ++ [s]
structure Gr (b : Bk) (item prop : Nat) (l : List St) : Prop where
  prf : Prf b item l
  len : l.length = cntB (kS l) b.p.toNat
  last : (kS l).testBit prop = true → ∃ s, l.getLast? = some s ∧ s.1.toNat = prop
theorem Gr.nil (b : Bk) (item prop : Nat) : Gr b item prop [] := by
  refine ⟨Prf.nil b item, ?_, fun h => by simp [kS] at h⟩
  have : ∀ n, cntB 0 n = 0 := fun n => by
    induction n with
    | zero => rfl
    | succ n ih => unfold cntB; rw [ih]; simp
  exact (this _).symm
theorem Gr.add {b : Bk} {item prop : Nat} {l : List St} {s : St} (h : Gr b item prop l) (hs : rgR b item s (kS l) = true) : Gr b item prop (addS prop l s) := by
  have hp := rg_prop hs
  unfold addS
  split
  · exact h
  · rename_i hc
    rw [Bool.or_eq_true, not_or, Bool.not_eq_true, Bool.not_eq_true] at hc
    refine ⟨h.prf.snoc hs, ?_, fun hb => ⟨s, by simp, ?_⟩⟩
    · rw [kS_snoc, cntB_or hc.2 _ (by omega), List.length_append, h.len]; rfl
    · rw [kS_snoc, Nat.testBit_or, hc.1, Bool.false_or, Nat.testBit_two_pow, decide_eq_true_eq] at hb
      exact hb
/-- What is known of M, unless the property is. -/
def Cov (prop : Nat) (l : List St) (M : Nat) : Prop := (kS l).testBit prop = true ∨ Sub M (kS l)
theorem addS_sub (prop : Nat) (l : List St) (s : St) : Sub (kS l) (kS (addS prop l s)) := fun q hq => by
  unfold addS
  split
  · exact hq
  · rw [kS_snoc, Nat.testBit_or, hq]; rfl
theorem addS_has {prop : Nat} {l : List St} {s : St} (h : (kS l).testBit prop = false) : (kS (addS prop l s)).testBit s.1.toNat = true := by
  unfold addS
  split
  · rename_i hc
    rw [h, Bool.false_or] at hc
    exact hc
  · rw [kS_snoc, Nat.testBit_or]; simp
theorem Cov.start (prop : Nat) (l : List St) : Cov prop l 0 := .inr fun q hq => by simp at hq
theorem Cov.add {prop M : Nat} {l : List St} {s : St} (h : Cov prop l M) : Cov prop (addS prop l s) (M ||| 2 ^ s.1.toNat) := by
  by_cases hb : (kS l).testBit prop = true
  · exact .inl (addS_sub prop l s _ hb)
  · rw [Bool.not_eq_true] at hb
    rcases h with h | h
    · rw [hb] at h; cases h
    · refine .inr fun q hq => ?_
      rw [Nat.testBit_or, Bool.or_eq_true] at hq
      rcases hq with hq | hq
      · exact addS_sub prop l s _ (h q hq)
      · rw [Nat.testBit_two_pow, decide_eq_true_eq] at hq
        subst hq
        exact addS_has hb
/-- After j rounds over the rules, and i rules of the next one. -/
def Cov2 (b : Bk) (item prop j i : Nat) (l : List St) : Prop :=
  (kS l).testBit prop = true ∨ (Sub (bsS b item) (kS l) ∧ (Shut b.rus allW (kS l) ∨ j + 1 ≤ cntB (kS l) b.p.toNat ∨ (j ≤ cntB (kS l) b.p.toNat ∧ Off b.rus allW (kS l) i)))
theorem Cov2.start {b : Bk} {item prop : Nat} {l : List St} (h : Cov prop l (bsS b item)) : Cov2 b item prop 0 0 l := by
  rcases h with h | h
  · exact .inl h
  · exact .inr ⟨h, .inr (.inr ⟨Nat.zero_le _, fun j _ hj => by omega⟩)⟩
theorem Cov2.next {b : Bk} {item prop j : Nat} {l : List St} (h : Cov2 b item prop j b.rus.length l) : Cov2 b item prop (j + 1) 0 l := by
  rcases h with h | ⟨h, h1 | h1 | ⟨_, h1⟩⟩
  · exact .inl h
  · exact .inr ⟨h, .inl h1⟩
  · exact .inr ⟨h, .inr (.inr ⟨h1, fun j _ hj => by omega⟩)⟩
  · exact .inr ⟨h, .inl h1.all⟩
theorem Cov2.skip {b : Bk} {item prop j i : Nat} {l : List St} (h : Cov2 b item prop j i l) (hi : i < b.rus.length) (ha : allB (kS l) (natL b.rus[i].1) = false) : Cov2 b item prop j (i + 1) l := by
  rcases h with h | ⟨h, h1 | h1 | ⟨h2, h1⟩⟩
  · exact .inl h
  · exact .inr ⟨h, .inl h1⟩
  · exact .inr ⟨h, .inr (.inl h1)⟩
  · exact .inr ⟨h, .inr (.inr ⟨h2, h1.succ fun _ ht _ => by rw [ha] at ht; cases ht⟩)⟩
theorem Cov2.step {b : Bk} {item prop j i : Nat} {l : List St} {s : St} (h : Cov2 b item prop j i l) (hi : i < b.rus.length) (hs : s.1.toNat = b.rus[i].2.toNat) (hp : s.1.toNat < b.p.toNat) (ha : allB (kS l) (natL b.rus[i].1) = true) : Cov2 b item prop j (i + 1) (addS prop l s) := by
  by_cases hb : (kS l).testBit prop = true
  · exact .inl (addS_sub prop l s _ hb)
  · rw [Bool.not_eq_true] at hb
    rcases h with h | ⟨h, h1⟩
    · rw [hb] at h; cases h
    · by_cases hk : (kS l).testBit s.1.toNat = true
      · have e : addS prop l s = l := by unfold addS; rw [hk, Bool.or_true, if_pos rfl]
        rw [e]
        rcases h1 with h1 | h1 | ⟨h2, h1⟩
        · exact .inr ⟨h, .inl h1⟩
        · exact .inr ⟨h, .inr (.inl h1)⟩
        · exact .inr ⟨h, .inr (.inr ⟨h2, h1.succ fun _ _ _ => by rw [← hs]; exact hk⟩)⟩
      · rw [Bool.not_eq_true] at hk
        have e : addS prop l s = l ++ [s] := by unfold addS; rw [hk, hb]; rfl
        have hc := cntB_or hk b.p.toNat hp
        refine .inr ⟨fun q hq => addS_sub prop l s _ (h q hq), ?_⟩
        rw [e, kS_snoc]
        rcases h1 with h1 | h1 | ⟨h2, h1⟩
        · have := h1 b.rus[i] (List.getElem_mem hi) ha rfl
          rw [← hs, hk] at this; cases this
        · exact .inr (.inl (by omega))
        · exact .inr (.inl (by omega))
/-- At the end the property is known exactly if it is in the label. -/
theorem Cov2.done {b : Bk} {item prop x : Nat} {l : List St} (h : Cov2 b item prop b.p.toNat 0 l) (hg : Gr b item prop l) (hv : VBk b) (hit : item < b.its.length) (hx : Lbl b item x) (hp : prop < b.p.toNat) : (kS l).testBit prop = x.testBit prop := by
  rw [Bool.eq_iff_iff]
  refine ⟨hg.prf.all hv hit hx prop, fun hq => ?_⟩
  rcases h with h | ⟨h, h1 | h1 | ⟨h2, _⟩⟩
  · exact h
  · exact hx.1.1.2 _ h h1 prop hq
  · have := cntB_le (kS l) b.p.toNat; omega
  · exact cntB_full _ h2 prop hp
end Go.Proofs.YtgoojcjfhghmgaaDoor


namespace Go.Proofs.YtgoojcjfhghmgaaDoor
open Go.RowKit

def prfB (b : Bk) (item : Nat) (l : List St) : Bool := (List.range l.length).all fun i => rgR b item (l[i]?.getD (0, 0, 0)) (kS (l.take i))
theorem prfB_iff {b : Bk} {item : Nat} {l : List St} : prfB b item l = true ↔ Prf b item l := by
  unfold prfB Prf
  rw [List.all_eq_true]
  refine ⟨fun h i hi => ?_, fun h i hi => ?_⟩
  · have := h i (List.mem_range.2 hi)
    rwa [List.getElem?_eq_getElem hi, Option.getD_some] at this
  · have hi' := List.mem_range.1 hi
    rw [List.getElem?_eq_getElem hi', Option.getD_some]
    exact h i hi'
/-- The property of the last step. -/
def lastP (l : List St) : Int := (l.getLast?.map (·.1)).getD (-1)
theorem lastP_snoc (l : List St) (s : St) : lastP (l ++ [s]) = s.1 := by simp [lastP]
theorem lastP_take {l : List St} {i : Nat} (hi : i < l.length) : lastP (l.take (i + 1)) = l[i].1 := by
  rw [List.take_succ_eq_append_getElem hi, lastP_snoc]
theorem lastP_at {l : List St} {i : Nat} (hi : i + 1 = l.length) : lastP l = (l[i]'(by omega)).1 := by
  have := lastP_take (l := l) (i := i) (by omega)
  rwa [hi, List.take_length] at this
/-- What CheckProof returns. -/
def cpR (b : Bk) (item prop : Int) (l : List St) : Int :=
  if akR b item prop = 0 then (if 40 < l.length then 4 else if prfB b item.toNat l = true ∧ lastP l = prop then 0 else 8) else akR b item prop
theorem cp_ak {b : Bk} {item prop : Int} {l : List St} (h : akR b item prop ≠ 0) : cpR b item prop l = akR b item prop := if_neg h
theorem cp_long {b : Bk} {item prop : Int} {l : List St} (h : akR b item prop = 0) (hl : 40 < l.length) : cpR b item prop l = 4 := by
  rw [cpR, if_pos h, if_pos hl]
theorem cp_bad {b : Bk} {item prop : Int} {l : List St} (h : akR b item prop = 0) (hl : l.length ≤ 40) {k : Nat} (hk : k < l.length) (hb : rgR b item.toNat l[k] (kS (l.take k)) = false) : cpR b item prop l = 8 := by
  rw [cpR, if_pos h, if_neg (by omega), if_neg]
  rintro ⟨hp, _⟩
  have := prfB_iff.1 hp k hk
  rw [hb] at this
  cases this
theorem cp_good {b : Bk} {item prop : Int} {l : List St} (h : akR b item prop = 0) (hl : l.length ≤ 40) (hp : Prf b item.toNat l) (hq : lastP l = prop) : cpR b item prop l = 0 := by
  rw [cpR, if_pos h, if_neg (by omega), if_pos ⟨prfB_iff.2 hp, hq⟩]
theorem cp_other {b : Bk} {item prop : Int} {l : List St} (h : akR b item prop = 0) (hl : l.length ≤ 40) (hq : lastP l ≠ prop) : cpR b item prop l = 8 := by
  rw [cpR, if_pos h, if_neg (by omega), if_neg fun h => hq h.2]
theorem cp_zero {b : Bk} {item prop : Int} {l : List St} (h : cpR b item prop l = 0) : akR b item prop = 0 ∧ Prf b item.toNat l ∧ lastP l = prop := by
  unfold cpR at h
  split at h
  · rename_i h0
    split at h
    · cases h
    · split at h
      · rename_i h1
        exact ⟨h0, prfB_iff.1 h1.1, h1.2⟩
      · cases h
  · rename_i h0
    exact absurd h h0
theorem kS_mem {l : List St} {s : St} (h : s ∈ l) : (kS l).testBit s.1.toNat = true := by
  have key : ∀ (l : List St) (m : Nat), ((l.foldl (fun m s => m ||| 2 ^ s.1.toNat) m).testBit s.1.toNat = true) ↔ (m.testBit s.1.toNat = true ∨ ∃ t ∈ l, t.1.toNat = s.1.toNat) := fun l => by
    induction l with
    | nil => intro m; simp
    | cons a l ih =>
      intro m
      rw [List.foldl_cons, ih, Nat.testBit_or, Bool.or_eq_true, Nat.testBit_two_pow, decide_eq_true_eq]
      simp only [List.mem_cons, exists_eq_or_imp]
      rw [or_assoc]
  exact (key l 0).2 (.inr ⟨s, h, rfl⟩)
theorem lastP_mem {l : List St} {p : Int} (h : lastP l = p) (h0 : 0 ≤ p) : ∃ s ∈ l, s.1 = p := by
  unfold lastP at h
  cases hl : l.getLast? with
  | none => rw [hl] at h; simp at h; omega
  | some s =>
    rw [hl] at h
    exact ⟨s, List.mem_of_getLast? hl, by simpa using h⟩
theorem kS_lt {b : Bk} {item : Nat} {l : List St} (h : Prf b item l) : ∀ i, i ≤ l.length → kS (l.take i) < 2 ^ b.p.toNat
  | 0, _ => by simp [kS]; exact Nat.two_pow_pos _
  | i + 1, hi => by
    rw [kS_take (by omega)]
    refine Nat.or_lt_two_pow (kS_lt h i (by omega)) (Nat.pow_lt_pow_right (by decide) ?_)
    have := rg_prop (h i (by omega))
    omega
theorem kS_lt' {b : Bk} {item : Nat} {l : List St} (h : Prf b item l) : kS l < 2 ^ b.p.toNat := by
  have := kS_lt h l.length (Nat.le_refl _)
  rwa [List.take_length] at this
theorem Prf.take_succ {b : Bk} {item i : Nat} {l : List St} (hi : i < l.length) (h : Prf b item (l.take i)) (hs : rgR b item l[i] (kS (l.take i)) = true) : Prf b item (l.take (i + 1)) := by
  rw [List.take_succ_eq_append_getElem hi]
  exact h.snoc hs
end Go.Proofs.YtgoojcjfhghmgaaDoor


set_option linter.unusedSimpArgs false
namespace Go.Proofs.YtgoojcjfhghmgaaDoor
open Go.RowKit

theorem info73 : (Tryd.prog.info? 73).map (fun i => (i.zero, i.size, i.bytes)) = some (some (.agg #[.int .i64 0, .int .i64 0, .int .i64 0]), 3, 24) := by kernel_rfl
def flatS (l : List St) : List Value := l.flatMap fun s => [.int .i64 s.1, .int .i64 s.2.1, .int .i64 s.2.2]
theorem flatS_snoc (l : List St) (s : St) : flatS (l ++ [s]) = flatS l ++ [.int .i64 s.1, .int .i64 s.2.1, .int .i64 s.2.2] := by simp [flatS]
theorem own_slice {w : World} {base e size n : Nat} {v : Value} {xs : List Value} (h : w.ownsRow base e size v n xs) : ∃ A c, v = .slice A n c := by
  rcases h.2 with ⟨e1, e2⟩ | ⟨g, cap, cur, e1, _⟩
  · exact ⟨none, 0, by rw [e1, e2]⟩
  · exact ⟨some ⟨g, 0, none⟩, cap, e1⟩
/-- Of the blocks below lo only two may have turned. -/
structure Two (X Y lo : Nat) (a w : World) : Prop where
  os : w.os = a.os
  tape : w.tape = a.tape
  output : w.output = a.output
  size : a.heap.size ≤ w.heap.size
  block : ∀ i, i < lo → i ≠ X → i ≠ Y → w.heap[i]? = a.heap[i]?
namespace Two
variable {X Y lo : Nat} {a w w' : World}
theorem refl (X Y lo : Nat) (a : World) : Two X Y lo a a := ⟨rfl, rfl, rfl, Nat.le_refl _, fun _ _ _ _ => rfl⟩
theorem of_below {B : Nat} (h : Below B a w) (hB : lo ≤ B) : Two X Y lo a w := ⟨h.os, h.tape, h.output, h.size, fun i hi _ _ => h.block i (by omega)⟩
theorem trans (h : Two X Y lo a w) (h' : Two X Y lo w w') : Two X Y lo a w' :=
  ⟨h'.os.trans h.os, h'.tape.trans h.tape, h'.output.trans h.output, Nat.le_trans h.size h'.size, fun i hi h1 h2 => (h'.block i hi h1 h2).trans (h.block i hi h1 h2)⟩
theorem below {n : Nat} (h : Two X Y lo a w) (hX : n ≤ X) (hY : n ≤ Y) (hl : n ≤ lo) : Below n a w := ⟨h.os, h.tape, h.output, h.size, fun i hi => h.block i (by omega) (by omega) (by omega)⟩
theorem blk {g : Nat} {t : TypeId} {cs : Array Value} (h : Two X Y lo a w) (hb : Blk a g t cs) (hg : g < lo) (h1 : g ≠ X) (h2 : g ≠ Y) : Blk w g t cs := (h.block g hg h1 h2).trans hb
theorem cell {g i : Nat} {v : Value} (h : Two X Y lo a w) (hb : a.cell? ⟨g, i, none⟩ = some v) (hg : g < lo) (h1 : g ≠ X) (h2 : g ≠ Y) : w.cell? ⟨g, i, none⟩ = some v := (World.cell?_of_block (h.block g hg h1 h2)).trans hb
theorem grown {row : Option Nat} (h : Two X Y lo a w) (hg : w.grownBy w' row) (hr : ∀ k, row = some k → lo ≤ k) (hw : lo ≤ w.heap.size) : Two X Y lo a w' := by
  have hb : Below lo w w' := (Below.refl lo w).grown hg hw hr
  exact h.trans (of_below hb (Nat.le_refl _))
theorem put1 (h : Two X Y lo a w) (i : Nat) (u : Value) : Two X Y lo a (w.setCell ⟨X, i, none⟩ u) := by
  refine h.trans ?_
  have o := (Only.refl X w).put i u
  refine ⟨o.os, o.tape, o.output, o.size, fun k _ h1 _ => ?_⟩
  exact Below.heap_setCell w ⟨X, i, none⟩ u k h1
theorem put2 (h : Two X Y lo a w) (i : Nat) (u : Value) : Two X Y lo a (w.setCell ⟨Y, i, none⟩ u) := by
  refine h.trans ?_
  have o := (Only.refl Y w).put i u
  refine ⟨o.os, o.tape, o.output, o.size, fun k _ _ h1 => ?_⟩
  exact Below.heap_setCell w ⟨Y, i, none⟩ u k h1
theorem drew (h : Two X Y lo a w) : Two X Y lo a w.drew := ⟨h.os, h.tape, h.output, h.size, h.block⟩
end Two
/-- The variables of Explain. -/
structure ExAt (X lo : Nat) (l : List St) (W : World) : Prop where
  row : ∃ v, Blk W X 53 #[v] ∧ W.ownsRow lo 73 3 v l.length (flatS l)
  bn : Blk W (X + 1) 3 #[.int .i64 (kS l)]
namespace ExAt
variable {X lo : Nat} {l : List St} {W : World}
theorem alloc (h : ExAt X lo l W) (o : Obj) : ExAt X lo l (W.alloc o) := by
  obtain ⟨⟨v, h3, h4⟩, h5⟩ := h
  exact ⟨⟨v, h3.alloc o, h4.alloc o⟩, h5.alloc o⟩
theorem drew (h : ExAt X lo l W) : ExAt X lo l W.drew := by
  obtain ⟨⟨v, h3, h4⟩, h5⟩ := h
  exact ⟨⟨v, h3.drew, World.ownsRow.drew h4⟩, h5.drew⟩
end ExAt
/-- The row has grown by a step, and both variables are stored anew. -/
theorem ExAt.snoc {X lo : Nat} {q : Nat} {f r : Int} {l : List St} {V w7 : World} {v v' : Value} (hX : X + 1 < lo) (hr : Blk V X 53 #[v]) (hn : Blk V (X + 1) 3 #[.int .i64 (kS l)])
    (hown : V.ownsRow lo 73 3 v l.length (flatS l)) (hg : V.grownBy w7 v.ownBlock) (hown7 : w7.ownsRow lo 73 3 v' (l.length + 1) (flatS l ++ [.int .i64 q, .int .i64 f, .int .i64 r])) :
    ExAt X lo (l ++ [((q : Int), f, r)]) ((w7.setCell ⟨X, 0, none⟩ v').setCell ⟨X + 1, 0, none⟩ (.int .i64 ((kS l ||| 2 ^ q : Nat) : Int))).drew := by
  have n3 := own_ne hown (show X < lo by omega)
  have n4 := own_ne hown (show X + 1 < lo by omega)
  have g3 := hr.grown hg n3
  have g4 := hn.grown hg n4
  refine ⟨⟨v', ?_, ?_⟩, ?_⟩
  · exact ((g3.put 0 v').far (show X ≠ X + 1 by omega) _).drew
  · have e1 := ((Only.refl X w7).put 0 v').own hown7 (own_ne hown7 (show X < lo by omega))
    have e2 := ((Only.refl (X + 1) _).put 0 (.int .i64 ((kS l ||| 2 ^ q : Nat) : Int))).own e1 (own_ne e1 (show X + 1 < lo by omega))
    rw [List.length_append, List.length_singleton, flatS_snoc]
    exact World.ownsRow.drew e2
  · rw [kS_snoc]
    exact ((g4.far (show X + 1 ≠ X by omega) v').put 0 _).drew
theorem or_pow' {m x : Nat} (hm : m < 2 ^ 60) (hx : x < 60) : bits BinOp.or IntKind.i64 (m : Int) (IntKind.i64.wrap ((2 : Int) ^ x)) = ((m ||| 2 ^ x : Nat) : Int) := by
  have e : IntKind.i64.wrap ((2 : Int) ^ x) = wrap64 ((2 : Int) ^ x) := by rw [IntKind.wrap_i64]; unfold wrap64; omega
  rw [e]; exact or_pow hm hx

set_option maxRecDepth 100000 in
set_option maxHeartbeats 4000000 in
theorem add_any (gp X lo : Nat) (prop q : Nat) (f r : Int) (l : List St) (w : World) (hX : X + 1 < lo) (hlo : lo ≤ w.heap.size) (hgp : Blk w gp 3 #[.int .i64 prop]) (hK : kS l < 2 ^ 10) (hpr : prop < 10) (hq : q < 10) (hl : l.length ≤ 40) (h : ExAt X lo l w) :
    Calls Tryd.prog 86 #[.agg #[.int .i64 q, .int .i64 f, .int .i64 r], .pointer (some ⟨X + 1, 0, none⟩), .pointer (some ⟨gp, 0, none⟩), .pointer (some ⟨X, 0, none⟩)] w
      fun e w' => e = .returned (.tuple #[]) ∧ ExAt X lo (addS prop l ((q : Int), f, r)) w' ∧ Two X (X + 1) lo w w' := by
  obtain ⟨j0, hj, hy0, hy1, hy2⟩ := info_parts info73
  have hK60 : kS l < 2 ^ 60 := Nat.lt_of_lt_of_le hK (by decide)
  have hba : Two X (X + 1) lo w (w.alloc (.cells #[.int .i64 q, .int .i64 f, .int .i64 r] 73)) := Two.of_below ((Below.refl _ w).alloc (Nat.le_refl _) _) hlo
  have hA := h.alloc (.cells #[.int .i64 q, .int .i64 f, .int .i64 r] 73)
  have Hb := Lib.hid hba
  have HA := Lib.hid hA
  have HS := Lib.hid (Blk.new w 73 #[.int .i64 q, .int .i64 f, .int .i64 r])
  obtain ⟨s0, s1, s2, _⟩ := blk3 HS.out
  obtain ⟨⟨v, b3, b4⟩, b5⟩ := h
  have a2 := hgp.alloc (.cells #[.int .i64 q, .int .i64 f, .int .i64 r] 73)
  have a3 := b3.alloc (.cells #[.int .i64 q, .int .i64 f, .int .i64 r] 73)
  have a4 := b4.alloc (.cells #[.int .i64 q, .int .i64 f, .int .i64 r] 73)
  have a5 := b5.alloc (.cells #[.int .i64 q, .int .i64 f, .int .i64 r] 73)
  have HNE := Lib.hid (show some w.heap.size ≠ v.ownBlock from fun e => by have := (b4.lt _ e.symm).2; omega)
  have hXw : X + 1 < w.heap.size := b5.lt
  obtain ⟨z0, _⟩ := blk1 a5
  obtain ⟨z1, _⟩ := blk1 a2
  obtain ⟨z2, _⟩ := blk1 a3
  have A3 := Lib.hid a3
  have A4 := Lib.hid a4
  have A5 := Lib.hid a5
  have hm1 : min prop 64 = prop := by omega
  have hm2 : min q 64 = q := by omega
  have k1 := bit_test hK60 (i := prop)
  have k2 := bit_test hK60 (i := q)
  have key := or_pow hK60 (show q < 60 by omega)
  have key2 := or_pow' hK60 (show q < 60 by omega)
  have Hx := Lib.hid (show addS prop l ((q : Int), f, r) = if (kS l).testBit prop || (kS l).testBit q then l else l ++ [((q : Int), f, r)] from rfl)
  clear hba hA a2 a3 a4 a5 b3 b4 b5 hgp
  generalize hKe : kS l = K at *
  cases hb1 : K.testBit prop with
  | true =>
    rw [hb1] at k1 Hx
    simp only [if_true] at k1
    have Hy := Lib.hid (show addS prop l ((q : Int), f, r) = l from Hx.out)
    clear Hx hb1 k2
    go_enter Tryd.func86, Tryd.ntmps86
    go_wp2_with fail
    refine bodyPost_end (results_none rfl _ _ _) rfl ?_
    exact ⟨rfl, by rw [Hy.out]; exact HA.out, Hb.out⟩
  | false =>
    rw [hb1] at k1 Hx
    simp only [Bool.false_eq_true, if_false] at k1
    cases hb2 : K.testBit q with
    | true =>
      rw [hb2] at k2 Hx
      simp only [if_true] at k2
      have Hy := Lib.hid (show addS prop l ((q : Int), f, r) = l from Hx.out)
      clear Hx hb1 hb2
      go_enter Tryd.func86, Tryd.ntmps86
      go_wp2_with fail
      refine bodyPost_end (results_none rfl _ _ _) rfl ?_
      exact ⟨rfl, by rw [Hy.out]; exact HA.out, Hb.out⟩
    | false =>
      rw [hb2] at k2 Hx
      simp only [Bool.false_eq_true, if_false] at k2
      have Hy := Lib.hid (show addS prop l ((q : Int), f, r) = l ++ [((q : Int), f, r)] from Hx.out)
      clear Hx hb1 hb2
      go_enter Tryd.func86, Tryd.ntmps86
      go_wp2_with (at_builtin; refine wpList_append_own _ rfl _ _ 53 rfl lo 73 j0 _ 3 24 Tryd.underlying53 hj hy0 hy1 hy2 rfl (by decide) _ _ _ rfl (A4.out.alloc _) ⟨w.heap.size + 1, 0, none⟩ 1 1 _ rfl rfl (cells_new' _ _ (by simp only [World.size_alloc]) [.int .i64 q, .int .i64 f, .int .i64 r] 73) (by simp [Value.oneCell']) (by simp only [maxLen]; omega) (by omega) (by simp only [World.size_alloc]; omega) ?_; intro v' w7 hown7 hg7 _; obtain ⟨A7, c7, rfl⟩ := own_slice hown7; have HR7 := (A3.out.alloc (.cells #[.int .i64 q, .int .i64 f, .int .i64 r] 73)).grown hg7 (own_ne A4.out (show X < lo by omega)); obtain ⟨q0, q1⟩ := blk1 HR7)
      have H7 := Lib.hid hown7
      have G7 := Lib.hid hg7
      have HN8 := ((A5.out.alloc (.cells #[.int .i64 q, .int .i64 f, .int .i64 r] 73)).grown hg7 (own_ne A4.out (show X + 1 < lo by omega))).far (show X + 1 ≠ X by omega) (p := ⟨X, 0, none⟩) (.slice A7 (l.length + 1) c7)
      have HS8 := ((HS.out.alloc (.cells #[.int .i64 q, .int .i64 f, .int .i64 r] 73)).grown hg7 HNE.out).far (show w.heap.size ≠ X by omega) (p := ⟨X, 0, none⟩) (.slice A7 (l.length + 1) c7)
      obtain ⟨y0, y1⟩ := blk1 HN8
      obtain ⟨x0, _⟩ := blk3 HS8
      have HD := Lib.hid (show Two X (X + 1) lo w w7 from (Hb.out.trans (Two.of_below ((Below.refl lo _).alloc (by simp only [World.size_alloc]; omega) (.cells #[.int .i64 q, .int .i64 f, .int .i64 r] 73)) (Nat.le_refl _))).grown hg7 (fun k hk => (A4.out.lt k hk).1) (by simp only [World.size_alloc]; omega))
      clear hown7 hg7 HR7 HN8 HS8 z0 z1 z2 s0 s1 s2 q0 q1 k1 k2
      go_region_with fail
      all_goals
        go_wp2_with fail
        refine bodyPost_end (results_none rfl _ _ _) rfl ?_
        refine ⟨rfl, by rw [Hy.out]; subst hKe; exact ExAt.snoc hX (A3.out.alloc _) (A5.out.alloc _) (A4.out.alloc _) G7.out H7.out, ((HD.out.put1 0 _).put2 0 _).drew⟩
end Go.Proofs.YtgoojcjfhghmgaaDoor


set_option linter.unusedSimpArgs false
namespace Go.Proofs.YtgoojcjfhghmgaaDoor
open Go.RowKit

theorem rg_out {b : Bk} {item K : Nat} {p f r : Int} (h : p < 0 ∨ b.p ≤ p) : rgR b item (p, f, r) K = false := by unfold rgR; exact if_pos h
theorem rg_own {b : Bk} {item K : Nat} {p f r : Int} (h : ¬ (p < 0 ∨ b.p ≤ p)) (hr : r = -1) : rgR b item (p, f, r) K = (decide (0 ≤ f) && decide (f < b.its.length) && (cnS b item).testBit f.toNat && ((b.its[f.toNat]?.getD ([], [])).2).contains p) := by
  unfold rgR; exact (if_neg h).trans (if_pos hr)
theorem rg_rule {b : Bk} {item K : Nat} {p f r : Int} (h : ¬ (p < 0 ∨ b.p ≤ p)) (hr : r ≠ -1) : rgR b item (p, f, r) K = (decide (f = -1) && decide (0 ≤ r) && decide (r < b.rus.length) && decide ((b.rus[r.toNat]?.getD ([], 0)).2 = p) && allB K (natL (b.rus[r.toNat]?.getD ([], 0)).1)) := by
  unfold rgR; exact (if_neg h).trans (if_neg hr)

end Go.Proofs.YtgoojcjfhghmgaaDoor


namespace Go.Proofs.YtgoojcjfhghmgaaDoor
open Go Go.RowKit
section
variable {P : Program} {md : Region.Mode} {ops : Array Oper} {Q : Exit → Act → World → Prop} {S S' : World → Prop} {E : Nat → Bool}
/-- Number i is taken first; none is exempt; its place is written out. -/
theorem anyE_tk (i d : Nat) {oi : Oper} {v : Value} {n : Nat} {listed : Array Bool} {a : Act} {w : World} (hi : ops[i]? = some oi) (hd : oi.dst = some d)
    (hs : Region.noSelect ops = true) (hf : Region.free md ops listed i = true) (hr : (Region.ready md ops listed).contains i = true)
    (hQ : ∀ c a w, Q (.panic c) (a.put oi.dst v) w → Q (.panic c) a w) (hy : YieldsIf P ops S oi v a) (hS : S w)
    (h : anyE P md ops Q S (fun _ => false) n (listed.setIfInBounds i true) { a with tmps := a.tmps.setIfInBounds d v } w) : anyE P md ops Q S (fun _ => false) (n + 1) listed a w := by
  refine anyE_first hi (Region.noSelect_spec hs) hQ (N := []) (fun j hj => by cases hj) (fun j hj => by cases hj) n listed a w (Region.free_spec hi hf) (by simpa using hr) (fun k hk => by cases hk) hy hS ?_
  rw [hd]; exact h
end
end Go.Proofs.YtgoojcjfhghmgaaDoor


namespace Go.Proofs.YtgoojcjfhghmgaaDoor
open Go.RowKit

theorem StAt.of_own {w : World} {base e c : Nat} {A : Option Addr} {l : List St} (h : w.ownsRow base e 3 (.slice A l.length c) l.length (flatS l)) : StAt w.heap.size w A l := by
  have hr := RowsAt.of_own (w := w) (base := base) (e := e) (s := 3) (rs := l.map fun s => [s.1, s.2.1, s.2.2]) (A := A) (c := c) (fun r hr => by
    obtain ⟨s, _, rfl⟩ := List.mem_map.1 hr
    rfl) (by
      rw [List.length_map]
      have : (l.map fun s => [s.1, s.2.1, s.2.2]).flatMap (fun r => r.map (Value.int .i64)) = flatS l := by
        unfold flatS
        rw [List.flatMap_map]
        rfl
      rw [this]
      exact h)
  intro k hk
  obtain ⟨b, off, e1, hb, hc⟩ := hr k (by rw [List.length_map]; exact hk)
  have h0 := hc 0 (by omega)
  have h1 := hc 1 (by omega)
  have h2 := hc 2 (by omega)
  simp only [List.getElem?_map, List.getElem?_eq_getElem hk] at h0 h1 h2
  exact ⟨b, off, e1, hb, h0, h1, h2⟩
/-- A step that names an item; one that names a rule. -/
theorem rg_step1 {b : Bk} (hv : VBk b) {m i q K : Nat} (hm : m < b.its.length) (hi : i ∈ bl (cnS b m)) (hq : q ∈ hasL b i) : rgR b m ((q : Int), (i : Int), -1) K = true := by
  have hlt := cnS_lt hv hm
  have e1 : cnS b m < 18446744073709551616 := Nat.lt_of_lt_of_le hlt (Nat.le_trans (Nat.pow_le_pow_right (by decide) (show m + 1 ≤ 60 by have := hv.ni; omega)) (by decide))
  have hil : i < b.its.length := by have := bl_lt hlt (by have := hv.ni; omega) hi; omega
  have hqp := hasL_lt hv hil q hq
  rw [rg_own (by omega) rfl, show ((i : Int)).toNat = i from rfl, (mem_bl _ e1 i).1 hi, List.getElem?_eq_getElem hil, Option.getD_some, decide_eq_true (show (0 : Int) ≤ (i : Int) by omega), decide_eq_true (show (i : Int) < (b.its.length : Int) by omega)]
  simp only [Bool.and_true, Bool.true_and, List.contains_iff_mem]
  have hin : intL (hasL b i) = b.its[i].2 := by
    have : hasL b i = natL b.its[i].2 := by simp [hasL, hil]
    rw [this]
    exact int_nat fun x hx => (isS_mem (hv.parts i hil).2.2 x hx).1
  rw [← hin]
  exact List.mem_map.2 ⟨q, hq, rfl⟩
theorem rg_step2 {b : Bk} (hv : VBk b) {m i K : Nat} (hi : i < b.rus.length) (h : allB K (natL b.rus[i].1) = true) : rgR b m (b.rus[i].2, -1, (i : Int)) K = true := by
  obtain ⟨_, h1, h2⟩ := ruOk_mem (hv.rules b.rus[i] (List.getElem_mem hi))
  rw [rg_rule (by omega) (by omega), show ((i : Int)).toNat = i from rfl, List.getElem?_eq_getElem hi, Option.getD_some, h, decide_eq_true (show (0 : Int) ≤ (i : Int) by omega), decide_eq_true (show (i : Int) < (b.rus.length : Int) by omega)]
  simp
/-- What Explain returns. -/
def ExR (b : Bk) (item prop : Int) (ok : Bool) (l : List St) : Prop :=
  if akR b item prop = 0 then (∀ x, Lbl b item.toNat x → ok = x.testBit prop.toNat) ∧ (ok = false → l = []) ∧ (ok = true → Gr b item.toNat prop.toNat l ∧ (kS l).testBit prop.toNat = true) else ok = false ∧ l = []
theorem Gr.short {b : Bk} (hv : VBk b) {item prop : Nat} {l : List St} (h : Gr b item prop l) : l.length ≤ 10 := by
  have h1 := h.len
  have h2 := cntB_le (kS l) b.p.toNat
  have := hv.p1
  omega
theorem ExR.bad {b : Bk} {item prop : Int} (h : akR b item prop ≠ 0) : ExR b item prop false [] := by
  rw [ExR, if_neg h]; exact ⟨rfl, rfl⟩
theorem ExR.good {b : Bk} {item prop : Int} (h : akR b item prop = 0) {l : List St} (hg : Gr b item.toNat prop.toNat l) (hc : Cov2 b item.toNat prop.toNat b.p.toNat 0 l) : ExR b item prop ((kS l).testBit prop.toNat) (if (kS l).testBit prop.toNat then l else []) := by
  obtain ⟨h0, hp0, hp1⟩ := ak_zero h
  obtain ⟨hv0, hi0, hi1⟩ := nm_zero h0
  rw [ExR, if_pos h]
  refine ⟨fun x hx => hc.done hg (vl_zero hv0) (by omega) hx (by omega), fun h => by rw [h]; rfl, fun h => ?_⟩
  rw [h, if_pos rfl]
  exact ⟨hg, h⟩
/-- The proof that Explain returns is accepted. -/
theorem ExR.accepted {b : Bk} {item prop : Int} {l : List St} (h : ExR b item prop true l) : cpR b item prop l = 0 := by
  unfold ExR at h
  split at h
  · rename_i h0
    obtain ⟨_, _, h3⟩ := h
    obtain ⟨hg, hb⟩ := h3 rfl
    obtain ⟨hn, hp0, hp1⟩ := ak_zero h0
    obtain ⟨hv0, hi0, hi1⟩ := nm_zero hn
    have hs := hg.short (vl_zero hv0)
    refine cp_good h0 (by omega) hg.prf ?_
    obtain ⟨s, hs1, hs2⟩ := hg.last hb
    have hm := List.mem_of_getLast? hs1
    obtain ⟨i, hi, he⟩ := List.getElem_of_mem hm
    have := rg_prop (hg.prf i hi)
    unfold lastP
    rw [hs1, Option.map_some, Option.getD_some]
    rw [he] at this
    omega
  · exact absurd h.1 (by decide)
end Go.Proofs.YtgoojcjfhghmgaaDoor


namespace Go.Proofs.YtgoojcjfhghmgaaDoor
open Go.RowKit

/-- A set of properties that follow within it. -/
def Gd (b : Bk) (m s : Nat) : Prop := Cl b.rus (bsS b m &&& s) (fun q => s.testBit q) s
theorem gd_any {b : Bk} {m s x : Nat} (h : Cl b.rus (bsS b m &&& s) (fun q => s.testBit q) x) : x = s ↔ Gd b m s := by
  constructor
  · rintro rfl; exact h
  · intro hg; exact h.unique hg
/-- The least number of elements, over the sets below k; 0: none. -/
def stepB (g : Nat → Bool) (prop p c s : Nat) : Nat := if s.testBit prop && (c == 0 || decide (cntB s p < c)) && g s then cntB s p else c
def bestN (g : Nat → Bool) (prop p : Nat) : Nat → Nat
  | 0 => 0
  | k + 1 => stepB g prop p (bestN g prop p k) k
theorem cntB_pos {s prop : Nat} (h : s.testBit prop = true) : ∀ n, prop < n → 0 < cntB s n
  | n + 1, hn => by
    unfold cntB
    by_cases e : prop = n
    · subst e; rw [h]; simp
    · have := cntB_pos h n (by omega); omega
theorem best_le {g : Nat → Bool} {prop p : Nat} (hp : prop < p) : ∀ k s, s < k → s.testBit prop = true → g s = true → 0 < bestN g prop p k ∧ bestN g prop p k ≤ cntB s p
  | k + 1, s, hs, hb, hg => by
    show 0 < stepB g prop p (bestN g prop p k) k ∧ stepB g prop p (bestN g prop p k) k ≤ cntB s p
    unfold stepB
    by_cases e : s = k
    · subst e
      have h0 := cntB_pos hb p hp
      rw [hb, hg, Bool.true_and, Bool.and_true]
      split
      · exact ⟨h0, Nat.le_refl _⟩
      · rename_i h
        rw [Bool.or_eq_true, not_or, beq_iff_eq, decide_eq_true_eq] at h
        omega
    · obtain ⟨h1, h2⟩ := best_le hp k s (by omega) hb hg
      split
      · rename_i h
        simp only [Bool.and_eq_true, Bool.or_eq_true, beq_iff_eq, decide_eq_true_eq] at h
        exact ⟨cntB_pos h.1.1 p hp, by omega⟩
      · exact ⟨h1, h2⟩
theorem best_at {g : Nat → Bool} {prop p : Nat} : ∀ k, bestN g prop p k ≠ 0 → ∃ s, s < k ∧ s.testBit prop = true ∧ g s = true ∧ bestN g prop p k = cntB s p
  | 0, h => absurd rfl h
  | k + 1, h => by
    change stepB g prop p (bestN g prop p k) k ≠ 0 at h
    show ∃ s, s < k + 1 ∧ s.testBit prop = true ∧ g s = true ∧ stepB g prop p (bestN g prop p k) k = cntB s p
    unfold stepB at h ⊢
    split at h
    · rename_i hc
      rw [if_pos hc]
      simp only [Bool.and_eq_true] at hc
      exact ⟨k, by omega, hc.1.1, hc.2, rfl⟩
    · rename_i hc
      rw [if_neg hc]
      obtain ⟨s, h1, h2, h3, h4⟩ := best_at k h
      exact ⟨s, by omega, h2, h3, h4⟩
theorem best_small {g : Nat → Bool} {prop p : Nat} : ∀ k, bestN g prop p k ≤ p
  | 0 => Nat.zero_le _
  | k + 1 => by
    show stepB g prop p (bestN g prop p k) k ≤ p
    unfold stepB
    split
    · exact cntB_le _ _
    · exact best_small k
/-- There is a closure. -/
theorem cl_exists {l : List Ru} {m p : Nat} (hm : m < 2 ^ p) (hr : ∀ r ∈ l, r.2.toNat < p) : ∃ x, Cl l m allW x ∧ x < 2 ^ p := by
  have key : ∃ f : Nat → Bool, ∀ q, f q = true ↔ ∀ z, Sub m z → Shut l allW z → z.testBit q = true := ⟨fun q => @decide _ (Classical.propDecidable (∀ z, Sub m z → Shut l allW z → z.testBit q = true)), fun q => by simp⟩
  obtain ⟨f, hf⟩ := key
  have hbit : ∀ q, (sumTo f p).testBit q = true ↔ q < p ∧ f q = true := fun q => by rw [sumTo_bit, Bool.and_eq_true, decide_eq_true_eq]
  refine ⟨sumTo f p, ⟨⟨fun q hq => ?_, fun z hz hs q hq => ?_⟩, fun r hr' ha hw => ?_⟩, sumTo_lt f p⟩
  · rw [hbit, hf]
    refine ⟨?_, fun z hz _ => hz q hq⟩
    by_cases h : q < p
    · exact h
    · rw [Nat.testBit_lt_two_pow (Nat.lt_of_lt_of_le hm (Nat.pow_le_pow_right (by decide) (by omega)))] at hq
      cases hq
  · exact (hf q).1 ((hbit q).1 hq).2 z hz hs
  · rw [hbit, hf]
    refine ⟨hr r hr', fun z hz hs => hs r hr' (allB_sub (fun q hq => (hf q).1 ((hbit q).1 hq).2 z hz hs) ha) hw⟩
theorem lbl_exists {b : Bk} (hv : VBk b) {m : Nat} (hm : m < b.its.length) : ∃ x, Lbl b m x :=
  cl_exists (bsS_lt hv hm) fun r hr => by
    obtain ⟨_, h1, h2⟩ := ruOk_mem (hv.rules r hr)
    omega
/-- A set that follows within it lies in the label. -/
theorem gd_label {b : Bk} {m s x : Nat} (h : Gd b m s) (hx : Lbl b m x) : Sub s x :=
  h.1.2 x (fun q hq => hx.1.1.1 q (by rw [Nat.testBit_and, Bool.and_eq_true] at hq; exact hq.1)) fun r hr ha _ => hx.1.2 r hr ha rfl
end Go.Proofs.YtgoojcjfhghmgaaDoor


namespace Go.Proofs.YtgoojcjfhghmgaaDoor
open Go.RowKit

set_option maxRecDepth 100000 in
set_option maxHeartbeats 4000000 in
theorem ones64 : ∃ F : Nat → Int, (∀ (x : Nat) (w : World), x < 1024 → Calls Tryd.prog 115 #[.int .u64 (x : Int)] w fun e w' => e = .returned (.int .i64 (F x)) ∧ w' = w) ∧ ∀ x, x < 1024 → F x = cntB x 10 := by
  refine ⟨?F, ?a, ?b⟩
  case a =>
    intro x w hx
    go_enter Tryd.func115, Tryd.ntmps115
    go_wp2_with fail
    go_ret
    refine ⟨?_, rfl⟩
    show Ending.returned (Value.int .i64 _) = _
    rfl
  case b => decide +kernel

set_option maxRecDepth 100000 in
set_option maxHeartbeats 4000000 in
theorem ones_any (x : Nat) (w : World) (hx : x < 1024) : Calls Tryd.prog 99 #[.int .u64 (x : Int)] w fun e w' => e = .returned (.int .i64 (cntB x 10 : Nat)) ∧ w' = w := by
  obtain ⟨F, h1, h2⟩ := ones64
  have c := Lib.hid (h1 x w hx)
  rw [h2 x hx] at c
  clear h1 h2
  have hu : IntKind.u64.wrap (x : Int) = (x : Int) := by rw [IntKind.wrap_u64]; omega
  go_enter Tryd.func99, Tryd.ntmps99
  go_wp2_with (go_at_call 115; refine c.out.mono ?_; rintro e w1 ⟨rfl, rfl⟩)
  go_ret
  exact ⟨rfl, rfl⟩
end Go.Proofs.YtgoojcjfhghmgaaDoor


set_option linter.unusedSimpArgs false
namespace Go.Proofs.YtgoojcjfhghmgaaDoor
open Go.RowKit

def shR (g : Nat → Bool) (b : Bk) (item prop : Int) : Nat := if akR b item prop = 0 then bestN g prop.toNat b.p.toNat (2 ^ b.p.toNat) else 0
theorem cntB_ext {s p : Nat} (hs : s < 2 ^ p) : ∀ n, p ≤ n → cntB s n = cntB s p := fun n => by
  induction n with
  | zero => intro h; obtain rfl : p = 0 := by omega
            rfl
  | succ n ih =>
    intro h
    by_cases e : p = n + 1
    · rw [e]
    · have := ih (by omega)
      show cntB s n + (if s.testBit n then 1 else 0) = _
      rw [Nat.testBit_lt_two_pow (Nat.lt_of_lt_of_le hs (Nat.pow_le_pow_right (by decide) (by omega)))]
      simpa using this

set_option maxRecDepth 100000 in
set_option maxHeartbeats 1000000 in
theorem Shortest_any (AI AR : Option Addr) (cI cR B : Nat) (b : Bk) (item prop : Int) (g : Nat → Bool) (w : World) (hB : B ≤ w.heap.size) (h : ItsAt B w AI b.its) (h' : RusAt B w AR b.rus) (hs : Short b) (hT : Tab w) (hg : ∀ s, g s = true ↔ Gd b item.toNat s) :
    Calls Tryd.prog 53 #[.agg #[.int .i64 b.p, .slice AI b.its.length cI, .slice AR b.rus.length cR], .int .i64 item, .int .i64 prop] w fun e w' => e = .returned (.tuple #[.int .i64 (shR g b item prop : Nat), .bool (decide (0 < shR g b item prop)), .int .i64 (akR b item prop)]) ∧ Below w.heap.size w w' := by
  obtain ⟨W0, hW0⟩ : ∃ W0, W0 = w.alloc (.cells #[.int .i64 b.p, .slice AI b.its.length cI, .slice AR b.rus.length cR] 25) := ⟨_, rfl⟩
  have hw0 : Below w.heap.size w W0 := by rw [hW0]; exact balloc (Below.refl _ _) _
  have hb0 : Blk W0 w.heap.size 25 #[.int .i64 b.p, .slice AI b.its.length cI, .slice AR b.rus.length cR] := by rw [hW0]; exact Blk.new w 25 _
  have hlt : w.heap.size < W0.heap.size := hb0.lt
  have hI := (h.below (Below.refl _ _) hB).below hw0 (Nat.le_of_lt hlt)
  have hR := (h'.below (Below.refl _ _) hB).below hw0 (Nat.le_of_lt hlt)
  have hT0 := hT.below hw0 hT.2
  have ca := Lib.hid (asked_any AI AR cI cR W0.heap.size b item prop W0 (Nat.le_refl _) hI hR hs)
  have Hw := Lib.hid hw0
  have HX := Lib.hid (fun W (hW : Below W0.heap.size W0 W) => blk3 (hb0.below hW hlt))
  have tok := Lib.hid (Nat.le_refl 0)
  by_cases h0 : akR b item prop = 0
  · obtain ⟨hn0, hp0, hp1⟩ := ak_zero h0
    obtain ⟨hv0, hi0, hi1⟩ := nm_zero hn0
    have hv := vl_zero hv0
    have hsh : shR g b item prop = bestN g prop.toNat b.p.toNat (2 ^ b.p.toNat) := if_pos h0
    obtain ⟨m, rfl⟩ := Int.eq_ofNat_of_zero_le hi0
    obtain ⟨pn, rfl⟩ := Int.eq_ofNat_of_zero_le hp0
    obtain ⟨n, hn⟩ := Int.eq_ofNat_of_zero_le hv.p0
    have hn10 : n ≤ 10 := by have := hv.p1; omega
    have hpn : pn < n := by omega
    have hm : m < b.its.length := by omega
    have hpn0 : b.p.toNat = n := by omega
    rw [Int.toNat_natCast] at hg hsh
    rw [hpn0] at hsh
    have c1 := fun W (hW : Below W0.heap.size W0 W) => base_any AI AR cI cR W0.heap.size b m W hW.size (hI.below hW (Nat.le_refl _)) hs hv hm (hT0.below hW hT0.2)
    rw [hn] at c1
    have cb := Lib.hid c1
    have hbl := bsS_lt hv hm
    rw [hpn0] at hbl
    have hN10 : 2 ^ n ≤ 1024 := Nat.pow_le_pow_right (by decide) hn10
    have cc := Lib.hid (fun (k : Nat) (hk : k < 2 ^ n) W (hW : Below W0.heap.size W0 W) => show Calls Tryd.prog 75 #[.slice AR b.rus.length cR, .int .i64 ((bsS b m &&& k : Nat) : Int), .int .i64 (k : Int)] W fun e w' => ∃ x : Nat, e = .returned (.int .i64 x) ∧ (x = k ↔ g k = true) ∧ Below W.heap.size W w' from
      (closure_any AR cR W0.heap.size b.rus n (bsS b m &&& k) (k : Int) (fun q => k.testBit q) W hW.size (hR.below hW (Nat.le_refl _)) hs.2.1 hs.2.2.2 (fun x hx => by have := hv.rules x hx; rwa [hn] at this) hn10 (Nat.lt_of_le_of_lt Nat.and_le_left hbl) (fun q _ => bit_test (Nat.lt_of_lt_of_le hk (Nat.le_trans hN10 (by decide))))).mono (by
        rintro e w' ⟨x, he, hc, _, hb⟩
        exact ⟨x, he, (gd_any hc).trans (hg k).symm, hb⟩))
    have Hcnt := Lib.hid (fun k (hk : k < 2 ^ n) => cntB_ext hk 10 hn10)
    have hand := fun k (hk : k < 2 ^ n) => and_nat (bsS b m) k (by omega) (by omega)
    have hkt := fun k (hk : k < 2 ^ n) => bit_test (m := k) (i := pn) (Nat.lt_of_lt_of_le hk (Nat.le_trans hN10 (by decide)))
    have hp : wrap64 ((2 : Int) ^ n) = ((2 ^ n : Nat) : Int) := by rw [pow_wrap (show n < 63 by omega)]; simp
    have Hst := Lib.hid (fun k => show bestN g pn n (k + 1) = stepB g pn n (bestN g pn n k) k from rfl)
    have Hle := Lib.hid (fun k => best_small (g := g) (prop := pn) (p := n) k)
    rw [h0] at ca ⊢
    rw [hsh]
    rw [hn] at ca HX hW0 ⊢
    generalize bsS b m = bs at *
    generalize hNe : 2 ^ n = N at *
    have hNp : 0 < N := by rw [← hNe]; exact Nat.two_pow_pos n
    have p0 : (0 : Int) ≤ (pn : Int) := by omega
    have p1 : (pn : Int) < (n : Int) := by omega
    have Hand := Lib.hid hand
    have Hkt := Lib.hid hkt
    have HNe := Lib.hid hNe
    clear h h' hI hR hs hb0 hw0 h0 hv hi0 hi1 hn0 hv0 hp0 hp1 hbl hT hT0 hg hsh hpn0 hn hand hkt hNe c1
    go_enter Tryd.func53, Tryd.ntmps53
    go_wp2_with (first
      | (have tk := tok; clear tok; go_at_call 85; rw [← hW0]; clear hW0; refine ca.out.mono ?_; rintro e w1 ⟨rfl, hd1⟩; have tok2 := tk; obtain ⟨z0, z1, z2, _⟩ := HX.out _ hd1)
      | (have tk := tok2; clear tok2; go_at_call 98; refine (cb.out _ hd1).mono ?_; rintro e w2 ⟨rfl, hd⟩; have hb2 := hd1.trans (hd.mono hd1.size); clear hd z0 z1 z2; obtain ⟨z0, z1, z2, _⟩ := HX.out _ hb2; have tok3 := tk))
    rw [hp]
    go_loopw [11, 27] (fun s11 s27 wr => ∃ (k c : Nat) (z : Int), k ≤ N ∧ s27 = .int .i64 k ∧ s11 = .int .i64 z ∧ Aside (c = bestN g pn n k) ∧ c ≤ 10 ∧ ((z < 0 ∧ c = 0) ∨ (z = c ∧ 0 < c)) ∧ Below W0.heap.size W0 wr) (fun _ s _ => N - (intOf s).toNat)
    case atStart => exact ⟨0, 0, -1, Nat.zero_le _, rfl, rfl, rfl, Nat.zero_le _, .inl ⟨by decide, rfl⟩, hb2⟩
    case round =>
      clear hb2 z0 z1 z2
      obtain ⟨k, c, z, hk, rfl, rfl, HC0, hc10, hz, hb⟩ := hrel
      have HC := Lib.hid HC0.out
      clear HC0
      by_cases hlt : k < N
      · obtain ⟨z0, z1, z2, _⟩ := HX.out _ hb
        have Hb := Lib.hid hb
        have hkt := Hkt.out k hlt
        have hand := Hand.out k hlt
        have c99 := ones_any k wr (by omega)
        rw [Hcnt.out k hlt] at c99
        have C99 := Lib.hid c99
        have hcn : cntB k n ≤ 10 := Nat.le_trans (cntB_le k n) hn10
        have Hs := Lib.hid (show bestN g pn n (k + 1) = if k.testBit pn && (c == 0 || decide (cntB k n < c)) && g k then cntB k n else c by rw [Hst.out k, ← HC.out]; rfl)
        have hku : IntKind.u64.wrap (k : Int) = (k : Int) := by rw [IntKind.wrap_u64]; omega
        have cck := Lib.hid (cc.out k hlt)
        have hlN : (k : Int) < (N : Int) := by omega
        have hq0 : k.testBit pn = true → 0 < cntB k n := fun h => cntB_pos h n hpn
        generalize cntB k n = q at C99 hcn Hs hq0
        clear c99 HC
        cases hbit : k.testBit pn with
        | false =>
          rw [hbit] at hkt Hs
          simp only [Bool.false_eq_true, if_false] at hkt
          have Hf := Lib.hid (show c = bestN g pn n (k + 1) by rw [Hs.out]; simp)
          have Hz := Lib.hid hz
          clear hbit cck hz hand hq0
          go_wp2_with (go_at_call 99; refine C99.out.mono ?_; rintro e w3 ⟨rfl, rfl⟩)
          go_roundw
          case rel => exact ⟨k + 1, c, z, by omega, by go_num, rfl, Hf.out, hc10, Hz.out, Hb.out⟩
          case measure => simp [intOf]; omega
        | true =>
          rw [hbit] at hkt Hs hq0
          simp only [if_true] at hkt
          have hq1 := hq0 rfl
          clear hq0
          have hz3 : (z < 0 ∧ (c == 0 || decide (q < c)) = true) ∨ (0 ≤ z ∧ (q : Int) < z ∧ (c == 0 || decide (q < c)) = true) ∨ (0 ≤ z ∧ z ≤ q ∧ (c == 0 || decide (q < c)) = false) := by
            simp only [Bool.or_eq_true, Bool.or_eq_false_iff, beq_iff_eq, beq_eq_false_iff_ne, decide_eq_true_eq, decide_eq_false_iff_not]; omega
          have Hz := Lib.hid hz
          clear hbit hz
          rcases hz3 with ⟨hz0, hcc⟩ | ⟨hz0, hqz, hcc⟩ | ⟨hz0, hqz, hcc⟩
          · have hzd : decide (z < 0) = true := by simpa using hz0
            have Hcc := Lib.hid hcc
            clear hcc
            cases hgk : g k with
            | false =>
              have Hf := Lib.hid (show c = bestN g pn n (k + 1) by rw [Hs.out, hgk]; simp)
              have Hx := Lib.hid (fun (x : Nat) (h : x = k ↔ g k = true) => show ((x : Int) == (k : Int)) = false by
                rw [hgk] at h
                have : x ≠ k := fun e => absurd (h.1 e) (by decide)
                simp; omega)
              clear hgk
              go_wp2_with (first
                | (have tk := tok3; clear tok3; go_at_call 99; refine C99.out.mono ?_; rintro e w3 ⟨rfl, rfl⟩; have tok4 := tk)
                | (have tk := tok4; clear tok4; go_at_call 75; refine (cck.out _ Hb.out).mono ?_; rintro e w4 ⟨x, rfl, hx, hd⟩; have hb4 := Hb.out.trans (hd.mono Hb.out.size); have hxk := Hx.out x hx; clear hx hd))
              go_roundw
              case rel => exact ⟨k + 1, c, z, by omega, by go_num, rfl, Hf.out, hc10, Hz.out, hb4⟩
              case measure => simp [intOf]; omega
            | true =>
              have Hf := Lib.hid (show q = bestN g pn n (k + 1) by rw [Hs.out, hgk, Hcc.out]; simp)
              have Hx := Lib.hid (fun (x : Nat) (h : x = k ↔ g k = true) => show ((x : Int) == (k : Int)) = true by
                rw [hgk] at h
                have : x = k := h.2 rfl
                simp; omega)
              clear hgk
              go_wp2_with (first
                | (have tk := tok3; clear tok3; go_at_call 99; refine C99.out.mono ?_; rintro e w3 ⟨rfl, rfl⟩; have tok4 := tk)
                | (have tk := tok4; clear tok4; go_at_call 75; refine (cck.out _ Hb.out).mono ?_; rintro e w4 ⟨x, rfl, hx, hd⟩; have hb4 := Hb.out.trans (hd.mono Hb.out.size); have hxk := Hx.out x hx; clear hx hd))
              go_roundw
              case rel => exact ⟨k + 1, q, q, by omega, by go_num, rfl, Hf.out, hcn, .inr ⟨rfl, hq1⟩, hb4⟩
              case measure => simp [intOf]; omega
          · have hzd : decide (z < 0) = false := by simpa using hz0
            have hqd : decide ((q : Int) < z) = true := by simpa using hqz
            have Hcc := Lib.hid hcc
            clear hcc
            cases hgk : g k with
            | false =>
              have Hf := Lib.hid (show c = bestN g pn n (k + 1) by rw [Hs.out, hgk]; simp)
              have Hx := Lib.hid (fun (x : Nat) (h : x = k ↔ g k = true) => show ((x : Int) == (k : Int)) = false by
                rw [hgk] at h
                have : x ≠ k := fun e => absurd (h.1 e) (by decide)
                simp; omega)
              clear hgk
              go_wp2_with (first
                | (have tk := tok3; clear tok3; go_at_call 99; refine C99.out.mono ?_; rintro e w3 ⟨rfl, rfl⟩; have tok4 := tk)
                | (have tk := tok4; clear tok4; go_at_call 75; refine (cck.out _ Hb.out).mono ?_; rintro e w4 ⟨x, rfl, hx, hd⟩; have hb4 := Hb.out.trans (hd.mono Hb.out.size); have hxk := Hx.out x hx; clear hx hd))
              go_roundw
              case rel => exact ⟨k + 1, c, z, by omega, by go_num, rfl, Hf.out, hc10, Hz.out, hb4⟩
              case measure => simp [intOf]; omega
            | true =>
              have Hf := Lib.hid (show q = bestN g pn n (k + 1) by rw [Hs.out, hgk, Hcc.out]; simp)
              have Hx := Lib.hid (fun (x : Nat) (h : x = k ↔ g k = true) => show ((x : Int) == (k : Int)) = true by
                rw [hgk] at h
                have : x = k := h.2 rfl
                simp; omega)
              clear hgk
              go_wp2_with (first
                | (have tk := tok3; clear tok3; go_at_call 99; refine C99.out.mono ?_; rintro e w3 ⟨rfl, rfl⟩; have tok4 := tk)
                | (have tk := tok4; clear tok4; go_at_call 75; refine (cck.out _ Hb.out).mono ?_; rintro e w4 ⟨x, rfl, hx, hd⟩; have hb4 := Hb.out.trans (hd.mono Hb.out.size); have hxk := Hx.out x hx; clear hx hd))
              go_roundw
              case rel => exact ⟨k + 1, q, q, by omega, by go_num, rfl, Hf.out, hcn, .inr ⟨rfl, hq1⟩, hb4⟩
              case measure => simp [intOf]; omega
          · have hzd : decide (z < 0) = false := by simpa using hz0
            have hqd : decide ((q : Int) < z) = false := by simpa using hqz
            have Hf := Lib.hid (show c = bestN g pn n (k + 1) by rw [Hs.out, hcc]; simp)
            clear hcc cck hand
            go_wp2_with (go_at_call 99; refine C99.out.mono ?_; rintro e w3 ⟨rfl, rfl⟩)
            go_roundw
            case rel => exact ⟨k + 1, c, z, by omega, by go_num, rfl, Hf.out, hc10, Hz.out, Hb.out⟩
            case measure => simp [intOf]; omega
      · obtain rfl : k = N := by omega
        rcases hz with ⟨hz0, rfl⟩ | ⟨rfl, hc0⟩
        · have hzd : decide (z < 0) = true := by simpa using hz0
          go_wp2_with fail
          refine bodyPost_ret (results_tmp3 rfl _ _ _) rfl ?_
          exact ⟨by rw [← HC.out]; rfl, Hw.out.trans (hb.mono Hw.out.size)⟩
        · have hcd := Lib.hid (show decide (0 < c) = true by simpa using hc0)
          have hc1 : decide ((c : Int) < 0) = false := by simp
          go_wp2_with fail
          refine bodyPost_ret (results_tmp3 rfl _ _ _) rfl ?_
          exact ⟨by rw [← HC.out, hcd.out]; rfl, Hw.out.trans (hb.mono Hw.out.size)⟩
  · have hsh : shR g b item prop = 0 := if_neg h0
    have h0d : (akR b item prop == 0) = false := by simpa using h0
    have h0e : (akR b item prop != 0) = true := by simpa using h0
    rw [hsh]
    generalize akR b item prop = e0 at *
    clear h h' hI hR hs hb0 hw0 hB h0 hsh hg hT hT0
    go_enter Tryd.func53, Tryd.ntmps53
    go_wp2_with (go_at_call 85; rw [← hW0]; clear hW0; refine ca.out.mono ?_; rintro e w1 ⟨rfl, hd1⟩)
    refine bodyPost_ret (results_tmp3 rfl _ _ _) rfl ?_
    exact ⟨rfl, Hw.out.trans (hd1.mono Hw.out.size)⟩
end Go.Proofs.YtgoojcjfhghmgaaDoor


set_option linter.unusedSimpArgs false
namespace Go.Proofs.YtgoojcjfhghmgaaDoor
open Go.RowKit

theorem andNot_bits (m r : Nat) (hm : m < 9223372036854775808) (hr : r < 9223372036854775808) : bits .andNot .i64 (m : Int) (r : Int) = ((m &&& (2 ^ 64 - (r + 1)) : Nat) : Int) := by
  have hx : m &&& (2 ^ 64 - (r + 1)) ≤ m := Nat.and_le_left
  show IntKind.i64.wrap ((BitVec.ofInt 64 (m : Int) &&& ~~~BitVec.ofInt 64 (r : Int)).toNat : Int) = _
  rw [BitVec.toNat_and, BitVec.toNat_not, ofInt_nat m hm, ofInt_nat r hr, IntKind.wrap_i64, Nat.sub_sub, Nat.add_comm 1 r]
  generalize m &&& (2 ^ 64 - (r + 1)) = z at hx
  omega
theorem andNot_all {l : List Nat} {r : Nat} (hm : mk l < 2 ^ 10) (hr : r < 2 ^ 10) : (bits BinOp.andNot IntKind.i64 (mk l : Int) (r : Int) == 0) = allB r l := by
  rw [andNot_bits _ r (Nat.lt_of_lt_of_le hm (by decide)) (Nat.lt_of_lt_of_le hr (by decide)), Bool.eq_iff_iff, beq_iff_eq]
  have hb : ∀ i, (mk l &&& (2 ^ 64 - (r + 1))).testBit i = ((mk l).testBit i && !r.testBit i) := by
    intro i
    rw [Nat.testBit_and, Nat.testBit_two_pow_sub_succ (Nat.lt_of_lt_of_le hr (by decide))]
    by_cases hi : i < 64
    · simp [hi]
    · have : (mk l).testBit i = false := Nat.testBit_lt_two_pow (Nat.lt_of_lt_of_le hm (Nat.pow_le_pow_right (by decide) (by omega)))
      simp [this]
  have hml : ∀ q, (mk l).testBit q = true ↔ q ∈ l := fun q => by rw [mk_bit, List.contains_iff_mem]
  rw [allB, List.all_eq_true]
  constructor
  · intro h q hq
    have h0 := hb q
    rw [show mk l &&& (2 ^ 64 - (r + 1)) = 0 by omega, (hml q).2 hq] at h0
    simpa using h0
  · intro h
    have hz : mk l &&& (2 ^ 64 - (r + 1)) = 0 := by
      apply Nat.eq_of_testBit_eq
      intro q
      rw [hb q]
      cases hq : (mk l).testBit q with
      | false => simp
      | true => rw [h q ((hml q).1 hq)]; simp
    rw [hz]; rfl
theorem wrap_pred {n j : Nat} (h : n = j + 1) (hn : n ≤ 40) : wrap64 ((n : Int) - 1) = (j : Int) := by
  have e : (n : Int) - 1 = (j : Int) := by omega
  rw [e]
  have : (j : Int) < 40 := by omega
  unfold wrap64
  omega
theorem rg_far {b : Bk} (hv : VBk b) {item K : Nat} {p f : Int} (hi : item < b.its.length) (h : ¬ (p < 0 ∨ b.p ≤ p)) (hf : (item : Int) < f) : rgR b item (p, f, -1) K = false := by
  rw [rg_own h rfl]
  have : (cnS b item).testBit f.toNat = false := Nat.testBit_lt_two_pow (Nat.lt_of_lt_of_le (cnS_lt hv hi) (Nat.pow_le_pow_right (by decide) (by omega)))
  rw [this]
  simp

set_option maxRecDepth 100000 in
set_option maxHeartbeats 8000000 in
theorem CheckProof_any (AI AR A : Option Addr) (cI cR c B : Nat) (b : Bk) (item prop : Int) (l : List St) (w : World) (hB : B ≤ w.heap.size) (h : ItsAt B w AI b.its) (h' : RusAt B w AR b.rus) (hl : StAt B w A l) (hs : Short b) :
    Calls Tryd.prog 46 #[.agg #[.int .i64 b.p, .slice AI b.its.length cI, .slice AR b.rus.length cR], .int .i64 item, .int .i64 prop, .slice A l.length c] w fun e w' => e = .returned (.int .i64 (cpR b item prop l)) ∧ Below w.heap.size w w' := by
  obtain ⟨W0, hW0⟩ : ∃ W0, W0 = w.alloc (.cells #[.int .i64 b.p, .slice AI b.its.length cI, .slice AR b.rus.length cR] 25) := ⟨_, rfl⟩
  have hw0 : Below w.heap.size w W0 := by rw [hW0]; exact balloc (Below.refl _ _) _
  have hb0 : Blk W0 w.heap.size 25 #[.int .i64 b.p, .slice AI b.its.length cI, .slice AR b.rus.length cR] := by rw [hW0]; exact Blk.new w 25 _
  have hlt : w.heap.size < W0.heap.size := hb0.lt
  have hI := (h.below (Below.refl _ _) hB).below hw0 (Nat.le_of_lt hlt)
  have hR := (h'.below (Below.refl _ _) hB).below hw0 (Nat.le_of_lt hlt)
  have hL := Lib.hid ((hl.below (Below.refl _ _) hB).below hw0 (Nat.le_of_lt hlt))
  have ca := Lib.hid (asked_any AI AR cI cR W0.heap.size b item prop W0 (Nat.le_refl _) hI hR hs)
  have Hw := Lib.hid hw0
  have HX := Lib.hid (fun W (hW : Below W0.heap.size W0 W) => blk3 (hb0.below hW hlt))
  have tok := Lib.hid (Nat.le_refl 0)
  by_cases h0 : akR b item prop = 0
  · by_cases h40 : 40 < l.length
    · have Hr := Lib.hid (cp_long h0 h40)
      rw [Hr.out]
      rw [h0] at ca
      have hd : decide ((40 : Int) < (l.length : Int)) = true := by simp; omega
      clear h h' hI hR hl hs hb0 hw0 h0 hL
      go_enter Tryd.func46, Tryd.ntmps46
      go_wp2_with (go_at_call 85; rw [← hW0]; clear hW0; refine ca.out.mono ?_; rintro e w1 ⟨rfl, hd1⟩)
      go_ret
      exact ⟨rfl, Hw.out.trans (hd1.mono Hw.out.size)⟩
    · have hv := vl_zero (nm_zero (ak_zero h0).1).1
      obtain ⟨hn0, hp0, hp1⟩ := ak_zero h0
      obtain ⟨_, hi0, hi1⟩ := nm_zero hn0
      obtain ⟨m, rfl⟩ := Int.eq_ofNat_of_zero_le hi0
      obtain ⟨n, hn⟩ := Int.eq_ofNat_of_zero_le hv.p0
      have hn10 : n ≤ 10 := by have := hv.p1; omega
      have hl40 : l.length ≤ 40 := by omega
      have hm : ((m : Int)).toNat = m := by omega
      have Hbad := Lib.hid (fun k (hk : k < l.length) hb => cp_bad (k := k) h0 hl40 hk hb)
      have Hgood := Lib.hid (fun hp hq => cp_good (l := l) h0 hl40 hp hq)
      have Hother := Lib.hid (fun hq => cp_other (l := l) h0 hl40 hq)
      have c68 := Lib.hid (fun W (hW : Below W0.heap.size W0 W) => contained_any AI AR cI cR W0.heap.size b m W hW.size (hI.below hW (Nat.le_refl _)) hv (by omega))
      have Hout := Lib.hid (fun p f r K h => rg_out (b := b) (item := m) (K := K) (p := p) (f := f) (r := r) h)
      have Hown := Lib.hid (fun p f K h => rg_own (b := b) (item := m) (K := K) (p := p) (f := f) (r := -1) h rfl)
      have Hrul := Lib.hid (fun p f r K h hr => rg_rule (b := b) (item := m) (K := K) (p := p) (f := f) (r := r) h hr)
      have Hfar := Lib.hid (fun p f K h hf => rg_far (K := K) (p := p) (f := f) hv (show m < b.its.length by omega) h hf)
      have HV := Lib.hid hv
      have HS := Lib.hid hs
      have HI := Lib.hid hI
      have HR := Lib.hid hR
      have hml : m < b.its.length := by omega
      have hd : decide ((40 : Int) < (l.length : Int)) = false := by simp; omega
      rw [h0] at ca
      rw [hm] at Hbad Hgood
      generalize cpR b (m : Int) prop l = out at Hbad Hgood Hother ⊢
      rw [hn] at HX c68 ca hW0 Hout Hown Hrul Hfar ⊢
      have HN := Lib.hid hn
      clear h h' hI hR hl hs hb0 hw0 h0 hv hn hi0 hi1 hn0 hm
      go_enter Tryd.func46, Tryd.ntmps46
      go_wp2_with (first
        | (have tk := tok; clear tok; go_at_call 85; rw [← hW0]; clear hW0; refine ca.out.mono ?_; rintro e w1 ⟨rfl, hd1⟩; obtain ⟨z0, z1, z2, _⟩ := HX.out _ hd1; have tok2 := tk)
        | (have tk := tok2; clear tok2; go_at_call 68; refine (c68.out _ hd1).mono ?_; rintro e w2 ⟨rfl, hC, hd⟩; have hd2 := hd1.trans (hd.mono hd1.size); clear hd z0 z1 z2))
      generalize hCe : cnS b m = C at *
      go_loopw [11, 30] (fun s11 s30 wr => ∃ k : Nat, k ≤ l.length ∧ s30 = .int .i64 k ∧ s11 = .int .i64 (kS (l.take k)) ∧ Aside (Prf b m (l.take k)) ∧ Below W0.heap.size W0 wr) (fun _ s30 _ => l.length - (intOf s30).toNat)
      case atStart => exact ⟨0, Nat.zero_le _, rfl, rfl, Prf.nil _ _, hd2⟩
      case round =>
        obtain ⟨k, hk, rfl, rfl, hpf, hbk⟩ := hrel
        have HP := Lib.hid hpf.out
        clear hpf
        by_cases hlt2 : k < l.length
        · obtain ⟨bb, off, rfl, hbB, q0, q1, q2⟩ := hL.out k hlt2
          have d0 := (hbk.cell (p := ⟨bb, off + k * 3, none⟩) hbB).trans q0
          have d1 := (hbk.cell (p := ⟨bb, off + k * 3 + 1, none⟩) hbB).trans q1
          have d2 := (hbk.cell (p := ⟨bb, off + k * 3 + 2, none⟩) hbB).trans q2
          have Hb2 := Lib.hid (Hbad.out k hlt2)
          have Hp2 := Lib.hid (fun h => HP.out.take_succ hlt2 h)
          have Hks := Lib.hid (kS_take hlt2)
          have hK := kS_lt' HP.out
          have hKn : kS (l.take k) < 2 ^ n := by rw [HN.out] at hK; exact hK
          generalize kS (l.take k) = K at Hb2 Hp2 Hks hKn hK ⊢
          generalize l[k] = st at q0 q1 q2 d0 d1 d2 Hb2 Hp2 Hks
          obtain ⟨p, f, r⟩ := st
          simp only at q0 q1 q2 d0 d1 d2 Hb2 Hp2 Hks
          have k0 : (0 : Int) ≤ (k : Int) := by omega
          have k1 : (k : Int) < (l.length : Int) := by omega
          have hba := balloc hbk (.cells #[.int .i64 p, .int .i64 f, .int .i64 r] 73)
          obtain ⟨x0, x1, x2, _⟩ := HX.out _ hba
          have HBA := Lib.hid hba
          have HY := Lib.hid (Blk.new wr 73 #[.int .i64 p, .int .i64 f, .int .i64 r])
          obtain ⟨y0, y1, y2, f0, f1, f2⟩ := blk3 HY.out
          clear q0 q1 q2 hba hK
          have Bad := Lib.hid (fun (h : rgR b m (p, f, r) K = false) => show out = 8 from Hb2.out h)
          by_cases h1 : p < 0
          · have Ho := Lib.hid (Bad.out (Hout.out p f r K (.inl h1)))
            have h1d : decide (p < 0) = true := by simpa using h1
            go_wp2_with fail
            go_ret
            exact ⟨by rw [Ho.out]; rfl, Hw.out.trans (HBA.out.mono Hw.out.size)⟩
          have h1d : decide (p < 0) = false := by simpa using h1
          by_cases h2 : (n : Int) ≤ p
          · have Ho := Lib.hid (Bad.out (Hout.out p f r K (.inr h2)))
            have h2d : decide ((n : Int) ≤ p) = true := by simpa using h2
            go_wp2_with fail
            go_ret
            exact ⟨by rw [Ho.out]; rfl, Hw.out.trans (HBA.out.mono Hw.out.size)⟩
          have h2d : decide ((n : Int) ≤ p) = false := by simpa using h2
          have h12 : ¬ (p < 0 ∨ (n : Int) ≤ p) := by omega
          obtain ⟨q, rfl⟩ := Int.eq_ofNat_of_zero_le (show 0 ≤ p by omega)
          have hqn : q < n := by omega
          have hK60 : K < 2 ^ 60 := Nat.lt_of_lt_of_le hKn (Nat.pow_le_pow_right (by decide) (by omega))
          have key := or_pow hK60 (show q < 60 by omega)
          have hqt : ((q : Int)).toNat = q := by omega
          rw [hqt] at Hks
          have hmq : min q 64 = q := by omega
          by_cases h3 : r = -1
          · subst h3
            by_cases h4 : f < 0
            · have h4d : decide (0 ≤ f) = false := by simp; omega
              have Ho := Lib.hid (Bad.out (by rw [Hown.out _ f K h12, h4d]; rfl))
              by_cases h5 : f = -1
              · subst h5
                go_wp2_with fail
                go_ret
                exact ⟨by rw [Ho.out]; rfl, Hw.out.trans (HBA.out.mono Hw.out.size)⟩
              · have h5d : (f == -1) = false := by simpa using h5
                have h5e : decide (f = -1) = false := by simpa using h5
                go_wp2_with fail
                go_ret
                exact ⟨by rw [Ho.out]; rfl, Hw.out.trans (HBA.out.mono Hw.out.size)⟩
            have h4d : decide (0 ≤ f) = true := by simp; omega
            by_cases h5 : (m : Int) < f
            · have h5d : decide (f ≤ (m : Int)) = false := by simp; omega
              have h6d : (f == -1) = false := by simp; omega
              have h6e : decide (f = -1) = false := by simp; omega
              have Ho := Lib.hid (Bad.out (Hfar.out _ f K h12 h5))
              go_wp2_with fail
              go_ret
              exact ⟨by rw [Ho.out]; rfl, Hw.out.trans (HBA.out.mono Hw.out.size)⟩
            obtain ⟨fk, rfl⟩ := Int.eq_ofNat_of_zero_le (show 0 ≤ f by omega)
            have h5d : decide ((fk : Int) ≤ (m : Int)) = true := by simp; omega
            have hfl : fk < b.its.length := by omega
            have e2 : decide ((fk : Int) < (b.its.length : Int)) = true := by simp; omega
            have Ho := Lib.hid (Hown.out (q : Int) (fk : Int) K h12)
            rw [h4d, e2, Bool.true_and, Bool.true_and, show ((fk : Int)).toNat = fk from rfl, List.getElem?_eq_getElem hfl, Option.getD_some] at Ho
            obtain ⟨bi, oi, A1, c1, A2, c2, rfl, hbi, _, e1, _, i2⟩ := HI.out fk hfl
            have hl2 := (HS.out.2.2.1 b.its[fk] (List.getElem_mem hfl)).2
            have hC60 : C < 2 ^ 60 := Nat.lt_of_lt_of_le hC (by decide)
            have kt := bit_test hC60 (i := fk)
            have c89 := Lib.hid (fun W (hW : Below W0.heap.size W0 W) => contains_any A2 c2 W0.heap.size b.its[fk].2 (q : Int) W (by omega) (i2.below hW (Nat.le_refl _)))
            generalize hhz : b.its[fk].2.contains (q : Int) = hz at c89 Ho
            generalize b.its[fk].2.length = n2 at c89 e1 hl2
            obtain ⟨W1, hW1⟩ : ∃ W1, W1 = wr.alloc (.cells #[.int .i64 q, .int .i64 fk, .int .i64 (-1)] 73) := ⟨_, rfl⟩
            have HB1 := Lib.hid (show Below W0.heap.size W0 W1 from by rw [hW1]; exact HBA.out)
            have HY1 := Lib.hid (show Blk W1 wr.heap.size 73 #[.int .i64 q, .int .i64 fk, .int .i64 (-1)] from by rw [hW1]; exact HY.out)
            obtain ⟨x0', x1', _⟩ := HX.out W1 HB1.out
            obtain ⟨y0', y1', _⟩ := blk3 HY1.out
            have Keep := Lib.hid (fun W (hW : Below W1.heap.size W1 W) => show W.cell? ⟨w.heap.size, 1, none⟩ = some (.slice (some ⟨bi, oi, none⟩) b.its.length cI) ∧ W.cell? ⟨wr.heap.size, 0, none⟩ = some (.int .i64 q) ∧ W.cell? ⟨wr.heap.size, 1, none⟩ = some (.int .i64 fk) ∧ W.cell? ⟨bi, oi + fk * 2 + 1, none⟩ = some (.slice A2 n2 c2) ∧ Below W1.heap.size W1 W from
              ⟨(hW.cell (p := ⟨w.heap.size, 1, none⟩) (Nat.lt_of_lt_of_le hlt HB1.out.size)).trans x1', (hW.cell (p := ⟨wr.heap.size, 0, none⟩) HY1.out.lt).trans y0', (hW.cell (p := ⟨wr.heap.size, 1, none⟩) HY1.out.lt).trans y1', (hW.cell (p := ⟨bi, oi + fk * 2 + 1, none⟩) (Nat.lt_of_lt_of_le hbi HB1.out.size)).trans ((HB1.out.cell (p := ⟨bi, oi + fk * 2 + 1, none⟩) hbi).trans e1), hW⟩)
            have Hin := Lib.hid (c89.out _ (HB1.out.trans (((Below.refl W1.heap.size W1).drew).mono HB1.out.size)))
            have j0 : (0 : Int) ≤ (fk : Int) := by omega
            have j1 : (fk : Int) < (b.its.length : Int) := by omega
            have hS := Keep.out _ (Below.refl W1.heap.size W1).drew
            have hmn : min fk 64 = fk := by have := HS.out.1; omega
            have hbe := HB1.out.trans (((Below.refl W1.heap.size W1).drew).mono HB1.out.size)
            clear x0' x1' y0' y1' f0 f1 f2 e1 i2 c89 Hout Hown Hrul Hfar Hb2 Keep HX HI HR
            cases hbit : C.testBit fk with
            | false =>
              rw [hbit] at kt Ho
              have Ho2 := Lib.hid (Bad.out (by rw [Ho.out]; rfl))
              simp only [Bool.false_eq_true, if_false] at kt
              go_wp2_with fail
              rw [← hW1]
              clear hW1
              refine wp_region_E (S := fun W => W.cell? ⟨w.heap.size, 1, none⟩ = some (.slice (some ⟨bi, oi, none⟩) b.its.length cI) ∧ W.cell? ⟨wr.heap.size, 0, none⟩ = some (.int .i64 q) ∧ W.cell? ⟨wr.heap.size, 1, none⟩ = some (.int .i64 fk) ∧ W.cell? ⟨bi, oi + fk * 2 + 1, none⟩ = some (.slice A2 n2 c2) ∧ Below W1.heap.size W1 W) (E := fun _ => false) (by kernel_rfl) ?_
              refine anyE_tk 0 60 (oi := ?oi1) (v := ?v1) ?hi1 ?hd1 (by kernel_rfl) (by kernel_rfl) (by kernel_rfl) ?hQ1 ?hy1 hS ?rest1
              case hi1 => simp only [List.getElem?_toArray, List.getElem?_cons_zero, List.getElem?_cons_succ]; rfl
              case hd1 => rfl
              case hQ1 => exact fun _ _ _ h => h
              case hy1 => (refine Or.inl ⟨by rfl, ?_⟩; intro w hSw; (try dsimp only at hSw); go_simp; try with_reducible rfl)
              simp only [List.setIfInBounds_toArray, List.set_cons_zero, List.set_cons_succ]
              refine anyE_tk 1 61 (oi := ?oi2) (v := ?v2) ?hi2 ?hd2 (by kernel_rfl) (by kernel_rfl) (by kernel_rfl) ?hQ2 ?hy2 hS ?rest2
              case hi2 => simp only [List.getElem?_toArray, List.getElem?_cons_zero, List.getElem?_cons_succ]; rfl
              case hd2 => rfl
              case hQ2 => exact fun _ _ _ h => h
              case hy2 => (refine Or.inl ⟨by rfl, ?_⟩; intro w hSw; (try dsimp only at hSw); go_simp; try with_reducible rfl)
              simp only [List.setIfInBounds_toArray, List.set_cons_zero, List.set_cons_succ]
              refine anyE_tk 2 62 (oi := ?oi3) (v := ?v3) ?hi3 ?hd3 (by kernel_rfl) (by kernel_rfl) (by kernel_rfl) ?hQ3 ?hy3 hS ?rest3
              case hi3 => simp only [List.getElem?_toArray, List.getElem?_cons_zero, List.getElem?_cons_succ]; rfl
              case hd3 => rfl
              case hQ3 => exact fun _ _ _ h => h
              case hy3 => (refine Or.inl ⟨by rfl, ?_⟩; intro w hSw; (try dsimp only at hSw); go_simp; try with_reducible rfl)
              simp only [List.setIfInBounds_toArray, List.set_cons_zero, List.set_cons_succ]
              refine anyE_tk 3 63 (oi := ?oi4) (v := ?v4) ?hi4 ?hd4 (by kernel_rfl) (by kernel_rfl) (by kernel_rfl) ?hQ4 ?hy4 hS ?rest4
              case hi4 => simp only [List.getElem?_toArray, List.getElem?_cons_zero, List.getElem?_cons_succ]; rfl
              case hd4 => rfl
              case hQ4 => exact fun _ _ _ h => h
              case hy4 => (refine Or.inl ⟨by rfl, ?_⟩; intro w hSw; (try dsimp only at hSw); go_simp; try with_reducible rfl)
              simp only [List.setIfInBounds_toArray, List.set_cons_zero, List.set_cons_succ]
              refine anyE_tk 4 64 (oi := ?oi5) (v := ?v5) ?hi5 ?hd5 (by kernel_rfl) (by kernel_rfl) (by kernel_rfl) ?hQ5 ?hy5 hS ?rest5
              case hi5 => simp only [List.getElem?_toArray, List.getElem?_cons_zero, List.getElem?_cons_succ]; rfl
              case hd5 => rfl
              case hQ5 => exact fun _ _ _ h => h
              case hy5 => (refine Or.inl ⟨by rfl, ?_⟩; intro w hSw; (try dsimp only at hSw); go_simp; try with_reducible rfl)
              simp only [List.setIfInBounds_toArray, List.set_cons_zero, List.set_cons_succ]
              refine anyE_tk 5 65 (oi := ?oi6) (v := ?v6) ?hi6 ?hd6 (by kernel_rfl) (by kernel_rfl) (by kernel_rfl) ?hQ6 ?hy6 hS ?rest6
              case hi6 => simp only [List.getElem?_toArray, List.getElem?_cons_zero, List.getElem?_cons_succ]; rfl
              case hd6 => rfl
              case hQ6 => exact fun _ _ _ h => h
              case hy6 => (refine Or.inl ⟨by rfl, ?_⟩; intro w hSw; (try dsimp only at hSw); go_simp; try with_reducible rfl)
              simp only [List.setIfInBounds_toArray, List.set_cons_zero, List.set_cons_succ]
              refine anyE_tk 6 66 (oi := ?oi7) (v := ?v7) ?hi7 ?hd7 (by kernel_rfl) (by kernel_rfl) (by kernel_rfl) ?hQ7 ?hy7 hS ?rest7
              case hi7 => simp only [List.getElem?_toArray, List.getElem?_cons_zero, List.getElem?_cons_succ]; rfl
              case hd7 => rfl
              case hQ7 => exact fun _ _ _ h => h
              case hy7 => (refine Or.inl ⟨by rfl, ?_⟩; intro w hSw; (try dsimp only at hSw); go_simp; try with_reducible rfl)
              simp only [List.setIfInBounds_toArray, List.set_cons_zero, List.set_cons_succ]
              refine anyE_tk 7 67 (oi := ?oi8) (v := undef) ?hi8 ?hd8 (by kernel_rfl) (by kernel_rfl) (by kernel_rfl) ?hQ8 ?hy8 hS ?rest8
              case hi8 => simp only [List.getElem?_toArray, List.getElem?_cons_zero, List.getElem?_cons_succ]; rfl
              case hd8 => rfl
              case hQ8 => exact fun _ _ _ h => h
              case hy8 => exact Or.inr ⟨by rfl, rfl⟩
              simp only [List.setIfInBounds_toArray, List.set_cons_zero, List.set_cons_succ]
              refine anyE_tk 8 68 (oi := ?oi9) (v := undef) ?hi9 ?hd9 (by kernel_rfl) (by kernel_rfl) (by kernel_rfl) ?hQ9 ?hy9 hS ?rest9
              case hi9 => simp only [List.getElem?_toArray, List.getElem?_cons_zero, List.getElem?_cons_succ]; rfl
              case hd9 => rfl
              case hQ9 => exact fun _ _ _ h => h
              case hy9 => exact Or.inr ⟨by rfl, rfl⟩
              simp only [List.setIfInBounds_toArray, List.set_cons_zero, List.set_cons_succ]
              refine anyE_tk 9 69 (oi := ?oi10) (v := undef) ?hi10 ?hd10 (by kernel_rfl) (by kernel_rfl) (by kernel_rfl) ?hQ10 ?hy10 hS ?rest10
              case hi10 => simp only [List.getElem?_toArray, List.getElem?_cons_zero, List.getElem?_cons_succ]; rfl
              case hd10 => rfl
              case hQ10 => exact fun _ _ _ h => h
              case hy10 => exact Or.inr ⟨by rfl, rfl⟩
              simp only [List.setIfInBounds_toArray, List.set_cons_zero, List.set_cons_succ]
              refine anyE_tk 10 70 (oi := ?oi11) (v := undef) ?hi11 ?hd11 (by kernel_rfl) (by kernel_rfl) (by kernel_rfl) ?hQ11 ?hy11 hS ?rest11
              case hi11 => simp only [List.getElem?_toArray, List.getElem?_cons_zero, List.getElem?_cons_succ]; rfl
              case hd11 => rfl
              case hQ11 => exact fun _ _ _ h => h
              case hy11 => exact Or.inr ⟨by rfl, rfl⟩
              simp only [List.setIfInBounds_toArray, List.set_cons_zero, List.set_cons_succ]
              refine anyE_tk 11 71 (oi := ?oi12) (v := undef) ?hi12 ?hd12 (by kernel_rfl) (by kernel_rfl) (by kernel_rfl) ?hQ12 ?hy12 hS ?rest12
              case hi12 => simp only [List.getElem?_toArray, List.getElem?_cons_zero, List.getElem?_cons_succ]; rfl
              case hd12 => rfl
              case hQ12 => exact fun _ _ _ h => h
              case hy12 => exact Or.inr ⟨by rfl, rfl⟩
              simp only [List.setIfInBounds_toArray, List.set_cons_zero, List.set_cons_succ]
              refine anyE_tk 12 72 (oi := ?oi13) (v := undef) ?hi13 ?hd13 (by kernel_rfl) (by kernel_rfl) (by kernel_rfl) ?hQ13 ?hy13 hS ?rest13
              case hi13 => simp only [List.getElem?_toArray, List.getElem?_cons_zero, List.getElem?_cons_succ]; rfl
              case hd13 => rfl
              case hQ13 => exact fun _ _ _ h => h
              case hy13 => exact Or.inr ⟨by rfl, rfl⟩
              simp only [List.setIfInBounds_toArray, List.set_cons_zero, List.set_cons_succ]
              refine anyE_tk 13 73 (oi := ?oi14) (v := undef) ?hi14 ?hd14 (by kernel_rfl) (by kernel_rfl) (by kernel_rfl) ?hQ14 ?hy14 hS ?rest14
              case hi14 => simp only [List.getElem?_toArray, List.getElem?_cons_zero, List.getElem?_cons_succ]; rfl
              case hd14 => rfl
              case hQ14 => exact fun _ _ _ h => h
              case hy14 => exact Or.inr ⟨by rfl, rfl⟩
              simp only [List.setIfInBounds_toArray, List.set_cons_zero, List.set_cons_succ]
              refine anyE_tk 14 74 (oi := ?oi15) (v := undef) ?hi15 ?hd15 (by kernel_rfl) (by kernel_rfl) (by kernel_rfl) ?hQ15 ?hy15 hS ?rest15
              case hi15 => simp only [List.getElem?_toArray, List.getElem?_cons_zero, List.getElem?_cons_succ]; rfl
              case hd15 => rfl
              case hQ15 => exact fun _ _ _ h => h
              case hy15 => exact Or.inr ⟨by rfl, rfl⟩
              simp only [List.setIfInBounds_toArray, List.set_cons_zero, List.set_cons_succ]
              refine anyE_tk 15 75 (oi := ?oi16) (v := undef) ?hi16 ?hd16 (by kernel_rfl) (by kernel_rfl) (by kernel_rfl) ?hQ16 ?hy16 hS ?rest16
              case hi16 => simp only [List.getElem?_toArray, List.getElem?_cons_zero, List.getElem?_cons_succ]; rfl
              case hd16 => rfl
              case hQ16 => exact fun _ _ _ h => h
              case hy16 => exact Or.inr ⟨by rfl, rfl⟩
              simp only [List.setIfInBounds_toArray, List.set_cons_zero, List.set_cons_succ]
              refine anyE_tk 16 76 (oi := ?oi17) (v := undef) ?hi17 ?hd17 (by kernel_rfl) (by kernel_rfl) (by kernel_rfl) ?hQ17 ?hy17 hS ?rest17
              case hi17 => simp only [List.getElem?_toArray, List.getElem?_cons_zero, List.getElem?_cons_succ]; rfl
              case hd17 => rfl
              case hQ17 => exact fun _ _ _ h => h
              case hy17 => exact Or.inr ⟨by rfl, rfl⟩
              simp only [List.setIfInBounds_toArray, List.set_cons_zero, List.set_cons_succ]
              refine anyE_tk 17 77 (oi := ?oi18) (v := undef) ?hi18 ?hd18 (by kernel_rfl) (by kernel_rfl) (by kernel_rfl) ?hQ18 ?hy18 hS ?rest18
              case hi18 => simp only [List.getElem?_toArray, List.getElem?_cons_zero, List.getElem?_cons_succ]; rfl
              case hd18 => rfl
              case hQ18 => exact fun _ _ _ h => h
              case hy18 => exact Or.inr ⟨by rfl, rfl⟩
              simp only [List.setIfInBounds_toArray, List.set_cons_zero, List.set_cons_succ]
              refine anyE_tk 18 78 (oi := ?oi19) (v := ?v19) ?hi19 ?hd19 (by kernel_rfl) (by kernel_rfl) (by kernel_rfl) ?hQ19 ?hy19 hS ?rest19
              case hi19 => simp only [List.getElem?_toArray, List.getElem?_cons_zero, List.getElem?_cons_succ]; rfl
              case hd19 => rfl
              case hQ19 => exact fun _ _ _ h => h
              case hy19 => (refine Or.inl ⟨by rfl, ?_⟩; intro w hSw; (try dsimp only at hSw); go_simp; try with_reducible rfl)
              simp only [List.setIfInBounds_toArray, List.set_cons_zero, List.set_cons_succ]
              refine anyE_done (by kernel_rfl) ?_ _
              go_wp2_with fail
              go_ret
              exact ⟨by rw [Ho2.out]; rfl, Hw.out.trans (hbe.mono Hw.out.size)⟩
            | true =>
              rw [hbit] at kt Ho
              simp only [if_true] at kt
              rw [Bool.true_and] at Ho
              go_wp2_with fail
              rw [← hW1]
              clear hW1
              refine wp_region_E (S := fun W => W.cell? ⟨w.heap.size, 1, none⟩ = some (.slice (some ⟨bi, oi, none⟩) b.its.length cI) ∧ W.cell? ⟨wr.heap.size, 0, none⟩ = some (.int .i64 q) ∧ W.cell? ⟨wr.heap.size, 1, none⟩ = some (.int .i64 fk) ∧ W.cell? ⟨bi, oi + fk * 2 + 1, none⟩ = some (.slice A2 n2 c2) ∧ Below W1.heap.size W1 W) (E := fun _ => false) (by kernel_rfl) ?_
              refine anyE_tk 0 60 (oi := ?oi20) (v := ?v20) ?hi20 ?hd20 (by kernel_rfl) (by kernel_rfl) (by kernel_rfl) ?hQ20 ?hy20 hS ?rest20
              case hi20 => simp only [List.getElem?_toArray, List.getElem?_cons_zero, List.getElem?_cons_succ]; rfl
              case hd20 => rfl
              case hQ20 => exact fun _ _ _ h => h
              case hy20 => (refine Or.inl ⟨by rfl, ?_⟩; intro w hSw; (try dsimp only at hSw); go_simp; try with_reducible rfl)
              simp only [List.setIfInBounds_toArray, List.set_cons_zero, List.set_cons_succ]
              refine anyE_tk 1 61 (oi := ?oi21) (v := ?v21) ?hi21 ?hd21 (by kernel_rfl) (by kernel_rfl) (by kernel_rfl) ?hQ21 ?hy21 hS ?rest21
              case hi21 => simp only [List.getElem?_toArray, List.getElem?_cons_zero, List.getElem?_cons_succ]; rfl
              case hd21 => rfl
              case hQ21 => exact fun _ _ _ h => h
              case hy21 => (refine Or.inl ⟨by rfl, ?_⟩; intro w hSw; (try dsimp only at hSw); go_simp; try with_reducible rfl)
              simp only [List.setIfInBounds_toArray, List.set_cons_zero, List.set_cons_succ]
              refine anyE_tk 2 62 (oi := ?oi22) (v := ?v22) ?hi22 ?hd22 (by kernel_rfl) (by kernel_rfl) (by kernel_rfl) ?hQ22 ?hy22 hS ?rest22
              case hi22 => simp only [List.getElem?_toArray, List.getElem?_cons_zero, List.getElem?_cons_succ]; rfl
              case hd22 => rfl
              case hQ22 => exact fun _ _ _ h => h
              case hy22 => (refine Or.inl ⟨by rfl, ?_⟩; intro w hSw; (try dsimp only at hSw); go_simp; try with_reducible rfl)
              simp only [List.setIfInBounds_toArray, List.set_cons_zero, List.set_cons_succ]
              refine anyE_tk 3 63 (oi := ?oi23) (v := ?v23) ?hi23 ?hd23 (by kernel_rfl) (by kernel_rfl) (by kernel_rfl) ?hQ23 ?hy23 hS ?rest23
              case hi23 => simp only [List.getElem?_toArray, List.getElem?_cons_zero, List.getElem?_cons_succ]; rfl
              case hd23 => rfl
              case hQ23 => exact fun _ _ _ h => h
              case hy23 => (refine Or.inl ⟨by rfl, ?_⟩; intro w hSw; (try dsimp only at hSw); go_simp; try with_reducible rfl)
              simp only [List.setIfInBounds_toArray, List.set_cons_zero, List.set_cons_succ]
              refine anyE_tk 4 64 (oi := ?oi24) (v := ?v24) ?hi24 ?hd24 (by kernel_rfl) (by kernel_rfl) (by kernel_rfl) ?hQ24 ?hy24 hS ?rest24
              case hi24 => simp only [List.getElem?_toArray, List.getElem?_cons_zero, List.getElem?_cons_succ]; rfl
              case hd24 => rfl
              case hQ24 => exact fun _ _ _ h => h
              case hy24 => (refine Or.inl ⟨by rfl, ?_⟩; intro w hSw; (try dsimp only at hSw); go_simp; try with_reducible rfl)
              simp only [List.setIfInBounds_toArray, List.set_cons_zero, List.set_cons_succ]
              refine anyE_tk 5 65 (oi := ?oi25) (v := ?v25) ?hi25 ?hd25 (by kernel_rfl) (by kernel_rfl) (by kernel_rfl) ?hQ25 ?hy25 hS ?rest25
              case hi25 => simp only [List.getElem?_toArray, List.getElem?_cons_zero, List.getElem?_cons_succ]; rfl
              case hd25 => rfl
              case hQ25 => exact fun _ _ _ h => h
              case hy25 => (refine Or.inl ⟨by rfl, ?_⟩; intro w hSw; (try dsimp only at hSw); go_simp; try with_reducible rfl)
              simp only [List.setIfInBounds_toArray, List.set_cons_zero, List.set_cons_succ]
              refine anyE_tk 6 66 (oi := ?oi26) (v := ?v26) ?hi26 ?hd26 (by kernel_rfl) (by kernel_rfl) (by kernel_rfl) ?hQ26 ?hy26 hS ?rest26
              case hi26 => simp only [List.getElem?_toArray, List.getElem?_cons_zero, List.getElem?_cons_succ]; rfl
              case hd26 => rfl
              case hQ26 => exact fun _ _ _ h => h
              case hy26 => (refine Or.inl ⟨by rfl, ?_⟩; intro w hSw; (try dsimp only at hSw); go_simp; try with_reducible rfl)
              simp only [List.setIfInBounds_toArray, List.set_cons_zero, List.set_cons_succ]
              refine anyE_tk 7 67 (oi := ?oi27) (v := ?v27) ?hi27 ?hd27 (by kernel_rfl) (by kernel_rfl) (by kernel_rfl) ?hQ27 ?hy27 hS ?rest27
              case hi27 => simp only [List.getElem?_toArray, List.getElem?_cons_zero, List.getElem?_cons_succ]; rfl
              case hd27 => rfl
              case hQ27 => exact fun _ _ _ h => h
              case hy27 => (refine Or.inl ⟨by rfl, ?_⟩; intro w hSw; (try dsimp only at hSw); go_simp; try with_reducible rfl)
              simp only [List.setIfInBounds_toArray, List.set_cons_zero, List.set_cons_succ]
              refine anyE_tk 8 68 (oi := ?oi28) (v := ?v28) ?hi28 ?hd28 (by kernel_rfl) (by kernel_rfl) (by kernel_rfl) ?hQ28 ?hy28 hS ?rest28
              case hi28 => simp only [List.getElem?_toArray, List.getElem?_cons_zero, List.getElem?_cons_succ]; rfl
              case hd28 => rfl
              case hQ28 => exact fun _ _ _ h => h
              case hy28 => (refine Or.inl ⟨by rfl, ?_⟩; intro w hSw; (try dsimp only at hSw); go_simp; try with_reducible rfl)
              simp only [List.setIfInBounds_toArray, List.set_cons_zero, List.set_cons_succ]
              refine anyE_tk 9 69 (oi := ?oi29) (v := ?v29) ?hi29 ?hd29 (by kernel_rfl) (by kernel_rfl) (by kernel_rfl) ?hQ29 ?hy29 hS ?rest29
              case hi29 => simp only [List.getElem?_toArray, List.getElem?_cons_zero, List.getElem?_cons_succ]; rfl
              case hd29 => rfl
              case hQ29 => exact fun _ _ _ h => h
              case hy29 => (refine Or.inl ⟨by rfl, ?_⟩; intro w hSw; (try dsimp only at hSw); go_simp; try with_reducible rfl)
              simp only [List.setIfInBounds_toArray, List.set_cons_zero, List.set_cons_succ]
              refine anyE_tk 10 70 (oi := ?oi30) (v := ?v30) ?hi30 ?hd30 (by kernel_rfl) (by kernel_rfl) (by kernel_rfl) ?hQ30 ?hy30 hS ?rest30
              case hi30 => simp only [List.getElem?_toArray, List.getElem?_cons_zero, List.getElem?_cons_succ]; rfl
              case hd30 => rfl
              case hQ30 => exact fun _ _ _ h => h
              case hy30 => (refine Or.inl ⟨by rfl, ?_⟩; intro w hSw; (try dsimp only at hSw); go_simp; try with_reducible rfl)
              simp only [List.setIfInBounds_toArray, List.set_cons_zero, List.set_cons_succ]
              refine anyE_tk 11 71 (oi := ?oi31) (v := ?v31) ?hi31 ?hd31 (by kernel_rfl) (by kernel_rfl) (by kernel_rfl) ?hQ31 ?hy31 hS ?rest31
              case hi31 => simp only [List.getElem?_toArray, List.getElem?_cons_zero, List.getElem?_cons_succ]; rfl
              case hd31 => rfl
              case hQ31 => exact fun _ _ _ h => h
              case hy31 => (refine Or.inl ⟨by rfl, ?_⟩; intro w hSw; (try dsimp only at hSw); go_simp; try with_reducible rfl)
              simp only [List.setIfInBounds_toArray, List.set_cons_zero, List.set_cons_succ]
              refine anyE_tk 12 72 (oi := ?oi32) (v := ?v32) ?hi32 ?hd32 (by kernel_rfl) (by kernel_rfl) (by kernel_rfl) ?hQ32 ?hy32 hS ?rest32
              case hi32 => simp only [List.getElem?_toArray, List.getElem?_cons_zero, List.getElem?_cons_succ]; rfl
              case hd32 => rfl
              case hQ32 => exact fun _ _ _ h => h
              case hy32 => (refine Or.inl ⟨by rfl, ?_⟩; intro w hSw; (try dsimp only at hSw); go_simp; try with_reducible rfl)
              simp only [List.setIfInBounds_toArray, List.set_cons_zero, List.set_cons_succ]
              refine anyE_tk 13 73 (oi := ?oi33) (v := ?v33) ?hi33 ?hd33 (by kernel_rfl) (by kernel_rfl) (by kernel_rfl) ?hQ33 ?hy33 hS ?rest33
              case hi33 => simp only [List.getElem?_toArray, List.getElem?_cons_zero, List.getElem?_cons_succ]; rfl
              case hd33 => rfl
              case hQ33 => exact fun _ _ _ h => h
              case hy33 => (refine Or.inl ⟨by rfl, ?_⟩; intro w hSw; (try dsimp only at hSw); go_simp; try with_reducible rfl)
              simp only [List.setIfInBounds_toArray, List.set_cons_zero, List.set_cons_succ]
              refine anyE_tk 14 74 (oi := ?oi34) (v := ?v34) ?hi34 ?hd34 (by kernel_rfl) (by kernel_rfl) (by kernel_rfl) ?hQ34 ?hy34 hS ?rest34
              case hi34 => simp only [List.getElem?_toArray, List.getElem?_cons_zero, List.getElem?_cons_succ]; rfl
              case hd34 => rfl
              case hQ34 => exact fun _ _ _ h => h
              case hy34 => (refine Or.inl ⟨by rfl, ?_⟩; intro w hSw; (try dsimp only at hSw); go_simp; try with_reducible rfl)
              simp only [List.setIfInBounds_toArray, List.set_cons_zero, List.set_cons_succ]
              refine anyE_tk 15 75 (oi := ?oi35) (v := ?v35) ?hi35 ?hd35 (by kernel_rfl) (by kernel_rfl) (by kernel_rfl) ?hQ35 ?hy35 hS ?rest35
              case hi35 => simp only [List.getElem?_toArray, List.getElem?_cons_zero, List.getElem?_cons_succ]; rfl
              case hd35 => rfl
              case hQ35 => exact fun _ _ _ h => h
              case hy35 => (refine Or.inl ⟨by rfl, ?_⟩; intro w hSw; (try dsimp only at hSw); go_simp; try with_reducible rfl)
              simp only [List.setIfInBounds_toArray, List.set_cons_zero, List.set_cons_succ]
              refine anyE_one (i := 16) (o := ?oi36) (by kernel_rfl) ?hi36 (fun K hK => ?step36)
              case hi36 => simp only [List.getElem?_toArray, List.getElem?_cons_zero, List.getElem?_cons_succ]; rfl
              go_simp
              refine Hin.out.mono ?_
              rintro e w6 ⟨rfl, rfl⟩
              go_wp2_with fail
              refine hK.out _ _ (fun _ => hS) ?_
              clear hK K
              try simp only [Act.put, List.setIfInBounds_toArray, List.set_cons_zero, List.set_cons_succ]
              cases hz with
              | false =>
                have Ho2 := Lib.hid (Bad.out Ho.out)
                refine anyE_tk 17 77 (oi := ?oi37) (v := ?v37) ?hi37 ?hd37 (by kernel_rfl) (by kernel_rfl) (by kernel_rfl) ?hQ37 ?hy37 hS ?rest37
                case hi37 => simp only [List.getElem?_toArray, List.getElem?_cons_zero, List.getElem?_cons_succ]; rfl
                case hd37 => rfl
                case hQ37 => exact fun _ _ _ h => h
                case hy37 => (refine Or.inl ⟨by rfl, ?_⟩; intro w hSw; (try dsimp only at hSw); go_simp; try with_reducible rfl)
                simp only [List.setIfInBounds_toArray, List.set_cons_zero, List.set_cons_succ]
                refine anyE_tk 18 78 (oi := ?oi38) (v := ?v38) ?hi38 ?hd38 (by kernel_rfl) (by kernel_rfl) (by kernel_rfl) ?hQ38 ?hy38 hS ?rest38
                case hi38 => simp only [List.getElem?_toArray, List.getElem?_cons_zero, List.getElem?_cons_succ]; rfl
                case hd38 => rfl
                case hQ38 => exact fun _ _ _ h => h
                case hy38 => (refine Or.inl ⟨by rfl, ?_⟩; intro w hSw; (try dsimp only at hSw); go_simp; try with_reducible rfl)
                simp only [List.setIfInBounds_toArray, List.set_cons_zero, List.set_cons_succ]
                refine anyE_done (by kernel_rfl) ?_ _
                go_wp2_with fail
                go_ret
                exact ⟨by rw [Ho2.out]; rfl, Hw.out.trans (hbe.mono Hw.out.size)⟩
              | true =>
                have HPn := Lib.hid (Hp2.out Ho.out)
                refine anyE_tk 17 77 (oi := ?oi39) (v := ?v39) ?hi39 ?hd39 (by kernel_rfl) (by kernel_rfl) (by kernel_rfl) ?hQ39 ?hy39 hS ?rest39
                case hi39 => simp only [List.getElem?_toArray, List.getElem?_cons_zero, List.getElem?_cons_succ]; rfl
                case hd39 => rfl
                case hQ39 => exact fun _ _ _ h => h
                case hy39 => (refine Or.inl ⟨by rfl, ?_⟩; intro w hSw; (try dsimp only at hSw); go_simp; try with_reducible rfl)
                simp only [List.setIfInBounds_toArray, List.set_cons_zero, List.set_cons_succ]
                refine anyE_tk 18 78 (oi := ?oi40) (v := ?v40) ?hi40 ?hd40 (by kernel_rfl) (by kernel_rfl) (by kernel_rfl) ?hQ40 ?hy40 hS ?rest40
                case hi40 => simp only [List.getElem?_toArray, List.getElem?_cons_zero, List.getElem?_cons_succ]; rfl
                case hd40 => rfl
                case hQ40 => exact fun _ _ _ h => h
                case hy40 => (refine Or.inl ⟨by rfl, ?_⟩; intro w hSw; (try dsimp only at hSw); go_simp; try with_reducible rfl)
                simp only [List.setIfInBounds_toArray, List.set_cons_zero, List.set_cons_succ]
                refine anyE_done (by kernel_rfl) ?_ _
                obtain ⟨_, y0', _, _, _⟩ := hS
                go_wp2_with fail
                go_roundw
                case rel => exact ⟨k + 1, by omega, by go_num, by rw [Hks.out], HPn.out, hbe⟩
                case measure => simp [intOf]; omega
          · have h3d : decide (r = -1) = false := by simpa using h3
            have h3e : (r == -1) = false := by simpa using h3
            have Ho := Lib.hid (Hrul.out (q : Int) f r K h12 h3)
            by_cases h4 : f = -1
            case neg =>
              have e1 : decide (f = -1) = false := by simpa using h4
              have e2 : (f == -1) = false := by simpa using h4
              have Ho2 := Lib.hid (Bad.out (by rw [Ho.out, e1]; rfl))
              go_wp2_with fail
              go_ret
              exact ⟨by rw [Ho2.out]; rfl, Hw.out.trans (HBA.out.mono Hw.out.size)⟩
            subst h4
            by_cases h5 : r < 0
            · have e1 : decide (0 ≤ r) = false := by simp; omega
              have Ho2 := Lib.hid (Bad.out (by rw [Ho.out, e1]; simp))
              go_wp2_with fail
              go_ret
              exact ⟨by rw [Ho2.out]; rfl, Hw.out.trans (HBA.out.mono Hw.out.size)⟩
            have e1 : decide (0 ≤ r) = true := by simp; omega
            by_cases h6 : (b.rus.length : Int) ≤ r
            · have e2 : decide (r < (b.rus.length : Int)) = false := by simp; omega
              have Ho2 := Lib.hid (Bad.out (by rw [Ho.out, e2]; simp))
              go_wp2_with fail
              go_ret
              exact ⟨by rw [Ho2.out]; rfl, Hw.out.trans (HBA.out.mono Hw.out.size)⟩
            obtain ⟨rk, rfl⟩ := Int.eq_ofNat_of_zero_le (show 0 ≤ r by omega)
            have e2 : decide ((rk : Int) < (b.rus.length : Int)) = true := by simp; omega
            have hrl : rk < b.rus.length := by omega
            rw [e1, e2, decide_eq_true (show (-1 : Int) = -1 from rfl), Bool.true_and, Bool.true_and, Bool.true_and, show ((rk : Int)).toNat = rk from rfl, List.getElem?_eq_getElem hrl, Option.getD_some] at Ho
            obtain ⟨bi, oi, A1, c1, rfl, hbi, u0, u1, i1⟩ := HR.out rk hrl
            have hl2 := HS.out.2.2.2 b.rus[rk] (List.getElem_mem hrl)
            obtain ⟨hset, _, _⟩ := ruOk_mem (HV.out.rules b.rus[rk] (List.getElem_mem hrl))
            rw [HN.out] at hset
            have hin : intL (natL b.rus[rk].1) = b.rus[rk].1 := int_nat fun x hx => (isS_mem hset x hx).1
            have hqn2 : ∀ z ∈ natL b.rus[rk].1, z < n := natL_lt (isS_mem hset)
            have hlen : b.rus[rk].1.length = (natL b.rus[rk].1).length := by rw [natL_length]
            rw [← hin] at i1
            rw [hlen] at u0 hl2
            generalize b.rus[rk].2 = t at u1 Ho
            generalize natL b.rus[rk].1 = L at i1 hqn2 u0 hl2 Ho
            have v0 := (HBA.out.cell (p := ⟨bi, oi + rk * 2, none⟩) hbi).trans u0
            have v1 := (HBA.out.cell (p := ⟨bi, oi + rk * 2 + 1, none⟩) hbi).trans u1
            have hbc := balloc HBA.out (.cells #[.slice A1 L.length c1, .int .i64 t] 42)
            have HBC := Lib.hid hbc
            obtain ⟨g0, g1, g2, _⟩ := blk3 (HY.out.alloc (.cells #[.slice A1 L.length c1, .int .i64 t] 42))
            have c76 := Lib.hid (mask_any A1 c1 W0.heap.size L _ (i1.below hbc (Nat.le_refl _)) (by omega) (fun z hz => by have := hqn2 z hz; omega))
            have hmk := mk_lt hqn2
            have p10 : (2 : Nat) ^ n ≤ 2 ^ 10 := Nat.pow_le_pow_right (by decide) hn10
            have ka := andNot_all (l := L) (r := K) (by omega) (by omega)
            have kb : (bits BinOp.andNot IntKind.i64 (mk L : Int) (K : Int) != 0) = !allB K L := by rw [← ka]; rfl
            have j0 : (0 : Int) ≤ (rk : Int) := by omega
            have j1 : (rk : Int) < (b.rus.length : Int) := by omega
            generalize allB K L = al at ka kb Ho
            clear u0 u1 i1 hin hqn2 hset hlen hl2 hmk p10 hbc HX HI HR Hout Hown Hrul Hfar Hb2
            by_cases h7 : t = (q : Int)
            case neg =>
              have e3 : decide (t = (q : Int)) = false := by simpa using h7
              have e4 : (t == (q : Int)) = false := by simpa using h7
              have e5 : (t != (q : Int)) = true := by simpa using h7
              rw [e3, Bool.false_and] at Ho
              have Ho2 := Lib.hid (Bad.out Ho.out)
              go_wp2_with fail
              go_ret
              exact ⟨by rw [Ho2.out]; rfl, Hw.out.trans (HBC.out.mono Hw.out.size)⟩
            subst h7
            rw [decide_eq_true (show (q : Int) = (q : Int) from rfl), Bool.true_and] at Ho
            cases al with
            | false =>
              have Ho2 := Lib.hid (Bad.out Ho.out)
              go_wp2_with (go_at_call 76; refine c76.out.mono ?_; rintro e w3 ⟨rfl, rfl⟩)
              go_ret
              exact ⟨by rw [Ho2.out]; rfl, Hw.out.trans (HBC.out.mono Hw.out.size)⟩
            | true =>
              have HPn := Lib.hid (Hp2.out Ho.out)
              go_wp2_with (go_at_call 76; refine c76.out.mono ?_; rintro e w3 ⟨rfl, rfl⟩)
              go_roundw
              case rel => exact ⟨k + 1, by omega, by go_num, by rw [Hks.out], HPn.out, HBC.out⟩
              case measure => simp [intOf]; omega
        · obtain rfl : k = l.length := by omega
          rw [List.take_length] at HP
          rw [List.take_length]
          by_cases hz0 : l.length = 0
          · have hl0 : l = [] := List.eq_nil_of_length_eq_zero hz0
            have Ho := Lib.hid (Hother.out (by rw [hl0]; show (-1 : Int) ≠ prop; omega))
            have hzd : ((l.length : Int) == 0) = true := by simp [hl0]
            go_wp2_with fail
            go_ret
            exact ⟨by rw [Ho.out]; rfl, Hw.out.trans (hbk.mono Hw.out.size)⟩
          obtain ⟨j, hj⟩ : ∃ j, l.length = j + 1 := ⟨l.length - 1, by omega⟩
          obtain ⟨bb, off, rfl, hbB, q0, _, _⟩ := hL.out j (by omega)
          have d0 := (hbk.cell (p := ⟨bb, off + j * 3, none⟩) hbB).trans q0
          have hla := lastP_at (l := l) (i := j) hj.symm
          have HG := Lib.hid (Hgood.out HP.out)
          rw [hla] at HG Hother
          have hzd : ((l.length : Int) == 0) = false := by rw [beq_eq_false_iff_ne]; omega
          have hw1 : wrap64 ((l.length : Int) - 1) = (j : Int) := wrap_pred hj hl40
          have hw2 : IntKind.i64.wrap ((l.length : Int) - 1) = (j : Int) := by rw [IntKind.wrap_i64, hj]; omega
          have j0 : (0 : Int) ≤ (j : Int) := by omega
          have j1 : (j : Int) < (l.length : Int) := by omega
          generalize l[j].1 = lp at d0 HG Hother
          by_cases hq : lp = prop
          · have Ho := Lib.hid (HG.out hq)
            have hqd : (lp == prop) = true := by simpa using hq
            have hqe : (lp != prop) = false := by simpa using hq
            go_wp2_with fail
            go_ret
            exact ⟨by rw [Ho.out]; rfl, Hw.out.trans (hbk.mono Hw.out.size)⟩
          · have Ho := Lib.hid (Hother.out hq)
            have hqd : (lp == prop) = false := by simpa using hq
            have hqe : (lp != prop) = true := by simpa using hq
            go_wp2_with fail
            go_ret
            exact ⟨by rw [Ho.out]; rfl, Hw.out.trans (hbk.mono Hw.out.size)⟩
  · have Hr := Lib.hid (cp_ak (l := l) h0)
    rw [Hr.out]
    generalize akR b item prop = e0 at h0 ca ⊢
    have he1 : (e0 == 0) = false := by simpa using h0
    have he2 : (e0 != 0) = true := by simpa using h0
    clear h h' hI hR hl hs hb0 hw0 hL Hr
    go_enter Tryd.func46, Tryd.ntmps46
    go_wp2_with (go_at_call 85; rw [← hW0]; clear hW0; refine ca.out.mono ?_; rintro e w1 ⟨rfl, hd1⟩)
    go_ret
    exact ⟨rfl, Hw.out.trans (hd1.mono Hw.out.size)⟩
end Go.Proofs.YtgoojcjfhghmgaaDoor


set_option linter.unusedSimpArgs false
namespace Go.Proofs.YtgoojcjfhghmgaaDoor
open Go.RowKit

set_option maxRecDepth 100000 in
set_option maxHeartbeats 4000000 in
theorem Explain_any (AI AR : Option Addr) (cI cR B : Nat) (b : Bk) (item prop : Int) (w : World) (hB : B ≤ w.heap.size) (h : ItsAt B w AI b.its) (h' : RusAt B w AR b.rus) (hs : Short b) (hT : Tab w) :
    Calls Tryd.prog 41 #[.agg #[.int .i64 b.p, .slice AI b.its.length cI, .slice AR b.rus.length cR], .int .i64 item, .int .i64 prop] w
      fun e w' => ∃ A c ok l, e = .returned (.tuple #[.slice A (List.length l) c, .bool ok, .int .i64 (akR b item prop)]) ∧ StAt w'.heap.size w' A l ∧ ExR b item prop ok l ∧ Below w.heap.size w w' := by
  obtain ⟨W0, hW0⟩ : ∃ W0, W0 = (w.alloc (.cells #[.int .i64 b.p, .slice AI b.its.length cI, .slice AR b.rus.length cR] 25)).alloc (.cells #[.int .i64 prop] 3) := ⟨_, rfl⟩
  have hw0 : Below w.heap.size w W0 := by rw [hW0]; exact balloc (balloc (Below.refl _ _) _) _
  have hb0 : Blk W0 w.heap.size 25 #[.int .i64 b.p, .slice AI b.its.length cI, .slice AR b.rus.length cR] := by rw [hW0]; exact (Blk.new w 25 _).alloc _
  have hb1 : Blk W0 (w.heap.size + 1) 3 #[.int .i64 prop] := by rw [hW0]; exact blk_new' (by simp only [World.size_alloc])
  have hlt : w.heap.size < W0.heap.size := hb0.lt
  have hlt1 : w.heap.size + 1 < W0.heap.size := hb1.lt
  have h0w := h.below (Below.refl _ _) hB
  have h1w := h'.below (Below.refl _ _) hB
  have hI := h0w.below hw0 (Nat.le_of_lt hlt)
  have hR := h1w.below hw0 (Nat.le_of_lt hlt)
  have hT0 := hT.below hw0 hT.2
  have ca := Lib.hid (asked_any AI AR cI cR W0.heap.size b item prop W0 (Nat.le_refl _) hI hR hs)
  have Hw := Lib.hid hw0
  have HX := Lib.hid (fun W (hW : Below W0.heap.size W0 W) => And.intro (blk3 (hb0.below hW hlt)) (blk1 (hb1.below hW hlt1)))
  have HB0 := Lib.hid hb0
  have HB1 := Lib.hid hb1
  have tok := Lib.hid (Nat.le_refl 0)
  by_cases h0 : akR b item prop = 0
  · obtain ⟨hn0, hp0, hp1⟩ := ak_zero h0
    obtain ⟨hv0, hi0, hi1⟩ := nm_zero hn0
    have hv := vl_zero hv0
    obtain ⟨m, rfl⟩ := Int.eq_ofNat_of_zero_le hi0
    obtain ⟨pn, rfl⟩ := Int.eq_ofNat_of_zero_le hp0
    obtain ⟨n, hn⟩ := Int.eq_ofNat_of_zero_le hv.p0
    have hn10 : n ≤ 10 := by have := hv.p1; omega
    have hpn : pn < n := by omega
    have hm : m < b.its.length := by omega
    have hm1 : ((m : Int)).toNat = m := by omega
    have hm2 : ((pn : Int)).toNat = pn := by omega
    have hpn0 : b.p.toNat = n := by omega
    have hni := hv.ni
    have hnr := hv.nr
    have HEnd := Lib.hid (fun l (hg : Gr b m pn l) (hc : Cov2 b m pn n 0 l) => ExR.good (b := b) (item := (m : Int)) (prop := (pn : Int)) h0 (l := l) hg (by rw [hpn0]; exact hc))
    rw [hm2] at HEnd
    have hcl := cnS_lt hv hm
    have hc60 : cnS b m < 1152921504606846976 := Nat.lt_of_lt_of_le hcl (Nat.le_trans (Nat.pow_le_pow_right (by decide) (show m + 1 ≤ 60 by omega)) (by decide))
    have hbl : (bl (cnS b m)).length ≤ 20 := by have := bl_length hcl (by omega); omega
    have Hbi := Lib.hid (show ∀ i ∈ bl (cnS b m), i < b.its.length from fun i hi2 => by have := bl_lt hcl (by omega) hi2; omega)
    have c68 := Lib.hid (fun W (hW : Below W0.heap.size W0 W) => contained_any AI AR cI cR W0.heap.size b m W hW.size (hI.below hW (Nat.le_refl _)) hv hm)
    have c65 := Lib.hid (fun W (hW : Below W0.heap.size W0 W) => list_any (cnS b m) hc60 W (hT0.below hW hT0.2) (by omega))
    have Rg1 := Lib.hid (fun i q K (hi : i ∈ bl (cnS b m)) (hq : q ∈ hasL b i) => rg_step1 (K := K) hv hm hi hq)
    have Rg2 := Lib.hid (fun i K (hi : i < b.rus.length) h => rg_step2 (m := m) (K := K) hv hi h)
    have Hbs := Lib.hid (show bsTo b (bl (cnS b m)) (bl (cnS b m)).length = bsS b m by simp [bsTo, bsS])
    have Hsn := Lib.hid (fun k (hk : k < (bl (cnS b m)).length) => bsTo_succ b hk)
    have Hbs0 := Lib.hid (show bsTo b (bl (cnS b m)) 0 = 0 by simp [bsTo])
    have Hsh := Lib.hid (fun l (hg : Gr b m pn l) => hg.short hv)
    have Hkl := Lib.hid (fun l (hg : Gr b m pn l) => show kS l < 2 ^ 10 from by
      have h1 := kS_lt' hg.prf
      rw [hpn0] at h1
      exact Nat.lt_of_lt_of_le h1 (Nat.pow_le_pow_right (by decide) hn10))
    have Hhas := Lib.hid (fun i (hil : i < b.its.length) => show ∃ bb off A2 c2, AI = some ⟨bb, off, none⟩ ∧ bb < w.heap.size ∧ w.cell? ⟨bb, off + i * 2 + 1, none⟩ = some (.slice A2 (hasL b i).length c2) ∧ IntsAt w.heap.size w A2 (intL (hasL b i)) ∧ (hasL b i).length ≤ 40 ∧ ∀ x ∈ hasL b i, x < n from by
      obtain ⟨bb, off, A1, c1, A2, c2, e, hbB, _, e1, _, i2⟩ := h0w i hil
      have hpr : hasL b i = natL b.its[i].2 := by simp [hasL, hil]
      have hin : intL (hasL b i) = b.its[i].2 := by rw [hpr]; exact int_nat fun x hx => (isS_mem (hv.parts i hil).2.2 x hx).1
      have hlen : b.its[i].2.length = (hasL b i).length := by rw [hpr, natL_length]
      have h40 := (hs.2.2.1 b.its[i] (List.getElem_mem hil)).2
      have hlt := hasL_lt hv hil
      rw [hpn0] at hlt
      rw [hlen] at e1 h40
      rw [← hin] at i2
      exact ⟨bb, off, A2, c2, e, hbB, e1, i2, h40, hlt⟩)
    have Hrul := Lib.hid (fun i (hil : i < b.rus.length) => show ∃ bb off A1 c1, AR = some ⟨bb, off, none⟩ ∧ bb < w.heap.size ∧ w.cell? ⟨bb, off + i * 2, none⟩ = some (.slice A1 (natL b.rus[i].1).length c1) ∧ w.cell? ⟨bb, off + i * 2 + 1, none⟩ = some (.int .i64 b.rus[i].2) ∧ IntsAt w.heap.size w A1 (intL (natL b.rus[i].1)) ∧ (natL b.rus[i].1).length ≤ 40 ∧ (∀ x ∈ natL b.rus[i].1, x < n) ∧ 0 ≤ b.rus[i].2 ∧ b.rus[i].2 < (n : Int) from by
      obtain ⟨bb, off, A1, c1, e, hbB, e0, e1, i1⟩ := h1w i hil
      obtain ⟨hset, ht0, htp⟩ := ruOk_mem (hv.rules b.rus[i] (List.getElem_mem hil))
      rw [hn] at hset htp
      have hin : intL (natL b.rus[i].1) = b.rus[i].1 := int_nat fun x hx => (isS_mem hset x hx).1
      have hlen : b.rus[i].1.length = (natL b.rus[i].1).length := by rw [natL_length]
      have h40 := hs.2.2.2 b.rus[i] (List.getElem_mem hil)
      rw [hlen] at e0 h40
      rw [← hin] at i1
      exact ⟨bb, off, A1, c1, e, hbB, e0, e1, i1, h40, natL_lt (isS_mem hset), ht0, htp⟩)
    rw [h0] at ca ⊢
    rw [hn] at ca c68 HX HB0 hW0 ⊢
    generalize cnS b m = C at *
    generalize bl C = L at *
    clear h h' h0w h1w hI hR hs hb0 hb1 hw0 h0 hv hi0 hi1 hn0 hv0 hT hT0 hcl hc60 hp0 hp1 hn hm1 hm2
    go_enter Tryd.func41, Tryd.ntmps41
    go_wp2_with (first
      | (have tk := tok; clear tok; go_at_call 85; rw [← hW0]; clear hW0; refine ca.out.mono ?_; rintro e w1 ⟨rfl, hd1⟩; have hb2 := balloc (balloc hd1 (.cells #[.slice none 0 0] 53)) (.cells #[.int .i64 0] 3); obtain ⟨⟨z0, z1, z2, _⟩, y0, _⟩ := HX.out _ hb2; have tok2 := tk)
      | (have tk := tok2; clear tok2; go_at_call 68; refine (c68.out _ hb2).mono ?_; rintro e w2 ⟨rfl, hC, hd2⟩; have hb3 := hb2.trans (hd2.mono hb2.size); have tok3 := tk; clear z0 z1 z2 y0)
      | (have tk := tok3; clear tok3; go_at_call 65; refine (c65.out _ hb3).mono ?_; rintro e w3 ⟨v3, rfl, hown3, hd3⟩; have hb4 := hb3.trans (hd3.mono hb3.size); obtain ⟨A3, c3, rfl⟩ := own_slice hown3))
    have hV3 := hd2.trans (hd3.mono hd2.size)
    obtain ⟨X, hXe⟩ : ∃ X, X = w1.heap.size := ⟨_, rfl⟩
    obtain ⟨lo, hle⟩ : ∃ lo, lo = w3.heap.size := ⟨_, rfl⟩
    have hX1 : w.heap.size + 1 < X := by have := hd1.size; omega
    have hszV : ((w1.alloc (.cells #[.slice none 0 0] 53)).alloc (.cells #[.int .i64 0] 3)).heap.size = X + 2 := by simp only [World.size_alloc]; omega
    have hX2 : X + 2 ≤ w2.heap.size := by have := hd2.size; omega
    have hX3 : w2.heap.size ≤ lo := by have := hd3.size; omega
    have HE0 := Lib.hid (show ExAt X lo [] w3 from ⟨⟨.slice none 0 0, by rw [hXe]; exact ((Blk.new w1 53 #[.slice none 0 0]).alloc (.cells #[.int .i64 0] 3)).below hV3 (by omega), World.ownsRow_nil _ _ _ _⟩, by rw [hXe]; exact (blk_new' (by simp only [World.size_alloc])).below hV3 (by omega)⟩)
    have HO := Lib.hid hown3
    have HF := Lib.hid (fun wr (ht : Two X (X + 1) lo w3 wr) => show wr.cell? ⟨w.heap.size, 0, none⟩ = some (.int .i64 n) ∧ wr.cell? ⟨w.heap.size, 1, none⟩ = some (.slice AI b.its.length cI) ∧ wr.cell? ⟨w.heap.size, 2, none⟩ = some (.slice AR b.rus.length cR) ∧ Blk wr (w.heap.size + 1) 3 #[.int .i64 pn] ∧ Below w.heap.size w wr ∧ lo ≤ wr.heap.size from by
      obtain ⟨⟨z0, z1, z2, _⟩, _⟩ := HX.out w3 hb4
      exact ⟨ht.cell z0 (by omega) (by omega) (by omega), ht.cell z1 (by omega) (by omega) (by omega), ht.cell z2 (by omega) (by omega) (by omega), ht.blk (HB1.out.below hb4 hlt1) (by omega) (by omega) (by omega), (Hw.out.trans (hb4.mono Hw.out.size)).trans (ht.below (by omega) (by omega) (by omega)), by have := ht.size; omega⟩)
    have Hle := Lib.hid hle
    rw [← hXe]
    clear hV3 hszV hXe hle hown3 hb2 hb3 hb4 hd1 hd2 hd3 HX HB0 HB1 ca c68 c65 tk
    go_loopw [32] (fun s32 wr => ∃ (k : Nat) (l : List St), k ≤ L.length ∧ s32 = .int .i64 k ∧ Aside (Gr b m pn l) ∧ Aside (Cov pn l (bsTo b L k)) ∧ Aside (ExAt X lo l wr) ∧ Aside (Two X (X + 1) lo w3 wr)) (fun s32 _ => L.length - (intOf s32).toNat)
    case atStart => exact ⟨0, [], Nat.zero_le _, rfl, Gr.nil _ _ _, by rw [Hbs0.out]; exact Cov.start _ _, HE0.out, Two.refl _ _ _ _⟩
    case round =>
      clear HE0
      obtain ⟨k, l, hk, rfl, hg, hc, he, ht⟩ := hrel
      have HG := Lib.hid hg.out
      have HC := Lib.hid hc.out
      have HE := Lib.hid he.out
      have HT := Lib.hid ht.out
      clear hg hc he ht
      obtain ⟨z0, z1, z2, hbp, hbw, hlw⟩ := HF.out wr HT.out
      by_cases hlt2 : k < L.length
      · obtain ⟨g5, rfl, hg5, hg6, hcell⟩ := own_cell HO.out hlt2 (natV_get hlt2)
        have hil := Hbi.out L[k] (List.getElem_mem hlt2)
        obtain ⟨bb, off, A2, c2, rfl, hbB, e1, i2, h40, hHn⟩ := Hhas.out L[k] hil
        have c5 := HT.out.cell hcell (by have := Hle.out; omega) (by omega) (by omega)
        have d1 := (hbw.cell (p := ⟨bb, off + L[k] * 2 + 1, none⟩) hbB).trans e1
        have Hs := Lib.hid (Hsn.out k hlt2)
        have Rg := Lib.hid (fun q K (hq : q ∈ hasL b L[k]) => Rg1.out L[k] q K (List.getElem_mem hlt2) hq)
        have HI2 := Lib.hid i2
        have HHn := Lib.hid hHn
        generalize hasL b L[k] = H at h40 d1 Hs Rg HI2 HHn
        generalize L[k] = y at hil c5 d1 Rg
        have y0 : (0 : Int) ≤ (y : Int) := by omega
        have y1 : (y : Int) < (b.its.length : Int) := by omega
        clear hcell e1 i2 hHn hbp
        obtain ⟨W1, hW1⟩ : ∃ W1, W1 = wr := ⟨_, rfl⟩
        subst hW1
        go_wp2_with fail
        clear z0 z1 z2 c5 d1
        go_loopw [43] (fun s43 wy => ∃ (j : Nat) (l2 : List St), j ≤ H.length ∧ s43 = .int .i64 j ∧ Aside (Gr b m pn l2) ∧ Aside (Cov pn l2 (bsTo b L k ||| mkTo H j)) ∧ Aside (ExAt X lo l2 wy) ∧ Aside (Two X (X + 1) lo w3 wy)) (fun s43 _ => H.length - (intOf s43).toNat)
        case atStart => exact ⟨0, l, Nat.zero_le _, rfl, HG.out, by rw [mkTo_zero, Nat.or_zero]; exact HC.out, HE.out, HT.out⟩
        case round =>
          clear HG HC HE HT hbw hlw
          obtain ⟨j, l2, hj, rfl, hg, hc, he, ht⟩ := hrel
          have HG := Lib.hid hg.out
          have HC := Lib.hid hc.out
          have HE := Lib.hid he.out
          have HT := Lib.hid ht.out
          clear hg hc he ht
          by_cases hjl : j < H.length
          · obtain ⟨b3, o3, rfl, hb3, c3'⟩ := HI2.out.at (k := j) (by simp [intL]; omega)
            have e3 : (intL H)[j]'(by simp [intL]; omega) = ((H[j] : Nat) : Int) := by simp [intL]
            rw [e3] at c3'
            obtain ⟨_, _, _, hbp, hbw, hlw⟩ := HF.out wr HT.out
            have c4 := (hbw.cell (p := ⟨b3, o3 + j, none⟩) hb3).trans c3'
            have hq := HHn.out H[j] (List.getElem_mem hjl)
            have hsh := Hsh.out l2 HG.out
            have c86 := Lib.hid (add_any (w.heap.size + 1) X lo pn H[j] (y : Int) (-1) l2 wr (by omega) hlw hbp (Hkl.out l2 HG.out) (by omega) (by omega) (by omega) HE.out)
            have HG3 := Lib.hid (HG.out.add (s := (((H[j] : Nat) : Int), (y : Int), -1)) (Rg.out H[j] (kS l2) (List.getElem_mem hjl)))
            have HC3 := Lib.hid (HC.out.add (s := (((H[j] : Nat) : Int), (y : Int), -1)))
            have Hm := Lib.hid (mkTo_succ hjl)
            clear c3' e3 hbp hbw hlw
            generalize H[j] = q at c4 hq c86 HG3 HC3 Hm
            go_wp2_with (go_at_call 86; refine c86.out.mono ?_; rintro e w5 ⟨rfl, he5, ht5⟩)
            go_roundw
            case rel => exact ⟨j + 1, _, by omega, by go_num, HG3.out, by rw [Hm.out, ← Nat.or_assoc]; exact HC3.out, he5, HT.out.trans ht5⟩
            case measure => simp [intOf]; omega
          · obtain rfl : j = H.length := by omega
            go_wp2_with fail
            go_roundw
            case rel => exact ⟨k + 1, l2, by omega, by go_num, HG.out, by rw [Hs.out, ← mkTo_all]; exact HC.out, HE.out, HT.out⟩
            case measure => simp [intOf]; omega
      · obtain rfl : k = L.length := by omega
        have HC0 := Lib.hid (Cov2.start (b := b) (item := m) (l := l) (by rw [← Hbs.out]; exact HC.out))
        clear HC hbp hbw hlw Rg1 Hbi Hhas Hbs Hsn
        go_wp2_with fail
        clear z0 z1 z2
        go_loopw [56] (fun s56 wx => ∃ (j : Nat) (l2 : List St), j ≤ n ∧ s56 = .int .i64 j ∧ Aside (Gr b m pn l2) ∧ Aside (Cov2 b m pn j 0 l2) ∧ Aside (ExAt X lo l2 wx) ∧ Aside (Two X (X + 1) lo w3 wx)) (fun s56 _ => n - (intOf s56).toNat)
        case atStart => exact ⟨0, l, Nat.zero_le _, rfl, HG.out, HC0.out, HE.out, HT.out⟩
        case round =>
          clear HG HC0 HE HT
          obtain ⟨j, l2, hj, rfl, hg, hc, he, ht⟩ := hrel
          have HG := Lib.hid hg.out
          have HC := Lib.hid hc.out
          have HE := Lib.hid he.out
          have HT := Lib.hid ht.out
          clear hg hc he ht
          obtain ⟨z0, z1, z2, hbp, hbw, hlw⟩ := HF.out wr HT.out
          by_cases hjn : j < n
          · obtain ⟨W2, hW2⟩ : ∃ W2, W2 = wr := ⟨_, rfl⟩
            subst hW2
            go_wp2_with fail
            clear z0 z1 z2 hbp hbw hlw
            go_loopw [61] (fun s61 wy => ∃ (i : Nat) (l3 : List St), i ≤ b.rus.length ∧ s61 = .int .i64 i ∧ Aside (Gr b m pn l3) ∧ Aside (Cov2 b m pn j i l3) ∧ Aside (ExAt X lo l3 wy) ∧ Aside (Two X (X + 1) lo w3 wy)) (fun s61 _ => b.rus.length - (intOf s61).toNat)
            case atStart => exact ⟨0, l2, Nat.zero_le _, rfl, HG.out, HC.out, HE.out, HT.out⟩
            case round =>
              clear HG HC HE HT
              obtain ⟨i, l3, hi, rfl, hg, hc, he, ht⟩ := hrel
              have HG := Lib.hid hg.out
              have HC := Lib.hid hc.out
              have HE := Lib.hid he.out
              have HT := Lib.hid ht.out
              clear hg hc he ht
              by_cases hil : i < b.rus.length
              · obtain ⟨_, _, _, hbp, hbw, hlw⟩ := HF.out wr HT.out
                obtain ⟨bb, off, A1, c1, rfl, hbB, e0, e1, i1, h40, hqn, ht0, htp⟩ := Hrul.out i hil
                have d0 := (hbw.cell (p := ⟨bb, off + i * 2, none⟩) hbB).trans e0
                have d1 := (hbw.cell (p := ⟨bb, off + i * 2 + 1, none⟩) hbB).trans e1
                have hmk := mk_lt hqn
                have p10 : (2 : Nat) ^ n ≤ 2 ^ 10 := Nat.pow_le_pow_right (by decide) hn10
                have hkl := Hkl.out l3 HG.out
                have hsh := Hsh.out l3 HG.out
                have ka := andNot_all (l := natL b.rus[i].1) (r := kS l3) (by omega) hkl
                have Hsk := Lib.hid (fun h => HC.out.skip hil h)
                have Hst := Lib.hid (fun (s : St) h1 h2 h => HC.out.step (s := s) hil h1 h2 h)
                have Rg := Lib.hid (Rg2.out i (kS l3) hil)
                obtain ⟨t, hte⟩ := Int.eq_ofNat_of_zero_le ht0
                rw [hte] at d1 htp Rg Hst
                generalize natL b.rus[i].1 = LL at d0 i1 h40 hqn ka Hsk Hst Rg
                obtain ⟨W1, hW1⟩ : ∃ W1, W1 = wr.alloc (.cells #[.slice A1 LL.length c1, .int .i64 t] 42) := ⟨_, rfl⟩
                have hW1t : Two X (X + 1) lo wr W1 := by rw [hW1]; exact Two.of_below ((Below.refl _ wr).alloc (Nat.le_refl _) _) hlw
                have HE1 := Lib.hid (show ExAt X lo l3 W1 from by rw [hW1]; exact HE.out.alloc _)
                have HY1 := Lib.hid (show Blk W1 wr.heap.size 42 #[.slice A1 LL.length c1, .int .i64 t] from by rw [hW1]; exact Blk.new wr 42 _)
                have HT1 := Lib.hid (HT.out.trans hW1t)
                have hbw1 : Below w.heap.size w W1 := hbw.trans (hW1t.below (by omega) (by omega) (by omega))
                have Keep := Lib.hid (fun W (hW : Below W1.heap.size W1 W) => show W.cell? ⟨wr.heap.size, 0, none⟩ = some (.slice A1 LL.length c1) ∧ W.cell? ⟨X + 1, 0, none⟩ = some (.int .i64 (kS l3 : Nat)) ∧ Below W1.heap.size W1 W from
                  ⟨(hW.cell (p := ⟨wr.heap.size, 0, none⟩) HY1.out.lt).trans (HY1.out.cell 0), (hW.cell (p := ⟨X + 1, 0, none⟩) HE1.out.bn.lt).trans (HE1.out.bn.cell 0), hW⟩)
                have c76 := Lib.hid (mask_any A1 c1 w.heap.size LL W1.drew (i1.below hbw1.drew (Nat.le_refl _)) (by omega) (fun x hx => by have := hqn x hx; omega))
                have hbp1 := hW1t.blk hbp (by omega) (by omega) (by omega)
                have hlw1 : lo ≤ W1.heap.size := by have := hW1t.size; omega
                have c86 := Lib.hid (fun W (hE : ExAt X lo l3 W) (hbp2 : Blk W (w.heap.size + 1) 3 #[.int .i64 pn]) (hl2 : lo ≤ W.heap.size) => add_any (w.heap.size + 1) X lo pn t (-1) (i : Int) l3 W (by omega) hl2 hbp2 hkl (by omega) (by omega) (by omega) hE)
                have hS := Keep.out _ (Below.refl W1.heap.size W1).drew
                have HE2 := Lib.hid HE1.out.drew
                have HP2 := Lib.hid hbp1.drew
                have HGa := Lib.hid (fun h => HG.out.add (s := ((t : Int), -1, (i : Int))) h)
                have k0 : (0 : Int) ≤ (i : Int) := by omega
                have k1 : (i : Int) < (b.rus.length : Int) := by omega
                have htn : t < n := by omega
                have HL2 := Lib.hid (show lo ≤ W1.drew.heap.size from hlw1)
                have HT2 := Lib.hid HT1.out.drew
                have x1' : W1.drew.cell? ⟨wr.heap.size, 1, none⟩ = some (.int .i64 t) := HY1.out.cell 1
                clear e0 e1 i1 hqn hmk p10 hkl ht0 hte htp hW1t hbw1 hbp1 hlw1 Keep hbp hbw hlw HC
                generalize hal : allB (kS l3) LL = al at ka Hsk Hst Rg
                go_wp2_with fail
                rw [← hW1]
                clear hW1
                refine wp_region_E (S := fun W => W.cell? ⟨wr.heap.size, 0, none⟩ = some (.slice A1 LL.length c1) ∧ W.cell? ⟨X + 1, 0, none⟩ = some (.int .i64 (kS l3 : Nat)) ∧ Below W1.heap.size W1 W) (E := fun _ => false) (by kernel_rfl) ?_
                refine anyE_tk 0 66 (oi := ?oi1) (v := ?v1) ?hi1 ?hd1 (by kernel_rfl) (by kernel_rfl) (by kernel_rfl) ?hQ1 ?hy1 hS ?rest1
                case hi1 => simp only [List.getElem?_toArray, List.getElem?_cons_zero, List.getElem?_cons_succ]; rfl
                case hd1 => rfl
                case hQ1 => exact fun _ _ _ h => h
                case hy1 => (refine Or.inl ⟨by rfl, ?_⟩; intro w hSw; (try dsimp only at hSw); go_simp; try with_reducible rfl)
                simp only [List.setIfInBounds_toArray, List.set_cons_zero, List.set_cons_succ]
                refine anyE_tk 1 67 (oi := ?oi2) (v := ?v2) ?hi2 ?hd2 (by kernel_rfl) (by kernel_rfl) (by kernel_rfl) ?hQ2 ?hy2 hS ?rest2
                case hi2 => simp only [List.getElem?_toArray, List.getElem?_cons_zero, List.getElem?_cons_succ]; rfl
                case hd2 => rfl
                case hQ2 => exact fun _ _ _ h => h
                case hy2 => (refine Or.inl ⟨by rfl, ?_⟩; intro w hSw; (try dsimp only at hSw); go_simp; try with_reducible rfl)
                simp only [List.setIfInBounds_toArray, List.set_cons_zero, List.set_cons_succ]
                refine anyE_tk 3 69 (oi := ?oi3) (v := ?v3) ?hi3 ?hd3 (by kernel_rfl) (by kernel_rfl) (by kernel_rfl) ?hQ3 ?hy3 hS ?rest3
                case hi3 => simp only [List.getElem?_toArray, List.getElem?_cons_zero, List.getElem?_cons_succ]; rfl
                case hd3 => rfl
                case hQ3 => exact fun _ _ _ h => h
                case hy3 => (refine Or.inl ⟨by rfl, ?_⟩; intro w hSw; (try dsimp only at hSw); go_simp; try with_reducible rfl)
                simp only [List.setIfInBounds_toArray, List.set_cons_zero, List.set_cons_succ]
                refine anyE_one (i := 2) (o := ?oi4) (by kernel_rfl) ?hi4 (fun K hK => ?step4)
                case hi4 => simp only [List.getElem?_toArray, List.getElem?_cons_zero, List.getElem?_cons_succ]; rfl
                go_simp
                refine c76.out.mono ?_
                rintro e w6 ⟨rfl, rfl⟩
                go_wp2_with fail
                refine hK.out _ _ (fun _ => hS) ?_
                clear hK K
                try simp only [Act.put, List.setIfInBounds_toArray, List.set_cons_zero, List.set_cons_succ]
                refine anyE_tk 4 70 (oi := ?oi5) (v := ?v5) ?hi5 ?hd5 (by kernel_rfl) (by kernel_rfl) (by kernel_rfl) ?hQ5 ?hy5 hS ?rest5
                case hi5 => simp only [List.getElem?_toArray, List.getElem?_cons_zero, List.getElem?_cons_succ]; rfl
                case hd5 => rfl
                case hQ5 => exact fun _ _ _ h => h
                case hy5 => (refine Or.inl ⟨by rfl, ?_⟩; intro w hSw; (try dsimp only at hSw); go_simp; try with_reducible rfl)
                simp only [List.setIfInBounds_toArray, List.set_cons_zero, List.set_cons_succ]
                refine anyE_tk 5 71 (oi := ?oi6) (v := ?v6) ?hi6 ?hd6 (by kernel_rfl) (by kernel_rfl) (by kernel_rfl) ?hQ6 ?hy6 hS ?rest6
                case hi6 => simp only [List.getElem?_toArray, List.getElem?_cons_zero, List.getElem?_cons_succ]; rfl
                case hd6 => rfl
                case hQ6 => exact fun _ _ _ h => h
                case hy6 => (refine Or.inl ⟨by rfl, ?_⟩; intro w hSw; (try dsimp only at hSw); go_simp; try with_reducible rfl)
                simp only [List.setIfInBounds_toArray, List.set_cons_zero, List.set_cons_succ]
                refine anyE_done (by kernel_rfl) ?_ _
                cases al with
                | false =>
                  have HCs := Lib.hid (Hsk.out rfl)
                  go_wp2_with fail
                  go_roundw
                  case rel => exact ⟨i + 1, l3, by omega, by go_num, HG.out, HCs.out, HE2.out, HT2.out⟩
                  case measure => simp [intOf]; omega
                | true =>
                  have HG3 := Lib.hid (HGa.out (Rg.out rfl))
                  have HC3 := Lib.hid (Hst.out ((t : Int), -1, (i : Int)) rfl (show t < b.p.toNat by rw [hpn0]; exact htn) rfl)
                  go_wp2_with (go_at_call 86; refine (c86.out _ HE2.out HP2.out HL2.out).mono ?_; rintro e w7 ⟨rfl, he7, ht7⟩)
                  go_roundw
                  case rel => exact ⟨i + 1, _, by omega, by go_num, HG3.out, HC3.out, he7, HT2.out.trans ht7⟩
                  case measure => simp [intOf]; omega
              · obtain rfl : i = b.rus.length := by omega
                have HCn := Lib.hid HC.out.next
                go_wp2_with fail
                go_roundw
                case rel => exact ⟨j + 1, l3, by omega, by go_num, HG.out, HCn.out, HE.out, HT.out⟩
                case measure => simp [intOf]; omega
          · obtain rfl : j = n := by omega
            have HX2 := Lib.hid (HEnd.out l2 HG.out HC.out)
            obtain ⟨⟨v, hbv, hown⟩, hbn⟩ := HE.out
            obtain ⟨A9, c9, rfl⟩ := own_slice hown
            have HS9 := Lib.hid (StAt.of_own hown)
            have Hbw := Lib.hid hbw
            obtain ⟨u0, _⟩ := blk1 hbn
            obtain ⟨u1, _⟩ := blk1 hbp
            obtain ⟨u2, _⟩ := blk1 hbv
            have hK60 : kS l2 < 2 ^ 60 := Nat.lt_of_lt_of_le (Hkl.out l2 HG.out) (by decide)
            have hm1 : min pn 64 = pn := by omega
            have kk := bit_test hK60 (i := pn)
            cases hbt : (kS l2).testBit pn with
            | false =>
              rw [hbt] at HX2 kk
              simp only [Bool.false_eq_true, if_false] at kk HX2
              clear hown hbv hbn hbw
              go_wp2_with fail
              refine bodyPost_ret (results_tmp3 rfl _ _ _) rfl ?_
              exact ⟨none, 0, false, [], rfl, fun k hk => absurd hk (Nat.not_lt_zero k), HX2.out, Hbw.out⟩
            | true =>
              rw [hbt] at HX2 kk
              simp only [if_true] at kk HX2
              clear hown hbv hbn hbw
              go_wp2_with fail
              refine bodyPost_ret (results_tmp3 rfl _ _ _) rfl ?_
              exact ⟨A9, c9, true, l2, rfl, HS9.out, HX2.out, Hbw.out⟩
  · have h0d : (akR b item prop == 0) = false := by simpa using h0
    have h0e : (akR b item prop != 0) = true := by simpa using h0
    have HR := Lib.hid (ExR.bad h0)
    generalize akR b item prop = e0 at *
    clear h h' h0w h1w hI hR hs hb0 hb1 hw0 hT hT0 HB0 HB1 h0
    go_enter Tryd.func41, Tryd.ntmps41
    go_wp2_with (go_at_call 85; rw [← hW0]; clear hW0; refine ca.out.mono ?_; rintro e w1 ⟨rfl, hd1⟩)
    refine bodyPost_ret (results_tmp3 rfl _ _ _) rfl ?_
    exact ⟨none, 0, false, [], rfl, fun k hk => absurd hk (Nat.not_lt_zero k), HR.out, Hw.out.trans (hd1.mono Hw.out.size)⟩
end Go.Proofs.YtgoojcjfhghmgaaDoor
