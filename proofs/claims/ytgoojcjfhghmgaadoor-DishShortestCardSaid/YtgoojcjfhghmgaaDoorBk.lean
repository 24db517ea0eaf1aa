/- OnesCount of small numbers. -/
import Derived.Test.YtgoojcjfhghmgaaDoorBg
import Derived.Test.YtgoojcjfhghmgaaDoorBj
import Derived.Test.YtgoojcjfhghmgaaDoorBe
import Derived.Test.YtgoojcjfhghmgaaDoorBf
import Derived.Test.YtgoojcjfhghmgaaDoorBd

namespace Go.Proofs.YtgoojcjfhghmgaaDoor
open Go.RowKit

set_option maxRecDepth 100000 in
set_option maxHeartbeats 4000000 in
theorem ones64 : ∃ F : Nat → Int, (∀ (x : Nat) (w : World), x < 1024 → Calls Tryd.prog 115 #[.int .u64 (x : Int)] w fun e w' => e = .returned (.int .i64 (F x)) ∧ w' = w) ∧ ∀ x, x < 1024 → F x = cntB x 10 := by
  refine ⟨?F, ?a, ?b⟩
  case a =>
    intro x w hx
    go_enter Tryd.func115, Tryd.ntmps115
    go_wp2_with fail
    go_ret
    refine ⟨?_, rfl⟩
    show Ending.returned (Value.int .i64 _) = _
    rfl
  case b => decide +kernel

set_option maxRecDepth 100000 in
set_option maxHeartbeats 4000000 in
theorem ones_any (x : Nat) (w : World) (hx : x < 1024) : Calls Tryd.prog 99 #[.int .u64 (x : Int)] w fun e w' => e = .returned (.int .i64 (cntB x 10 : Nat)) ∧ w' = w := by
  obtain ⟨F, h1, h2⟩ := ones64
  have c := Lib.hid (h1 x w hx)
  rw [h2 x hx] at c
  clear h1 h2
  have hu : IntKind.u64.wrap (x : Int) = (x : Int) := by rw [IntKind.wrap_u64]; omega
  go_enter Tryd.func99, Tryd.ntmps99
  go_wp2_with (go_at_call 115; refine c.out.mono ?_; rintro e w1 ⟨rfl, rfl⟩)
  go_ret
  exact ⟨rfl, rfl⟩
end Go.Proofs.YtgoojcjfhghmgaaDoor

/- The fewest properties of a proof; plain. -/
namespace Go.Proofs.YtgoojcjfhghmgaaDoor
open Go.RowKit

/-- A set of properties that follow within it. -/
def Gd (b : Bk) (m s : Nat) : Prop := Cl b.rus (bsS b m &&& s) (fun q => s.testBit q) s
/-- The rules within a set. -/
def inR (s : Nat) (l : List Ru) : List Ru := l.filter fun r => s.testBit r.2.toNat && allB s (natL r.1)
theorem gd_any {b : Bk} {m s x : Nat} (h : Cl b.rus (bsS b m &&& s) (fun q => s.testBit q) x) : x = s ↔ Gd b m s := by
  constructor
  · rintro rfl; exact h
  · intro hg; exact h.unique hg
theorem gd_ref {b : Bk} {m s y : Nat} (hy : Cl (inR s b.rus) (bsS b m &&& s) allW y) : Sub s y ↔ Gd b m s := by
  have hys : Sub y s := hy.1.2 s (fun q hq => by rw [Nat.testBit_and, Bool.and_eq_true] at hq; exact hq.2) fun r hr _ _ => by
    have := (List.mem_filter.1 hr).2
    rw [Bool.and_eq_true] at this
    exact this.1
  constructor
  · intro hs
    refine ⟨⟨fun q hq => by rw [Nat.testBit_and, Bool.and_eq_true] at hq; exact hq.2, fun z hz hsh q hq => ?_⟩, fun r _ _ h => h⟩
    have := hy.1.2 (z &&& s) (fun q hq => by
      have h2 := hq
      rw [Nat.testBit_and, Bool.and_eq_true] at h2
      rw [Nat.testBit_and, hz q hq, h2.2]; rfl) (fun r hr ha _ => by
        have hf := (List.mem_filter.1 hr)
        have h2 := hf.2
        rw [Bool.and_eq_true] at h2
        rw [Nat.testBit_and, h2.1, Bool.and_true]
        exact hsh r hf.1 (allB_sub (fun q hq => by rw [Nat.testBit_and, Bool.and_eq_true] at hq; exact hq.1) ha) h2.1) q (hs q hq)
    rw [Nat.testBit_and, Bool.and_eq_true] at this
    exact this.1
  · intro hg
    refine hg.1.2 y hy.1.1 fun r hr ha hw => ?_
    refine hy.2 r (List.mem_filter.2 ⟨hr, ?_⟩) ha rfl
    rw [Bool.and_eq_true]
    exact ⟨hw, allB_sub hys ha⟩
/-- The least number of elements, over the sets below k; 0: none. -/
def stepB (g : Nat → Bool) (prop p c s : Nat) : Nat := if s.testBit prop && (c == 0 || decide (cntB s p < c)) && g s then cntB s p else c
def bestN (g : Nat → Bool) (prop p : Nat) : Nat → Nat
  | 0 => 0
  | k + 1 => stepB g prop p (bestN g prop p k) k
theorem cntB_pos {s prop : Nat} (h : s.testBit prop = true) : ∀ n, prop < n → 0 < cntB s n
  | n + 1, hn => by
    unfold cntB
    by_cases e : prop = n
    · subst e; rw [h]; simp
    · have := cntB_pos h n (by omega); omega
theorem best_le {g : Nat → Bool} {prop p : Nat} (hp : prop < p) : ∀ k s, s < k → s.testBit prop = true → g s = true → 0 < bestN g prop p k ∧ bestN g prop p k ≤ cntB s p
  | k + 1, s, hs, hb, hg => by
    show 0 < stepB g prop p (bestN g prop p k) k ∧ stepB g prop p (bestN g prop p k) k ≤ cntB s p
    unfold stepB
    by_cases e : s = k
    · subst e
      have h0 := cntB_pos hb p hp
      rw [hb, hg, Bool.true_and, Bool.and_true]
      split
      · exact ⟨h0, Nat.le_refl _⟩
      · rename_i h
        rw [Bool.or_eq_true, not_or, beq_iff_eq, decide_eq_true_eq] at h
        omega
    · obtain ⟨h1, h2⟩ := best_le hp k s (by omega) hb hg
      split
      · rename_i h
        simp only [Bool.and_eq_true, Bool.or_eq_true, beq_iff_eq, decide_eq_true_eq] at h
        exact ⟨cntB_pos h.1.1 p hp, by omega⟩
      · exact ⟨h1, h2⟩
theorem best_at {g : Nat → Bool} {prop p : Nat} : ∀ k, bestN g prop p k ≠ 0 → ∃ s, s < k ∧ s.testBit prop = true ∧ g s = true ∧ bestN g prop p k = cntB s p
  | 0, h => absurd rfl h
  | k + 1, h => by
    change stepB g prop p (bestN g prop p k) k ≠ 0 at h
    show ∃ s, s < k + 1 ∧ s.testBit prop = true ∧ g s = true ∧ stepB g prop p (bestN g prop p k) k = cntB s p
    unfold stepB at h ⊢
    split at h
    · rename_i hc
      rw [if_pos hc]
      simp only [Bool.and_eq_true] at hc
      exact ⟨k, by omega, hc.1.1, hc.2, rfl⟩
    · rename_i hc
      rw [if_neg hc]
      obtain ⟨s, h1, h2, h3, h4⟩ := best_at k h
      exact ⟨s, by omega, h2, h3, h4⟩
theorem best_small {g : Nat → Bool} {prop p : Nat} : ∀ k, bestN g prop p k ≤ p
  | 0 => Nat.zero_le _
  | k + 1 => by
    show stepB g prop p (bestN g prop p k) k ≤ p
    unfold stepB
    split
    · exact cntB_le _ _
    · exact best_small k
/-- There is a closure. -/
theorem cl_exists {l : List Ru} {m p : Nat} (hm : m < 2 ^ p) (hr : ∀ r ∈ l, r.2.toNat < p) : ∃ x, Cl l m allW x ∧ x < 2 ^ p := by
  have key : ∃ f : Nat → Bool, ∀ q, f q = true ↔ ∀ z, Sub m z → Shut l allW z → z.testBit q = true := ⟨fun q => @decide _ (Classical.propDecidable (∀ z, Sub m z → Shut l allW z → z.testBit q = true)), fun q => by simp⟩
  obtain ⟨f, hf⟩ := key
  have hbit : ∀ q, (sumTo f p).testBit q = true ↔ q < p ∧ f q = true := fun q => by rw [sumTo_bit, Bool.and_eq_true, decide_eq_true_eq]
  refine ⟨sumTo f p, ⟨⟨fun q hq => ?_, fun z hz hs q hq => ?_⟩, fun r hr' ha hw => ?_⟩, sumTo_lt f p⟩
  · rw [hbit, hf]
    refine ⟨?_, fun z hz _ => hz q hq⟩
    by_cases h : q < p
    · exact h
    · rw [Nat.testBit_lt_two_pow (Nat.lt_of_lt_of_le hm (Nat.pow_le_pow_right (by decide) (by omega)))] at hq
      cases hq
  · exact (hf q).1 ((hbit q).1 hq).2 z hz hs
  · rw [hbit, hf]
    refine ⟨hr r hr', fun z hz hs => hs r hr' (allB_sub (fun q hq => (hf q).1 ((hbit q).1 hq).2 z hz hs) ha) hw⟩
theorem lbl_exists {b : Bk} (hv : VBk b) {m : Nat} (hm : m < b.its.length) : ∃ x, Lbl b m x :=
  cl_exists (bsS_lt hv hm) fun r hr => by
    obtain ⟨_, h1, h2⟩ := ruOk_mem (hv.rules r hr)
    omega
/-- A set that follows within it lies in the label. -/
theorem gd_label {b : Bk} {m s x : Nat} (h : Gd b m s) (hx : Lbl b m x) : Sub s x :=
  h.1.2 x (fun q hq => hx.1.1.1 q (by rw [Nat.testBit_and, Bool.and_eq_true] at hq; exact hq.1)) fun r hr ha _ => hx.1.2 r hr ha rfl
/-- The properties of a proof follow within them. -/
theorem Prf.gd {b : Bk} (hv : VBk b) {m : Nat} (hm : m < b.its.length) {l : List St} (h : Prf b m l) : Gd b m (kS l) := by
  refine ⟨⟨fun q hq => by rw [Nat.testBit_and, Bool.and_eq_true] at hq; exact hq.2, fun z hz hs => ?_⟩, fun r _ _ h => h⟩
  have key : ∀ i, i ≤ l.length → Sub (kS (l.take i)) z := fun i => by
    induction i with
    | zero => intro _ q hq; simp [kS] at hq
    | succ i ih =>
      intro hi q hq
      have ih := ih (by omega)
      rw [kS_take (by omega), Nat.testBit_or, Bool.or_eq_true] at hq
      rcases hq with hq | hq
      · exact ih q hq
      · rw [Nat.testBit_two_pow, decide_eq_true_eq] at hq
        subst hq
        have hmem : (kS l).testBit l[i].1.toNat = true := kS_mem (List.getElem_mem (by omega))
        have hr := h i (by omega)
        have hp := rg_prop hr
        unfold rgR at hr
        rw [if_neg (by omega)] at hr
        split at hr
        · simp only [Bool.and_eq_true, decide_eq_true_eq] at hr
          obtain ⟨⟨⟨h0, h1⟩, h2⟩, h3⟩ := hr
          refine hz _ ?_
          rw [Nat.testBit_and, hmem, Bool.and_true]
          unfold bsS
          rw [bsF_bit, Nat.zero_testBit, Bool.false_or, List.any_eq_true]
          have hlt : cnS b m < 18446744073709551616 := Nat.lt_of_lt_of_le (cnS_lt hv hm) (Nat.le_trans (Nat.pow_le_pow_right (by decide) (show m + 1 ≤ 60 by have := hv.ni; omega)) (by decide))
          refine ⟨l[i].2.1.toNat, (mem_bl _ hlt _).2 h2, ?_⟩
          rw [mk_bit, List.contains_iff_mem]
          exact List.mem_map_of_mem (List.contains_iff_mem.1 h3)
        · simp only [Bool.and_eq_true, decide_eq_true_eq] at hr
          obtain ⟨⟨⟨⟨_, h0⟩, h1⟩, h2⟩, h3⟩ := hr
          have hlt : l[i].2.2.toNat < b.rus.length := by omega
          rw [List.getElem?_eq_getElem hlt, Option.getD_some] at h2 h3
          have := hs b.rus[l[i].2.2.toNat] (List.getElem_mem hlt) (allB_sub ih h3) (by rw [h2]; exact hmem)
          rw [h2] at this
          exact this
  have := key l.length (Nat.le_refl _)
  rwa [List.take_length] at this
/-- The fewest properties are no more than those of the proof that is found. -/
theorem short_le {b : Bk} {item prop : Int} {ok : Bool} {l : List St} {g : Nat → Bool} (h0 : akR b item prop = 0) (hg : ∀ s, g s = true ↔ Gd b item.toNat s) (hE : ExR b item prop ok l) (hn : bestN g prop.toNat b.p.toNat (2 ^ b.p.toNat) ≠ 0) :
    Prf b item.toNat l ∧ bestN g prop.toNat b.p.toNat (2 ^ b.p.toNat) ≤ cntB (kS l) b.p.toNat := by
  obtain ⟨hn0, hp0, hp1⟩ := ak_zero h0
  obtain ⟨hv0, hi0, hi1⟩ := nm_zero hn0
  have hv := vl_zero hv0
  rw [ExR, if_pos h0] at hE
  obtain ⟨h1, _, h3⟩ := hE
  obtain ⟨x, hx⟩ := lbl_exists hv (m := item.toNat) (by omega)
  obtain ⟨s, hs1, hs2, hs3, _⟩ := best_at _ hn
  have hok : ok = true := by rw [h1 x hx]; exact gd_label ((hg s).1 hs3) hx _ hs2
  obtain ⟨hG, hb⟩ := h3 hok
  exact ⟨hG.prf, (best_le (by omega) _ _ (kS_lt' hG.prf) hb ((hg _).2 (hG.prf.gd hv (by omega)))).2⟩
end Go.Proofs.YtgoojcjfhghmgaaDoor

/- The fewest properties of a proof: Shortest. -/
set_option linter.unusedSimpArgs false
namespace Go.Proofs.YtgoojcjfhghmgaaDoor
open Go.RowKit

def shR (g : Nat → Bool) (b : Bk) (item prop : Int) : Nat := if akR b item prop = 0 then bestN g prop.toNat b.p.toNat (2 ^ b.p.toNat) else 0
theorem cntB_ext {s p : Nat} (hs : s < 2 ^ p) : ∀ n, p ≤ n → cntB s n = cntB s p := fun n => by
  induction n with
  | zero => intro h; obtain rfl : p = 0 := by omega
            rfl
  | succ n ih =>
    intro h
    by_cases e : p = n + 1
    · rw [e]
    · have := ih (by omega)
      show cntB s n + (if s.testBit n then 1 else 0) = _
      rw [Nat.testBit_lt_two_pow (Nat.lt_of_lt_of_le hs (Nat.pow_le_pow_right (by decide) (by omega)))]
      simpa using this

set_option maxRecDepth 100000 in
set_option maxHeartbeats 1000000 in
theorem Shortest_any (AI AR : Option Addr) (cI cR B : Nat) (b : Bk) (item prop : Int) (g : Nat → Bool) (w : World) (hB : B ≤ w.heap.size) (h : ItsAt B w AI b.its) (h' : RusAt B w AR b.rus) (hs : Short b) (hT : Tab w) (hg : ∀ s, g s = true ↔ Gd b item.toNat s) :
    Calls Tryd.prog 53 #[.agg #[.int .i64 b.p, .slice AI b.its.length cI, .slice AR b.rus.length cR], .int .i64 item, .int .i64 prop] w fun e w' => e = .returned (.tuple #[.int .i64 (shR g b item prop : Nat), .bool (decide (0 < shR g b item prop)), .int .i64 (akR b item prop)]) ∧ Below w.heap.size w w' := by
  obtain ⟨W0, hW0⟩ : ∃ W0, W0 = w.alloc (.cells #[.int .i64 b.p, .slice AI b.its.length cI, .slice AR b.rus.length cR] 25) := ⟨_, rfl⟩
  have hw0 : Below w.heap.size w W0 := by rw [hW0]; exact balloc (Below.refl _ _) _
  have hb0 : Blk W0 w.heap.size 25 #[.int .i64 b.p, .slice AI b.its.length cI, .slice AR b.rus.length cR] := by rw [hW0]; exact Blk.new w 25 _
  have hlt : w.heap.size < W0.heap.size := hb0.lt
  have hI := (h.below (Below.refl _ _) hB).below hw0 (Nat.le_of_lt hlt)
  have hR := (h'.below (Below.refl _ _) hB).below hw0 (Nat.le_of_lt hlt)
  have hT0 := hT.below hw0 hT.2
  have ca := Lib.hid (asked_any AI AR cI cR W0.heap.size b item prop W0 (Nat.le_refl _) hI hR hs)
  have Hw := Lib.hid hw0
  have HX := Lib.hid (fun W (hW : Below W0.heap.size W0 W) => blk3 (hb0.below hW hlt))
  have tok := Lib.hid (Nat.le_refl 0)
  by_cases h0 : akR b item prop = 0
  · obtain ⟨hn0, hp0, hp1⟩ := ak_zero h0
    obtain ⟨hv0, hi0, hi1⟩ := nm_zero hn0
    have hv := vl_zero hv0
    have hsh : shR g b item prop = bestN g prop.toNat b.p.toNat (2 ^ b.p.toNat) := if_pos h0
    obtain ⟨m, rfl⟩ := Int.eq_ofNat_of_zero_le hi0
    obtain ⟨pn, rfl⟩ := Int.eq_ofNat_of_zero_le hp0
    obtain ⟨n, hn⟩ := Int.eq_ofNat_of_zero_le hv.p0
    have hn10 : n ≤ 10 := by have := hv.p1; omega
    have hpn : pn < n := by omega
    have hm : m < b.its.length := by omega
    have hpn0 : b.p.toNat = n := by omega
    rw [Int.toNat_natCast] at hg hsh
    rw [hpn0] at hsh
    have c1 := fun W (hW : Below W0.heap.size W0 W) => base_any AI AR cI cR W0.heap.size b m W hW.size (hI.below hW (Nat.le_refl _)) hs hv hm (hT0.below hW hT0.2)
    rw [hn] at c1
    have cb := Lib.hid c1
    have hbl := bsS_lt hv hm
    rw [hpn0] at hbl
    have hN10 : 2 ^ n ≤ 1024 := Nat.pow_le_pow_right (by decide) hn10
    have cc := Lib.hid (fun (k : Nat) (hk : k < 2 ^ n) W (hW : Below W0.heap.size W0 W) => show Calls Tryd.prog 75 #[.slice AR b.rus.length cR, .int .i64 ((bsS b m &&& k : Nat) : Int), .int .i64 (k : Int)] W fun e w' => ∃ x : Nat, e = .returned (.int .i64 x) ∧ (x = k ↔ g k = true) ∧ Below W.heap.size W w' from
      (closure_any AR cR W0.heap.size b.rus n (bsS b m &&& k) (k : Int) (fun q => k.testBit q) W hW.size (hR.below hW (Nat.le_refl _)) hs.2.1 hs.2.2.2 (fun x hx => by have := hv.rules x hx; rwa [hn] at this) hn10 (Nat.lt_of_le_of_lt Nat.and_le_left hbl) (fun q _ => bit_test (Nat.lt_of_lt_of_le hk (Nat.le_trans hN10 (by decide))))).mono (by
        rintro e w' ⟨x, he, hc, _, hb⟩
        exact ⟨x, he, (gd_any hc).trans (hg k).symm, hb⟩))
    have Hcnt := Lib.hid (fun k (hk : k < 2 ^ n) => cntB_ext hk 10 hn10)
    have hand := fun k (hk : k < 2 ^ n) => and_nat (bsS b m) k (by omega) (by omega)
    have hkt := fun k (hk : k < 2 ^ n) => bit_test (m := k) (i := pn) (Nat.lt_of_lt_of_le hk (Nat.le_trans hN10 (by decide)))
    have hp : wrap64 ((2 : Int) ^ n) = ((2 ^ n : Nat) : Int) := by rw [pow_wrap (show n < 63 by omega)]; simp
    have Hst := Lib.hid (fun k => show bestN g pn n (k + 1) = stepB g pn n (bestN g pn n k) k from rfl)
    have Hle := Lib.hid (fun k => best_small (g := g) (prop := pn) (p := n) k)
    rw [h0] at ca ⊢
    rw [hsh]
    rw [hn] at ca HX hW0 ⊢
    generalize bsS b m = bs at *
    generalize hNe : 2 ^ n = N at *
    have hNp : 0 < N := by rw [← hNe]; exact Nat.two_pow_pos n
    have p0 : (0 : Int) ≤ (pn : Int) := by omega
    have p1 : (pn : Int) < (n : Int) := by omega
    have Hand := Lib.hid hand
    have Hkt := Lib.hid hkt
    have HNe := Lib.hid hNe
    clear h h' hI hR hs hb0 hw0 h0 hv hi0 hi1 hn0 hv0 hp0 hp1 hbl hT hT0 hg hsh hpn0 hn hand hkt hNe c1
    go_enter Tryd.func53, Tryd.ntmps53
    go_wp2_with (first
      | (have tk := tok; clear tok; go_at_call 85; rw [← hW0]; clear hW0; refine ca.out.mono ?_; rintro e w1 ⟨rfl, hd1⟩; have tok2 := tk; obtain ⟨z0, z1, z2, _⟩ := HX.out _ hd1)
      | (have tk := tok2; clear tok2; go_at_call 98; refine (cb.out _ hd1).mono ?_; rintro e w2 ⟨rfl, hd⟩; have hb2 := hd1.trans (hd.mono hd1.size); clear hd z0 z1 z2; obtain ⟨z0, z1, z2, _⟩ := HX.out _ hb2; have tok3 := tk))
    rw [hp]
    go_loopw [11, 27] (fun s11 s27 wr => ∃ (k c : Nat) (z : Int), k ≤ N ∧ s27 = .int .i64 k ∧ s11 = .int .i64 z ∧ Aside (c = bestN g pn n k) ∧ c ≤ 10 ∧ ((z < 0 ∧ c = 0) ∨ (z = c ∧ 0 < c)) ∧ Below W0.heap.size W0 wr) (fun _ s _ => N - (intOf s).toNat)
    case atStart => exact ⟨0, 0, -1, Nat.zero_le _, rfl, rfl, rfl, Nat.zero_le _, .inl ⟨by decide, rfl⟩, hb2⟩
    case round =>
      clear hb2 z0 z1 z2
      obtain ⟨k, c, z, hk, rfl, rfl, HC0, hc10, hz, hb⟩ := hrel
      have HC := Lib.hid HC0.out
      clear HC0
      by_cases hlt : k < N
      · obtain ⟨z0, z1, z2, _⟩ := HX.out _ hb
        have Hb := Lib.hid hb
        have hkt := Hkt.out k hlt
        have hand := Hand.out k hlt
        have c99 := ones_any k wr (by omega)
        rw [Hcnt.out k hlt] at c99
        have C99 := Lib.hid c99
        have hcn : cntB k n ≤ 10 := Nat.le_trans (cntB_le k n) hn10
        have Hs := Lib.hid (show bestN g pn n (k + 1) = if k.testBit pn && (c == 0 || decide (cntB k n < c)) && g k then cntB k n else c by rw [Hst.out k, ← HC.out]; rfl)
        have hku : IntKind.u64.wrap (k : Int) = (k : Int) := by rw [IntKind.wrap_u64]; omega
        have cck := Lib.hid (cc.out k hlt)
        have hlN : (k : Int) < (N : Int) := by omega
        have hq0 : k.testBit pn = true → 0 < cntB k n := fun h => cntB_pos h n hpn
        generalize cntB k n = q at C99 hcn Hs hq0
        clear c99 HC
        cases hbit : k.testBit pn with
        | false =>
          rw [hbit] at hkt Hs
          simp only [Bool.false_eq_true, if_false] at hkt
          have Hf := Lib.hid (show c = bestN g pn n (k + 1) by rw [Hs.out]; simp)
          have Hz := Lib.hid hz
          clear hbit cck hz hand hq0
          go_wp2_with (go_at_call 99; refine C99.out.mono ?_; rintro e w3 ⟨rfl, rfl⟩)
          go_roundw
          case rel => exact ⟨k + 1, c, z, by omega, by go_num, rfl, Hf.out, hc10, Hz.out, Hb.out⟩
          case measure => simp [intOf]; omega
        | true =>
          rw [hbit] at hkt Hs hq0
          simp only [if_true] at hkt
          have hq1 := hq0 rfl
          clear hq0
          have hz3 : (z < 0 ∧ (c == 0 || decide (q < c)) = true) ∨ (0 ≤ z ∧ (q : Int) < z ∧ (c == 0 || decide (q < c)) = true) ∨ (0 ≤ z ∧ z ≤ q ∧ (c == 0 || decide (q < c)) = false) := by
            simp only [Bool.or_eq_true, Bool.or_eq_false_iff, beq_iff_eq, beq_eq_false_iff_ne, decide_eq_true_eq, decide_eq_false_iff_not]; omega
          have Hz := Lib.hid hz
          clear hbit hz
          rcases hz3 with ⟨hz0, hcc⟩ | ⟨hz0, hqz, hcc⟩ | ⟨hz0, hqz, hcc⟩
          · have hzd : decide (z < 0) = true := by simpa using hz0
            have Hcc := Lib.hid hcc
            clear hcc
            cases hgk : g k with
            | false =>
              have Hf := Lib.hid (show c = bestN g pn n (k + 1) by rw [Hs.out, hgk]; simp)
              have Hx := Lib.hid (fun (x : Nat) (h : x = k ↔ g k = true) => show ((x : Int) == (k : Int)) = false by
                rw [hgk] at h
                have : x ≠ k := fun e => absurd (h.1 e) (by decide)
                simp; omega)
              clear hgk
              go_wp2_with (first
                | (have tk := tok3; clear tok3; go_at_call 99; refine C99.out.mono ?_; rintro e w3 ⟨rfl, rfl⟩; have tok4 := tk)
                | (have tk := tok4; clear tok4; go_at_call 75; refine (cck.out _ Hb.out).mono ?_; rintro e w4 ⟨x, rfl, hx, hd⟩; have hb4 := Hb.out.trans (hd.mono Hb.out.size); have hxk := Hx.out x hx; clear hx hd))
              go_roundw
              case rel => exact ⟨k + 1, c, z, by omega, by go_num, rfl, Hf.out, hc10, Hz.out, hb4⟩
              case measure => simp [intOf]; omega
            | true =>
              have Hf := Lib.hid (show q = bestN g pn n (k + 1) by rw [Hs.out, hgk, Hcc.out]; simp)
              have Hx := Lib.hid (fun (x : Nat) (h : x = k ↔ g k = true) => show ((x : Int) == (k : Int)) = true by
                rw [hgk] at h
                have : x = k := h.2 rfl
                simp; omega)
              clear hgk
              go_wp2_with (first
                | (have tk := tok3; clear tok3; go_at_call 99; refine C99.out.mono ?_; rintro e w3 ⟨rfl, rfl⟩; have tok4 := tk)
                | (have tk := tok4; clear tok4; go_at_call 75; refine (cck.out _ Hb.out).mono ?_; rintro e w4 ⟨x, rfl, hx, hd⟩; have hb4 := Hb.out.trans (hd.mono Hb.out.size); have hxk := Hx.out x hx; clear hx hd))
              go_roundw
              case rel => exact ⟨k + 1, q, q, by omega, by go_num, rfl, Hf.out, hcn, .inr ⟨rfl, hq1⟩, hb4⟩
              case measure => simp [intOf]; omega
          · have hzd : decide (z < 0) = false := by simpa using hz0
            have hqd : decide ((q : Int) < z) = true := by simpa using hqz
            have Hcc := Lib.hid hcc
            clear hcc
            cases hgk : g k with
            | false =>
              have Hf := Lib.hid (show c = bestN g pn n (k + 1) by rw [Hs.out, hgk]; simp)
              have Hx := Lib.hid (fun (x : Nat) (h : x = k ↔ g k = true) => show ((x : Int) == (k : Int)) = false by
                rw [hgk] at h
                have : x ≠ k := fun e => absurd (h.1 e) (by decide)
                simp; omega)
              clear hgk
              go_wp2_with (first
                | (have tk := tok3; clear tok3; go_at_call 99; refine C99.out.mono ?_; rintro e w3 ⟨rfl, rfl⟩; have tok4 := tk)
                | (have tk := tok4; clear tok4; go_at_call 75; refine (cck.out _ Hb.out).mono ?_; rintro e w4 ⟨x, rfl, hx, hd⟩; have hb4 := Hb.out.trans (hd.mono Hb.out.size); have hxk := Hx.out x hx; clear hx hd))
              go_roundw
              case rel => exact ⟨k + 1, c, z, by omega, by go_num, rfl, Hf.out, hc10, Hz.out, hb4⟩
              case measure => simp [intOf]; omega
            | true =>
              have Hf := Lib.hid (show q = bestN g pn n (k + 1) by rw [Hs.out, hgk, Hcc.out]; simp)
              have Hx := Lib.hid (fun (x : Nat) (h : x = k ↔ g k = true) => show ((x : Int) == (k : Int)) = true by
                rw [hgk] at h
                have : x = k := h.2 rfl
                simp; omega)
              clear hgk
              go_wp2_with (first
                | (have tk := tok3; clear tok3; go_at_call 99; refine C99.out.mono ?_; rintro e w3 ⟨rfl, rfl⟩; have tok4 := tk)
                | (have tk := tok4; clear tok4; go_at_call 75; refine (cck.out _ Hb.out).mono ?_; rintro e w4 ⟨x, rfl, hx, hd⟩; have hb4 := Hb.out.trans (hd.mono Hb.out.size); have hxk := Hx.out x hx; clear hx hd))
              go_roundw
              case rel => exact ⟨k + 1, q, q, by omega, by go_num, rfl, Hf.out, hcn, .inr ⟨rfl, hq1⟩, hb4⟩
              case measure => simp [intOf]; omega
          · have hzd : decide (z < 0) = false := by simpa using hz0
            have hqd : decide ((q : Int) < z) = false := by simpa using hqz
            have Hf := Lib.hid (show c = bestN g pn n (k + 1) by rw [Hs.out, hcc]; simp)
            clear hcc cck hand
            go_wp2_with (go_at_call 99; refine C99.out.mono ?_; rintro e w3 ⟨rfl, rfl⟩)
            go_roundw
            case rel => exact ⟨k + 1, c, z, by omega, by go_num, rfl, Hf.out, hc10, Hz.out, Hb.out⟩
            case measure => simp [intOf]; omega
      · obtain rfl : k = N := by omega
        rcases hz with ⟨hz0, rfl⟩ | ⟨rfl, hc0⟩
        · have hzd : decide (z < 0) = true := by simpa using hz0
          go_wp2_with fail
          refine bodyPost_ret (results_tmp3 rfl _ _ _) rfl ?_
          exact ⟨by rw [← HC.out]; rfl, Hw.out.trans (hb.mono Hw.out.size)⟩
        · have hcd := Lib.hid (show decide (0 < c) = true by simpa using hc0)
          have hc1 : decide ((c : Int) < 0) = false := by simp
          go_wp2_with fail
          refine bodyPost_ret (results_tmp3 rfl _ _ _) rfl ?_
          exact ⟨by rw [← HC.out, hcd.out]; rfl, Hw.out.trans (hb.mono Hw.out.size)⟩
  · have hsh : shR g b item prop = 0 := if_neg h0
    have h0d : (akR b item prop == 0) = false := by simpa using h0
    have h0e : (akR b item prop != 0) = true := by simpa using h0
    rw [hsh]
    generalize akR b item prop = e0 at *
    clear h h' hI hR hs hb0 hw0 hB h0 hsh hg hT hT0
    go_enter Tryd.func53, Tryd.ntmps53
    go_wp2_with (go_at_call 85; rw [← hW0]; clear hW0; refine ca.out.mono ?_; rintro e w1 ⟨rfl, hd1⟩)
    refine bodyPost_ret (results_tmp3 rfl _ _ _) rfl ?_
    exact ⟨rfl, Hw.out.trans (hd1.mono Hw.out.size)⟩
end Go.Proofs.YtgoojcjfhghmgaaDoor

/- bits of a number; the rules within a set. -/
set_option linter.unusedSimpArgs false
namespace Go.Proofs.YtgoojcjfhghmgaaDoor
open Go.RowKit

theorem plTo_cnt (x : Nat) : ∀ k, (plTo x k).length = cntB x k
  | 0 => rfl
  | k + 1 => by
    rw [plTo_succ, List.length_append, plTo_cnt x k]
    show _ = cntB x k + _
    split <;> rfl
theorem bl_cnt {x n : Nat} (hx : x < 2 ^ n) (hn : n ≤ 60) : (bl x).length = cntB x n := by rw [← plTo_all hx hn, plTo_cnt]
theorem shr_nat (n k : Nat) : (n : Int) / (2 : Int) ^ k = ((n / 2 ^ k : Nat) : Int) := by rw [Int.natCast_ediv]; simp

set_option maxRecDepth 100000 in
set_option maxHeartbeats 1000000 in
theorem bits_ref (n : Nat) (hn : n < 2 ^ 10) (w : World) :
    Calls Tryd.prog 93 #[.int .i64 n] w fun e w' => ∃ A c, e = .returned (.slice A (bl n).length c) ∧ w'.ownsRow w.heap.size 3 1 (.slice A (bl n).length c) (bl n).length (natV (bl n)) ∧ Below w.heap.size w w' := by
  obtain ⟨j0, hj, hy0, hy1, hy2⟩ := info_parts info3
  have Hn := Lib.hid hn
  have Hkt := Lib.hid (fun k => bit_test (m := n) (i := k) (Nat.lt_trans hn (by decide)))
  clear hn
  go_enter Tryd.func93, Tryd.ntmps93
  go_wp2_with fail
  go_loopw [3, 4] (fun out i wr => ∃ k : Nat, k ≤ 10 ∧ i = .int .i64 k ∧ wr.ownsRow w.heap.size 3 1 out (plTo n k).length (natV (plTo n k)) ∧ Below w.heap.size w wr) (fun _ i _ => 11 - (intOf i).toNat)
  case atStart => exact ⟨0, Nat.zero_le _, rfl, World.ownsRow_nil _ _ _ _, Below.refl _ _⟩
  case round =>
    obtain ⟨k, hk, rfl, hown, hb⟩ := hrel
    have hlen := plTo_length n k
    by_cases hz : n / 2 ^ k = 0
    · have Hf := Lib.hid (show plTo n k = bl n from plTo_all (by
        rcases Nat.div_eq_zero_iff.1 hz with h | h
        · exact absurd h (Nat.pos_iff_ne_zero.1 (Nat.two_pow_pos k))
        · exact h) (by omega))
      rw [Hf.out] at hown
      obtain ⟨A, c, rfl⟩ := own_slice hown
      have hgt : (n : Int) / (2 : Int) ^ k = 0 := by rw [shr_nat, hz]; rfl
      clear hz hlen
      go_wp2_with fail
      go_ret
      exact ⟨A, c, rfl, hown, hb⟩
    · have hk9 : k < 10 := by
        rcases Nat.lt_or_ge k 10 with h | h
        · exact h
        · exact absurd (Nat.div_eq_of_lt (Nat.lt_of_lt_of_le Hn.out (Nat.pow_le_pow_right (by decide) h))) hz
      have hgt : 0 < (n : Int) / (2 : Int) ^ k := by rw [shr_nat]; exact Int.natCast_pos.2 (Nat.pos_of_ne_zero hz)
      have HO := Lib.hid hown
      have Hb := Lib.hid hb
      have kt := Hkt.out k
      have Hs := Lib.hid (plTo_succ n k)
      clear hz hown hb
      cases ht : n.testBit k with
      | false =>
        rw [ht] at kt
        simp only [Bool.false_eq_true, if_false] at kt
        have Hf := Lib.hid (show plTo n (k + 1) = plTo n k by rw [Hs.out, ht]; simp)
        clear ht
        go_wp2_with fail
        go_roundw
        case rel => exact ⟨k + 1, by omega, by go_num, by rw [Hf.out]; exact HO.out, Hb.out⟩
        case measure => simp [intOf]; omega
      | true =>
        rw [ht] at kt
        simp only [if_true] at kt
        have Hf := Lib.hid (show plTo n (k + 1) = plTo n k ++ [k] by rw [Hs.out, ht]; simp)
        clear ht
        go_wp2_with (at_builtin; refine wpList_append_own _ rfl _ _ 32 rfl w.heap.size 3 j0 _ 1 8 Tryd.underlying32 hj hy0 hy1 hy2 rfl (by decide) _ _ _ rfl (HO.out.alloc _) ⟨wr.heap.size, 0, none⟩ 1 1 _ rfl rfl (cell_one_new _ _ _) (by simp [Value.oneCell']) (by simp only [maxLen]; omega) (by omega) (Hb.out.alloc Hb.out.size _).size ?_; intro v' w7 hown7 hg7 _)
        have b7 : Below w.heap.size w w7 := (Hb.out.alloc Hb.out.size _).grown hg7 (Hb.out.alloc Hb.out.size _).size (fun x hx => (HO.out.lt x hx).1)
        go_roundw
        case rel => exact ⟨k + 1, by omega, by go_num, by rw [Hf.out, List.length_append, natV, List.map_append]; exact hown7, b7⟩
        case measure => simp [intOf]; omega

theorem bits_ref' (n : Nat) (hn : n < 2 ^ 10) (w : World) :
    Calls Tryd.prog 93 #[.int .i64 n] w fun e w' => ∃ A c, e = .returned (.slice A (bl n).length c) ∧ IntsAt w'.heap.size w' A (intL (bl n)) ∧ Below w.heap.size w w' :=
  (bits_ref n hn w).mono (by
    rintro e w' ⟨A, c, rfl, hown, hb⟩
    obtain ⟨A', c', hv, hI⟩ := IntsAt.of_nat hown
    injection hv with h1 h2 h3
    subst h1
    exact ⟨A, c, rfl, hI, hb⟩)
/-- Rules as they stand in memory. -/
def RuVs (B : Nat) (w : World) (ps : List (Value × Value)) (l : List Ru) : Prop := ps.length = l.length ∧ ∀ k (hk : k < l.length), ∃ A1 c1, ps[k]? = some (.slice A1 l[k].1.length c1, .int .i64 l[k].2) ∧ IntsAt B w A1 l[k].1
theorem RuVs.nil (B : Nat) (w : World) : RuVs B w [] [] := ⟨rfl, fun k hk => by simp at hk⟩
theorem RuVs.snoc {B : Nat} {w : World} {ps : List (Value × Value)} {l : List Ru} {r : Ru} {A1 : Option Addr} {c1 : Nat} (h : RuVs B w ps l) (hi : IntsAt B w A1 r.1) : RuVs B w (ps ++ [(.slice A1 r.1.length c1, .int .i64 r.2)]) (l ++ [r]) := by
  refine ⟨by simp [h.1], fun k hk => ?_⟩
  rw [List.length_append, List.length_singleton] at hk
  by_cases e : k < l.length
  · rw [List.getElem_append_left e, List.getElem?_append_left (by rw [h.1]; exact e)]
    exact h.2 k e
  · obtain rfl : k = l.length := by omega
    rw [List.getElem_append_right (Nat.le_refl _), List.getElem?_append_right (by rw [h.1]; exact Nat.le_refl _)]
    exact ⟨A1, c1, by simp [h.1], by simpa using hi⟩
theorem RuVs.rus {B : Nat} {w w' : World} {ps : List (Value × Value)} {l : List Ru} {base n c : Nat} {A : Option Addr} (h : RuVs B w ps l) (hb : Below B w w') (hB : B ≤ w'.heap.size) (hown : w'.ownsRow base 42 2 (.slice A n c) n (flatV ps)) (hn : ps.length = n) : RusAt w'.heap.size w' A l := fun k hk => by
  have hkp : k < ps.length := by rw [h.1]; exact hk
  obtain ⟨g, rfl, hg, q0, q1⟩ := own_cell2 hown hn hkp
  obtain ⟨A1, c1, e1, i1⟩ := h.2 k hk
  rw [List.getElem?_eq_getElem hkp] at e1
  injection e1 with e1
  rw [e1] at q0 q1
  refine ⟨g, 0, A1, c1, rfl, hg, ?_, ?_, i1.below hb hB⟩
  · rw [Nat.zero_add]; exact q0
  · rw [Nat.zero_add]; exact q1
theorem inR_succ {s : Nat} {l : List Ru} {k : Nat} (hk : k < l.length) : inR s (l.take (k + 1)) = inR s (l.take k) ++ if s.testBit l[k].2.toNat && allB s (natL l[k].1) then [l[k]] else [] := by
  rw [List.take_succ_eq_append_getElem hk, inR, List.filter_append, List.filter_cons, List.filter_nil]
  rfl
theorem inR_length (s : Nat) (l : List Ru) : (inR s l).length ≤ l.length := List.length_filter_le _ _

set_option maxRecDepth 100000 in
set_option maxHeartbeats 4000000 in
theorem withinR_ref (A : Option Addr) (c B g n c' s : Nat) (l : List Ru) (w : World) (hB : B ≤ w.heap.size) (h : RusAt B w A l) (hbr : BR g n s w) (hs : l.length ≤ 60) (hl : ∀ x ∈ l, x.1.length ≤ 40) (hr : ∀ x ∈ l, ruOk n x = true) :
    Calls Tryd.prog 101 #[.slice A l.length c, .slice (some ⟨g, 0, none⟩) n c'] w fun e w' => ∃ A' c', e = .returned (.slice A' (inR s l).length c') ∧ RusAt w'.heap.size w' A' (inR s l) ∧ Below w.heap.size w w' := by
  obtain ⟨j0, hj, hy0, hy1, hy2⟩ := info_parts info42
  have H := Lib.hid (h.below (Below.refl _ _) hB)
  have Hr := Lib.hid hr
  have Hl := Lib.hid hl
  have Hbr := Lib.hid hbr
  clear h hr hl hbr
  go_enter Tryd.func101, Tryd.ntmps101
  go_wp2_with fail
  go_loopw [5, 6] (fun out i wr => ∃ (k : Nat) (ps : List (Value × Value)), k ≤ l.length ∧ i = .int .i64 k ∧ wr.ownsRow w.heap.size 42 2 out ps.length (flatV ps) ∧ Aside (RuVs w.heap.size w ps (inR s (l.take k))) ∧ ps.length ≤ 60 ∧ Below w.heap.size w wr) (fun _ i _ => l.length - (intOf i).toNat)
  case atStart => exact ⟨0, [], Nat.zero_le _, rfl, World.ownsRow_nil _ _ _ _, RuVs.nil _ _, Nat.zero_le _, Below.refl _ _⟩
  case round =>
    obtain ⟨k, ps, hk, rfl, hown, HV0, hps, hb⟩ := hrel
    have HV := Lib.hid HV0.out
    clear HV0
    by_cases hlt : k < l.length
    · obtain ⟨bb, off, A1, c1, rfl, hbB, e0, e1, i1⟩ := H.out k hlt
      have d0 := (hb.cell (p := ⟨bb, off + k * 2, none⟩) hbB).trans e0
      have d1 := (hb.cell (p := ⟨bb, off + k * 2 + 1, none⟩) hbB).trans e1
      obtain ⟨hset, ht0, htp⟩ := ruOk_mem (Hr.out l[k] (List.getElem_mem hlt))
      obtain ⟨t, ht⟩ := Int.eq_ofNat_of_zero_le ht0
      have hin : intL (natL l[k].1) = l[k].1 := int_nat fun x hx => (isS_mem hset x hx).1
      have hqn : ∀ q ∈ natL l[k].1, q < n := natL_lt (isS_mem hset)
      have hlen : (natL l[k].1).length = l[k].1.length := natL_length _
      have hl40 := Hl.out l[k] (List.getElem_mem hlt)
      have Hs := Lib.hid (inR_succ (s := s) hlt)
      have HVs := Lib.hid (HV.out.snoc (r := l[k]) (c1 := c1) i1)
      have hps2 : ps.length ≤ k := by
        have := HV.out.1
        rw [this]
        exact Nat.le_trans (inR_length _ _) (by rw [List.length_take]; omega)
      have htn : l[k].2.toNat = t := by rw [ht]; rfl
      have ca0 := all_ref g c' s n A1 c1 w.heap.size (natL l[k].1) wr (Hbr.out.below hb Hbr.out.1) (by rw [hin]; exact i1.below hb (Nat.le_refl _)) (by omega) hqn
      rw [hlen] at ca0
      have ca := Lib.hid ca0
      rw [htn] at Hs
      rw [ht] at d1 htp HVs
      have htn' : t < n := by omega
      have z0 := (hb.cell (p := ⟨g, t, none⟩) Hbr.out.1).trans (Hbr.out.2 t htn')
      have HO := Lib.hid hown
      have Hb := Lib.hid hb
      generalize allB s (natL l[k].1) = a at ca Hs
      generalize l[k].1.length = m at d0 ca HVs hl40
      clear e0 e1 hset ht0 hin hlen htn ht ca0 hown hb i1
      have Hlt := Lib.hid hlt
      cases hst : s.testBit t with
      | false =>
        rw [hst] at z0 Hs
        have Hf := Lib.hid (show inR s (l.take (k + 1)) = inR s (l.take k) by rw [Hs.out]; simp)
        clear hst ca
        go_wp2_with fail
        go_roundw
        case rel => exact ⟨k + 1, ps, by omega, by go_num, HO.out, by rw [Hf.out]; exact HV.out, hps, Hb.out⟩
        case measure => simp [intOf]; omega
      | true =>
        rw [hst] at z0 Hs
        cases a with
        | false =>
          have Hf := Lib.hid (show inR s (l.take (k + 1)) = inR s (l.take k) by rw [Hs.out]; simp)
          clear hst
          go_wp2_with (go_at_call 100; refine ca.out.mono ?_; rintro e w2 ⟨rfl, rfl⟩)
          go_roundw
          case rel => exact ⟨k + 1, ps, by omega, by go_num, HO.out, by rw [Hf.out]; exact HV.out, hps, Hb.out⟩
          case measure => simp [intOf]; omega
        | true =>
          have Hf := Lib.hid (show inR s (l.take (k + 1)) = inR s (l.take k) ++ [l[k]] by rw [Hs.out]; rfl)
          clear hst
          go_wp2_with (first
            | (go_at_call 100; refine ca.out.mono ?_; rintro e w2 ⟨rfl, rfl⟩)
            | (at_builtin; refine wpList_append_own _ rfl _ _ 23 rfl w.heap.size 42 j0 _ 2 32 Tryd.underlying23 hj hy0 hy1 hy2 rfl (by decide) _ _ _ rfl (HO.out.alloc _) ⟨_, 0, none⟩ 1 1 _ rfl rfl (cells_new _ [.slice A1 m c1, .int .i64 (t : Int)] 42) (by simp [Value.oneCell']) (by simp only [maxLen]; omega) (by omega) (Hb.out.alloc Hb.out.size _).size ?_; intro v' w7 hown7 hg7 _))
          have b7 : Below w.heap.size w w7 := (Hb.out.alloc Hb.out.size _).grown hg7 (Hb.out.alloc Hb.out.size _).size (fun x hx => (HO.out.lt x hx).1)
          go_roundw
          case rel => exact ⟨k + 1, ps ++ [(.slice A1 m c1, .int .i64 t)], by omega, by go_num, by rw [List.length_append, List.length_singleton, flatV_snoc]; exact hown7, by rw [Hf.out]; exact HVs.out, by rw [List.length_append, List.length_singleton]; omega, b7⟩
          case measure => simp [intOf]; omega
    · obtain rfl : k = l.length := by omega
      rw [List.take_length] at HV
      obtain ⟨A5, c5, rfl⟩ := own_slice hown
      have hR := HV.out.rus hb hb.size hown rfl
      have e5 := HV.out.1
      rw [e5] at hown ⊢
      go_wp2_with fail
      go_ret
      exact ⟨A5, c5, rfl, hR, hb⟩
end Go.Proofs.YtgoojcjfhghmgaaDoor

/- The reference's Shortest. -/
set_option linter.unusedSimpArgs false
namespace Go.Proofs.YtgoojcjfhghmgaaDoor
open Go.RowKit

theorem BB.putv {g n x x' q : Nat} {v : Bool} {W : World} (h : BB g n x W) (hq : x'.testBit q = v) (ho : ∀ e, e ≠ q → x'.testBit e = x.testBit e) : BB g n x' (W.setCell ⟨g, q, none⟩ (.bool v)) := by
  obtain ⟨cs, h1, h2, h3⟩ := h
  refine ⟨_, h1.put q _, by simpa using h2, fun e he => ?_⟩
  rw [Array.getElem?_setIfInBounds]
  by_cases hed : q = e
  · subst hed
    rw [if_pos rfl, if_pos (by omega), hq]
  · rw [if_neg hed, h3 e he, ho e (Ne.symm hed)]
theorem all_sub {k x : Nat} (hk : k < 18446744073709551616) : allB x (bl k) = true ↔ Sub k x := by
  simp only [allB, List.all_eq_true, Sub]
  exact ⟨fun h q hq => h q ((mem_bl k hk q).2 hq), fun h q hq => h q ((mem_bl k hk q).1 hq)⟩
theorem begin_step {bs : Nat} {L : List Nat} {j : Nat} (hj : j < L.length) {g n : Nat} {W : World} (h : BB g n (bs &&& mkTo L j) W) : BB g n (bs &&& mkTo L (j + 1)) (W.setCell ⟨g, L[j], none⟩ (.bool (bs.testBit L[j]))) := by
  refine h.putv ?_ fun e he => ?_
  · rw [mkTo_succ hj, Nat.testBit_and, Nat.testBit_or, Nat.testBit_two_pow]; simp
  · rw [mkTo_succ hj, Nat.testBit_and, Nat.testBit_and, Nat.testBit_or, Nat.testBit_two_pow]
    have : decide (L[j] = e) = false := by simpa using Ne.symm he
    rw [this, Bool.or_false]

set_option maxRecDepth 100000 in
set_option maxHeartbeats 1000000 in
theorem Shortest_ref (AI AR : Option Addr) (cI cR B : Nat) (b : Bk) (item prop : Int) (g : Nat → Bool) (w : World) (hB : B ≤ w.heap.size) (h : ItsAt B w AI b.its) (h' : RusAt B w AR b.rus) (hs : Short b) (hg : ∀ s, g s = true ↔ Gd b item.toNat s) :
    Calls Tryd.prog 54 #[.agg #[.int .i64 b.p, .slice AI b.its.length cI, .slice AR b.rus.length cR], .int .i64 item, .int .i64 prop] w fun e w' => e = .returned (.tuple #[.int .i64 (shR g b item prop : Nat), .bool (decide (0 < shR g b item prop)), .int .i64 (akR b item prop)]) ∧ Below w.heap.size w w' := by
  obtain ⟨W0, hW0⟩ : ∃ W0, W0 = w.alloc (.cells #[.int .i64 b.p, .slice AI b.its.length cI, .slice AR b.rus.length cR] 25) := ⟨_, rfl⟩
  have hw0 : Below w.heap.size w W0 := by rw [hW0]; exact balloc (Below.refl _ _) _
  have hb0 : Blk W0 w.heap.size 25 #[.int .i64 b.p, .slice AI b.its.length cI, .slice AR b.rus.length cR] := by rw [hW0]; exact Blk.new w 25 _
  have hlt : w.heap.size < W0.heap.size := hb0.lt
  have hI := (h.below (Below.refl _ _) hB).below hw0 (Nat.le_of_lt hlt)
  have hR := (h'.below (Below.refl _ _) hB).below hw0 (Nat.le_of_lt hlt)
  have ca := Lib.hid (asked_ref AI AR cI cR W0.heap.size b item prop W0 (Nat.le_refl _) hI hR hs)
  have Hw := Lib.hid hw0
  have HX := Lib.hid (fun W (hW : Below W0.heap.size W0 W) => blk3 (hb0.below hW hlt))
  have tok := Lib.hid (Nat.le_refl 0)
  by_cases h0 : akR b item prop = 0
  · obtain ⟨hn0, hp0, hp1⟩ := ak_zero h0
    obtain ⟨hv0, hi0, hi1⟩ := nm_zero hn0
    have hv := vl_zero hv0
    have hsh : shR g b item prop = bestN g prop.toNat b.p.toNat (2 ^ b.p.toNat) := if_pos h0
    obtain ⟨m, rfl⟩ := Int.eq_ofNat_of_zero_le hi0
    obtain ⟨pn, rfl⟩ := Int.eq_ofNat_of_zero_le hp0
    obtain ⟨n, hn⟩ := Int.eq_ofNat_of_zero_le hv.p0
    have hn10 : n ≤ 10 := by have := hv.p1; omega
    have hpn : pn < n := by omega
    have hm : m < b.its.length := by omega
    have hpn0 : b.p.toNat = n := by omega
    rw [Int.toNat_natCast] at hg hsh
    rw [hpn0] at hsh
    have c1 := fun W (hW : Below W0.heap.size W0 W) => base_ref AI AR cI cR W0.heap.size b m W hW.size (hI.below hW (Nat.le_refl _)) hs hv hm
    rw [hpn0, hn] at c1
    have cb := Lib.hid c1
    have hbl := bsS_lt hv hm
    rw [hpn0] at hbl
    have hN10 : 2 ^ n ≤ 1024 := Nat.pow_le_pow_right (by decide) hn10
    have cw := Lib.hid (fun (gm cm k : Nat) W (hW : Below W0.heap.size W0 W) (hbr : BR gm n k W) => withinR_ref AR cR W0.heap.size gm n cm k b.rus W hW.size (hR.below hW (Nat.le_refl _)) hbr hs.2.1 hs.2.2.2 (fun x hx => by have := hv.rules x hx; rwa [hn] at this))
    have cc := Lib.hid (fun (A6 : Option Addr) (c6 gB k : Nat) W (hR6 : RusAt W.heap.size W A6 (inR k b.rus)) (hbr : BR gB n (bsS b m &&& k) W) => closed_ref A6 c6 W.heap.size gB n n (bsS b m &&& k) (inR k b.rus) W (Nat.le_refl _) hR6 hbr (Nat.le_trans (inR_length _ _) hs.2.1) (fun x hx => hs.2.2.2 x (List.mem_filter.1 hx).1) (fun x hx => by have := hv.rules x (List.mem_filter.1 hx).1; rwa [hn] at this) hn10 (Nat.lt_of_le_of_lt Nat.and_le_left hbl))
    have Hgd := Lib.hid (fun (k x : Nat) (hk : k < 2 ^ n) (hc : Cl (inR k b.rus) (bsS b m &&& k) allW x) => show allB x (bl k) = g k from by
      rw [Bool.eq_iff_iff, all_sub (by omega), hg k, gd_ref hc])
    have HL := Lib.hid (fun (k : Nat) (hk : k < 2 ^ n) => show (bl k).length ≤ 10 ∧ (∀ x ∈ bl k, x < n) ∧ mk (bl k) = k ∧ (bl k).length = cntB k n from
      ⟨by rw [bl_cnt hk (by omega)]; exact Nat.le_trans (cntB_le k n) hn10, fun x hx => bl_lt hk (by omega) hx, mk_bl hk hn10, bl_cnt hk (by omega)⟩)
    have hp : wrap64 ((2 : Int) ^ n) = ((2 ^ n : Nat) : Int) := by rw [pow_wrap (show n < 63 by omega)]; simp
    have Hst := Lib.hid (fun k => show bestN g pn n (k + 1) = stepB g pn n (bestN g pn n k) k from rfl)
    obtain ⟨cs, hcs, hcz, hmk⟩ := make_bools n (by omega)
    have hcs' := Lib.hid hcs
    have hcz' := Lib.hid hcz
    rw [h0] at ca ⊢
    rw [hsh]
    rw [hn] at ca HX hW0 ⊢
    generalize bsS b m = bs at *
    generalize hNe : 2 ^ n = N at *
    have hNp : 0 < N := by rw [← hNe]; exact Nat.two_pow_pos n
    have p0 : (0 : Int) ≤ (pn : Int) := by omega
    have p1 : (pn : Int) < (n : Int) := by omega
    have HNe := Lib.hid hNe
    have hn30 : (0 : Int) ≤ (n : Int) := by omega
    clear h h' hI hR hs hb0 hw0 h0 hv hi0 hi1 hn0 hv0 hp0 hp1 hbl hg hsh hpn0 hn hNe c1 hcs hcz
    go_enter Tryd.func54, Tryd.ntmps54
    go_wp2_with (first
      | (have tk := tok; clear tok; go_at_call 87; rw [← hW0]; clear hW0; refine ca.out.mono ?_; rintro e w1 ⟨rfl, hd1⟩; have tok2 := tk; obtain ⟨z0, z1, z2, _⟩ := HX.out _ hd1)
      | (have tk := tok2; clear tok2; go_at_call 74; refine (cb.out _ hd1).mono ?_; rintro e w2 ⟨rfl, hbb, hd⟩; have hb2 := hd1.trans (hd.mono hd1.size); clear hd z0 z1 z2; have tok3 := tk))
    generalize w1.heap.size + 1 = g0 at *
    have HG := Lib.hid (fun W (hW : Below w2.heap.size w2 W) => And.intro (hbb.br.below hW hbb.lt) (hb2.trans (hW.mono hb2.size)))
    clear hbb
    go_loopw [11, 12] (fun s11 s12 wr => ∃ (k c : Nat), k ≤ N ∧ s12 = .int .i64 k ∧ s11 = .int .i64 c ∧ Aside (c = bestN g pn n k) ∧ c ≤ 10 ∧ Below w2.heap.size w2 wr) (fun _ s _ => N - (intOf s).toNat)
    case atStart => exact ⟨0, 0, Nat.zero_le _, rfl, rfl, rfl, Nat.zero_le _, Below.refl _ _⟩
    case round =>
      clear hb2
      obtain ⟨k, c, hk, rfl, rfl, HC0, hc10, hb⟩ := hrel
      have HC := Lib.hid HC0.out
      clear HC0
      obtain ⟨z0, z1, z2, _⟩ := HX.out _ (HG.out _ hb).2
      by_cases hlt : k < N
      · have Hb := Lib.hid hb
        have hlN : (k : Int) < (N : Int) := by omega
        have cbt := Lib.hid (bits_ref' k (by omega) wr)
        obtain ⟨hL10, hLn, hLm, hLc⟩ := HL.out k hlt
        have Hs := Lib.hid (show bestN g pn n (k + 1) = if k.testBit pn && (c == 0 || decide ((bl k).length < c)) && g k then (bl k).length else c by rw [hLc, Hst.out k, ← HC.out]; rfl)
        have Hgk := Lib.hid (fun x hc => Hgd.out k x hlt hc)
        have hq0 : k.testBit pn = true → 0 < (bl k).length := fun h => by rw [hLc]; exact cntB_pos h n hpn
        generalize bl k = L at cbt hL10 hLn hLm hLc Hs Hgk hq0
        have Hm := Lib.hid hLm
        have HLn := Lib.hid hLn
        have HlL : (intL L).length = L.length := by simp [intL]
        have HlL' := Lib.hid HlL
        have Hall := Lib.hid (mkTo_all L)
        obtain ⟨q, hq⟩ : ∃ q, q = L.length := ⟨_, rfl⟩
        have cmk := Lib.hid (fun A c W (hW : IntsAt W.heap.size W A (intL L)) => marks_ref A c W.heap.size L n W (Nat.le_refl _) hW (by omega) hLn (by omega))
        have cal := Lib.hid (fun gx cx x A c W (hbr : BR gx n x W) (hW : IntsAt W.heap.size W A (intL L)) => all_ref gx cx x n A c W.heap.size L W hbr hW (by omega) hLn)
        rw [← hq] at cbt Hs hq0 cmk cal hL10
        have Hq := Lib.hid hq
        clear hq HC hLm hLc hLn HlL hb
        generalize hgk : g k = gb at *
        clear hgk
        have HK := Lib.hid (fun W (hW : Below w2.heap.size w2 W) => HX.out W (HG.out W hW).2)
        have tokA := Lib.hid (Nat.le_refl 0)
        obtain ⟨wa, hwa⟩ : ∃ wa, wa = wr := ⟨_, rfl⟩
        subst hwa
        cases hbit : k.testBit pn with
        | false =>
          rw [hbit] at Hs
          have Hf := Lib.hid (show c = bestN g pn n (k + 1) by rw [Hs.out]; simp)
          have Hbit := Lib.hid hbit
          clear hbit hq0
          go_wp2_with (first
            | (have tk := tokA; clear tokA; go_at_call 93; refine cbt.out.mono ?_; rintro e w3 ⟨A3, c3, rfl, hI3, hd⟩; have hb3 := Hb.out.trans (hd.mono Hb.out.size); have tokB := tk; obtain ⟨y0, y1, y2, _⟩ := HK.out _ hb3; clear hd)
            | (have tk := tokB; clear tokB; go_at_call 77; refine (cmk.out A3 c3 w3 hI3).mono ?_; rintro e w4 ⟨rfl, hbb4, hd4⟩; have hb4 := hb3.trans (hd4.mono hb3.size); have x0 := hbb4.cell hpn; rw [Hm.out] at hbb4 x0; rw [Hbit.out] at x0; have HB4 := Lib.hid hbb4; have Hd4 := Lib.hid hd4; have H4 := Lib.hid hb4; have HI3 := Lib.hid hI3; clear hI3 hbb4 hd4 hb3 y0 y1 y2; obtain ⟨y0, y1, y2, _⟩ := HK.out _ hb4; clear hb4))
          go_roundw
          case rel => exact ⟨k + 1, c, by omega, by go_num, rfl, Hf.out, hc10, H4.out⟩
          case measure => simp [intOf]; omega
        | true =>
          have hq0 := hq0 hbit
          rw [hbit] at Hs
          have Hbit := Lib.hid hbit
          clear hbit
          have hcase : (0 < c ∧ c ≤ q ∧ (c == 0 || decide (q < c)) = false) ∨ (c = 0 ∧ (c == 0 || decide (q < c)) = true) ∨ (0 < c ∧ q < c ∧ (c == 0 || decide (q < c)) = true) := by
            simp only [Bool.or_eq_true, Bool.or_eq_false_iff, beq_iff_eq, beq_eq_false_iff_ne, decide_eq_true_eq, decide_eq_false_iff_not]; omega
          rcases hcase with ⟨hc0, hcq, hcc⟩ | ⟨hc0, hcc⟩ | ⟨hc0, hcq, hcc⟩
          · have hcd : decide ((0 : Int) < (c : Int)) = true := by simp; omega
            have hqd : decide ((c : Int) ≤ (q : Int)) = true := by simp; omega
            have hc0' : (0 : Int) < (c : Int) := by omega
            have hcq' : (c : Int) ≤ (q : Int) := by omega
            have Hf := Lib.hid (show c = bestN g pn n (k + 1) by rw [Hs.out, hcc]; simp)
            clear hcc
            go_wp2_with (first
              | (have tk := tokA; clear tokA; go_at_call 93; refine cbt.out.mono ?_; rintro e w3 ⟨A3, c3, rfl, hI3, hd⟩; have hb3 := Hb.out.trans (hd.mono Hb.out.size); have tokB := tk; obtain ⟨y0, y1, y2, _⟩ := HK.out _ hb3; clear hd)
              | (have tk := tokB; clear tokB; go_at_call 77; refine (cmk.out A3 c3 w3 hI3).mono ?_; rintro e w4 ⟨rfl, hbb4, hd4⟩; have hb4 := hb3.trans (hd4.mono hb3.size); have x0 := hbb4.cell hpn; rw [Hm.out] at hbb4 x0; rw [Hbit.out] at x0; have HB4 := Lib.hid hbb4; have Hd4 := Lib.hid hd4; have H4 := Lib.hid hb4; have HI3 := Lib.hid hI3; clear hI3 hbb4 hd4 hb3 y0 y1 y2; obtain ⟨y0, y1, y2, _⟩ := HK.out _ hb4; clear hb4))
            go_roundw
            case rel => exact ⟨k + 1, c, by omega, by go_num, rfl, Hf.out, hc10, H4.out⟩
            case measure => simp [intOf]; omega
          · have hcd : decide ((0 : Int) < (c : Int)) = false := by simp; omega
            have hc0' : (c : Int) ≤ 0 := by omega
            have Hcc := Lib.hid hcc
            clear hcc hc0
            go_wp2_with (first
              | (have tk := tokA; clear tokA; go_at_call 93; refine cbt.out.mono ?_; rintro e w3 ⟨A3, c3, rfl, hI3, hd⟩; have hb3 := Hb.out.trans (hd.mono Hb.out.size); have tokB := tk; obtain ⟨y0, y1, y2, _⟩ := HK.out _ hb3; clear hd)
              | (have tk := tokB; clear tokB; go_at_call 77; refine (cmk.out A3 c3 w3 hI3).mono ?_; rintro e w4 ⟨rfl, hbb4, hd4⟩; have hb4 := hb3.trans (hd4.mono hb3.size); have x0 := hbb4.cell hpn; rw [Hm.out] at hbb4 x0; rw [Hbit.out] at x0; have HB4 := Lib.hid hbb4; have Hd4 := Lib.hid hd4; have H4 := Lib.hid hb4; have HI3 := Lib.hid hI3; clear hI3 hbb4 hd4 hb3 y0 y1 y2; obtain ⟨y0, y1, y2, _⟩ := HK.out _ hb4; clear hb4))
            obtain ⟨hgB, hB0⟩ := And.intro (Below.refl w4.heap.size w4) (BB.made w4 hcs'.out hcz'.out)
            have HB0 := Lib.hid hB0
            clear hgB hB0
            go_loopw [16] (fun s16 wy => ∃ j : Nat, j ≤ q ∧ s16 = .int .i64 j ∧ Aside (BB w4.heap.size n (bs &&& mkTo L j) wy) ∧ Below w4.heap.size w4 wy) (fun s _ => q - (intOf s).toNat)
            case atStart => exact ⟨0, Nat.zero_le _, rfl, by rw [mkTo_zero, Nat.and_zero]; exact HB0.out, balloc (Below.refl _ _) _⟩
            case round =>
              obtain ⟨j, hj, rfl, HBj0, hby⟩ := hrel
              have HBj := Lib.hid HBj0.out
              clear HBj0 x0 y0 y1 y2 HB0
              by_cases hjq : j < q
              · have hjL : j < L.length := by rw [← Hq.out]; exact hjq
                obtain ⟨b3, o3, rfl, hb3, q0⟩ := HI3.out.at (k := j) (by rw [HlL'.out]; exact hjL)
                have e3 : (intL L)[j]'(by rw [HlL'.out]; exact hjL) = ((L[j] : Nat) : Int) := by simp [intL]
                rw [e3] at q0
                have q1 := (hby.cell (p := ⟨b3, o3 + j, none⟩) (Nat.lt_of_lt_of_le hb3 Hd4.out.size)).trans ((Hd4.out.cell (p := ⟨b3, o3 + j, none⟩) hb3).trans q0)
                have hx := HLn.out L[j] (List.getElem_mem hjL)
                have u0 := (HG.out _ (H4.out.trans (hby.mono H4.out.size))).1.2 L[j] hx
                have Hst2 := Lib.hid (begin_step hjL HBj.out)
                have v0 := HBj.out.cell hx
                have v1 := HBj.out.frozen L[j]
                have Hby := Lib.hid hby
                have hjq' : (j : Int) < (q : Int) := by omega
                generalize L[j] = y at q1 hx u0 Hst2 v0 v1
                generalize bs.testBit y = bv at u0 Hst2
                clear e3 q0 hby hb3
                go_wp2_with fail
                go_region
                all_goals
                  go_wp2_with fail
                  go_roundw
                  case rel => exact ⟨j + 1, by omega, by go_num, Hst2.out.drewN 1, Below.drew (below_put Hby.out (Nat.le_refl _) _ _)⟩
                  case measure => simp [intOf]; omega
              · obtain rfl : q = j := by omega
                have HBk := Lib.hid (show BB w4.heap.size n (bs &&& k) wr by have := HBj.out; rw [Hq.out, Hall.out, Hm.out] at this; exact this)
                have h5 := H4.out.trans (hby.mono H4.out.size)
                obtain ⟨y0, y1, y2, h5w⟩ := And.intro (HK.out _ h5).1 (And.intro (HK.out _ h5).2.1 (And.intro (HK.out _ h5).2.2.1 (HG.out _ h5).2))
                have Cw := Lib.hid (cw.out w3.heap.size n k wr h5w (HB4.out.br.below hby HB4.out.lt))
                have HI5 := Lib.hid ((HI3.out.below Hd4.out Hd4.out.size).below hby hby.size)
                have H5 := Lib.hid h5
                have tokC := Lib.hid (Nat.le_refl 0)
                clear HBj hby h5 h5w
                cases gb with
                | false =>
                  have Hf := Lib.hid (show c = bestN g pn n (k + 1) by rw [Hs.out]; simp)
                  go_wp2_with (first
                    | (have tk := tokC; clear tokC; go_at_call 101; refine Cw.out.mono ?_; rintro e w6 ⟨A6, c6, rfl, hR6, hd6⟩; have hb6 := HBk.out.br.below hd6 HBk.out.lt; have h6 := H5.out.trans (hd6.mono H5.out.size); have hI6 := HI5.out.below hd6 hd6.size; have tokD := tk; clear hd6)
                    | (have tk := tokD; clear tokD; go_at_call 73; refine (cc.out A6 c6 _ k w6 hR6 hb6).mono ?_; rintro e w7 ⟨g7, k7, x, rfl, hcl, _, hbb7, _, hd7⟩; have h7 := h6.trans (hd7.mono h6.size); have c9 := cal.out g7 k7 x A3 c3 w7 hbb7.br (hI6.below hd7 hd7.size); rw [Hgk.out x hcl] at c9; have C9 := Lib.hid c9; have tokE := tk; clear c9 hcl hbb7 hd7 hR6 hb6 hI6)
                    | (have tk := tokE; clear tokE; go_at_call 100; refine C9.out.mono ?_; rintro e w8 ⟨rfl, rfl⟩; have h8 := h7))
                  go_roundw
                  case rel => exact ⟨k + 1, c, by omega, by go_num, rfl, Hf.out, hc10, h8⟩
                  case measure => simp [intOf]; omega
                | true =>
                  have Hf := Lib.hid (show q = bestN g pn n (k + 1) by rw [Hs.out, Hcc.out]; simp)
                  go_wp2_with (first
                    | (have tk := tokC; clear tokC; go_at_call 101; refine Cw.out.mono ?_; rintro e w6 ⟨A6, c6, rfl, hR6, hd6⟩; have hb6 := HBk.out.br.below hd6 HBk.out.lt; have h6 := H5.out.trans (hd6.mono H5.out.size); have hI6 := HI5.out.below hd6 hd6.size; have tokD := tk; clear hd6)
                    | (have tk := tokD; clear tokD; go_at_call 73; refine (cc.out A6 c6 _ k w6 hR6 hb6).mono ?_; rintro e w7 ⟨g7, k7, x, rfl, hcl, _, hbb7, _, hd7⟩; have h7 := h6.trans (hd7.mono h6.size); have c9 := cal.out g7 k7 x A3 c3 w7 hbb7.br (hI6.below hd7 hd7.size); rw [Hgk.out x hcl] at c9; have C9 := Lib.hid c9; have tokE := tk; clear c9 hcl hbb7 hd7 hR6 hb6 hI6)
                    | (have tk := tokE; clear tokE; go_at_call 100; refine C9.out.mono ?_; rintro e w8 ⟨rfl, rfl⟩; have h8 := h7))
                  go_roundw
                  case rel => exact ⟨k + 1, q, by omega, by go_num, rfl, Hf.out, hL10, h8⟩
                  case measure => simp [intOf]; omega
          · have hcd : decide ((0 : Int) < (c : Int)) = true := by simp; omega
            have hqd : decide ((c : Int) ≤ (q : Int)) = false := by simp; omega
            have hc0' : (0 : Int) < (c : Int) := by omega
            have hcq' : (q : Int) < (c : Int) := by omega
            have Hcc := Lib.hid hcc
            clear hcc
            go_wp2_with (first
              | (have tk := tokA; clear tokA; go_at_call 93; refine cbt.out.mono ?_; rintro e w3 ⟨A3, c3, rfl, hI3, hd⟩; have hb3 := Hb.out.trans (hd.mono Hb.out.size); have tokB := tk; obtain ⟨y0, y1, y2, _⟩ := HK.out _ hb3; clear hd)
              | (have tk := tokB; clear tokB; go_at_call 77; refine (cmk.out A3 c3 w3 hI3).mono ?_; rintro e w4 ⟨rfl, hbb4, hd4⟩; have hb4 := hb3.trans (hd4.mono hb3.size); have x0 := hbb4.cell hpn; rw [Hm.out] at hbb4 x0; rw [Hbit.out] at x0; have HB4 := Lib.hid hbb4; have Hd4 := Lib.hid hd4; have H4 := Lib.hid hb4; have HI3 := Lib.hid hI3; clear hI3 hbb4 hd4 hb3 y0 y1 y2; obtain ⟨y0, y1, y2, _⟩ := HK.out _ hb4; clear hb4))
            obtain ⟨hgB, hB0⟩ := And.intro (Below.refl w4.heap.size w4) (BB.made w4 hcs'.out hcz'.out)
            have HB0 := Lib.hid hB0
            clear hgB hB0
            go_loopw [16] (fun s16 wy => ∃ j : Nat, j ≤ q ∧ s16 = .int .i64 j ∧ Aside (BB w4.heap.size n (bs &&& mkTo L j) wy) ∧ Below w4.heap.size w4 wy) (fun s _ => q - (intOf s).toNat)
            case atStart => exact ⟨0, Nat.zero_le _, rfl, by rw [mkTo_zero, Nat.and_zero]; exact HB0.out, balloc (Below.refl _ _) _⟩
            case round =>
              obtain ⟨j, hj, rfl, HBj0, hby⟩ := hrel
              have HBj := Lib.hid HBj0.out
              clear HBj0 x0 y0 y1 y2 HB0
              by_cases hjq : j < q
              · have hjL : j < L.length := by rw [← Hq.out]; exact hjq
                obtain ⟨b3, o3, rfl, hb3, q0⟩ := HI3.out.at (k := j) (by rw [HlL'.out]; exact hjL)
                have e3 : (intL L)[j]'(by rw [HlL'.out]; exact hjL) = ((L[j] : Nat) : Int) := by simp [intL]
                rw [e3] at q0
                have q1 := (hby.cell (p := ⟨b3, o3 + j, none⟩) (Nat.lt_of_lt_of_le hb3 Hd4.out.size)).trans ((Hd4.out.cell (p := ⟨b3, o3 + j, none⟩) hb3).trans q0)
                have hx := HLn.out L[j] (List.getElem_mem hjL)
                have u0 := (HG.out _ (H4.out.trans (hby.mono H4.out.size))).1.2 L[j] hx
                have Hst2 := Lib.hid (begin_step hjL HBj.out)
                have v0 := HBj.out.cell hx
                have v1 := HBj.out.frozen L[j]
                have Hby := Lib.hid hby
                have hjq' : (j : Int) < (q : Int) := by omega
                generalize L[j] = y at q1 hx u0 Hst2 v0 v1
                generalize bs.testBit y = bv at u0 Hst2
                clear e3 q0 hby hb3
                go_wp2_with fail
                go_region
                all_goals
                  go_wp2_with fail
                  go_roundw
                  case rel => exact ⟨j + 1, by omega, by go_num, Hst2.out.drewN 1, Below.drew (below_put Hby.out (Nat.le_refl _) _ _)⟩
                  case measure => simp [intOf]; omega
              · obtain rfl : q = j := by omega
                have HBk := Lib.hid (show BB w4.heap.size n (bs &&& k) wr by have := HBj.out; rw [Hq.out, Hall.out, Hm.out] at this; exact this)
                have h5 := H4.out.trans (hby.mono H4.out.size)
                obtain ⟨y0, y1, y2, h5w⟩ := And.intro (HK.out _ h5).1 (And.intro (HK.out _ h5).2.1 (And.intro (HK.out _ h5).2.2.1 (HG.out _ h5).2))
                have Cw := Lib.hid (cw.out w3.heap.size n k wr h5w (HB4.out.br.below hby HB4.out.lt))
                have HI5 := Lib.hid ((HI3.out.below Hd4.out Hd4.out.size).below hby hby.size)
                have H5 := Lib.hid h5
                have tokC := Lib.hid (Nat.le_refl 0)
                clear HBj hby h5 h5w
                cases gb with
                | false =>
                  have Hf := Lib.hid (show c = bestN g pn n (k + 1) by rw [Hs.out]; simp)
                  go_wp2_with (first
                    | (have tk := tokC; clear tokC; go_at_call 101; refine Cw.out.mono ?_; rintro e w6 ⟨A6, c6, rfl, hR6, hd6⟩; have hb6 := HBk.out.br.below hd6 HBk.out.lt; have h6 := H5.out.trans (hd6.mono H5.out.size); have hI6 := HI5.out.below hd6 hd6.size; have tokD := tk; clear hd6)
                    | (have tk := tokD; clear tokD; go_at_call 73; refine (cc.out A6 c6 _ k w6 hR6 hb6).mono ?_; rintro e w7 ⟨g7, k7, x, rfl, hcl, _, hbb7, _, hd7⟩; have h7 := h6.trans (hd7.mono h6.size); have c9 := cal.out g7 k7 x A3 c3 w7 hbb7.br (hI6.below hd7 hd7.size); rw [Hgk.out x hcl] at c9; have C9 := Lib.hid c9; have tokE := tk; clear c9 hcl hbb7 hd7 hR6 hb6 hI6)
                    | (have tk := tokE; clear tokE; go_at_call 100; refine C9.out.mono ?_; rintro e w8 ⟨rfl, rfl⟩; have h8 := h7))
                  go_roundw
                  case rel => exact ⟨k + 1, c, by omega, by go_num, rfl, Hf.out, hc10, h8⟩
                  case measure => simp [intOf]; omega
                | true =>
                  have Hf := Lib.hid (show q = bestN g pn n (k + 1) by rw [Hs.out, Hcc.out]; simp)
                  go_wp2_with (first
                    | (have tk := tokC; clear tokC; go_at_call 101; refine Cw.out.mono ?_; rintro e w6 ⟨A6, c6, rfl, hR6, hd6⟩; have hb6 := HBk.out.br.below hd6 HBk.out.lt; have h6 := H5.out.trans (hd6.mono H5.out.size); have hI6 := HI5.out.below hd6 hd6.size; have tokD := tk; clear hd6)
                    | (have tk := tokD; clear tokD; go_at_call 73; refine (cc.out A6 c6 _ k w6 hR6 hb6).mono ?_; rintro e w7 ⟨g7, k7, x, rfl, hcl, _, hbb7, _, hd7⟩; have h7 := h6.trans (hd7.mono h6.size); have c9 := cal.out g7 k7 x A3 c3 w7 hbb7.br (hI6.below hd7 hd7.size); rw [Hgk.out x hcl] at c9; have C9 := Lib.hid c9; have tokE := tk; clear c9 hcl hbb7 hd7 hR6 hb6 hI6)
                    | (have tk := tokE; clear tokE; go_at_call 100; refine C9.out.mono ?_; rintro e w8 ⟨rfl, rfl⟩; have h8 := h7))
                  go_roundw
                  case rel => exact ⟨k + 1, q, by omega, by go_num, rfl, Hf.out, hL10, h8⟩
                  case measure => simp [intOf]; omega
      · obtain rfl : k = N := by omega
        have Hcd := Lib.hid (show decide ((0 : Int) < (c : Int)) = decide (0 < c) by simp)
        go_wp2_with fail
        refine bodyPost_ret (results_tmp3 rfl _ _ _) rfl ?_
        exact ⟨by rw [← HC.out, ← Hcd.out]; rfl, Hw.out.trans ((HG.out _ hb).2.mono Hw.out.size)⟩
  · have hsh : shR g b item prop = 0 := if_neg h0
    have h0d : (akR b item prop == 0) = false := by simpa using h0
    have h0e : (akR b item prop != 0) = true := by simpa using h0
    rw [hsh]
    generalize akR b item prop = e0 at *
    clear h h' hI hR hs hb0 hw0 hB h0 hsh hg
    go_enter Tryd.func54, Tryd.ntmps54
    go_wp2_with (go_at_call 87; rw [← hW0]; clear hW0; refine ca.out.mono ?_; rintro e w1 ⟨rfl, hd1⟩)
    refine bodyPost_ret (results_tmp3 rfl _ _ _) rfl ?_
    exact ⟨rfl, Hw.out.trans (hd1.mono Hw.out.size)⟩
end Go.Proofs.YtgoojcjfhghmgaaDoor

/- The law of the fewest properties. -/
set_option linter.unusedSimpArgs false
namespace Go.Proofs.YtgoojcjfhghmgaaDoor
open Go.RowKit

/-- Each number once. -/
def seenL (xs : List Int) : List Int := xs.foldl (fun sn x => if sn.contains x then sn else sn ++ [x]) []
theorem seen_take {xs : List Int} {i : Nat} (hi : i < xs.length) : seenL (xs.take (i + 1)) = if (seenL (xs.take i)).contains xs[i] then seenL (xs.take i) else seenL (xs.take i) ++ [xs[i]] := by
  rw [List.take_succ_eq_append_getElem hi, seenL, List.foldl_append]; rfl
theorem seen_le (xs : List Int) : ∀ i, (seenL (xs.take i)).length ≤ i
  | 0 => by simp [seenL]
  | i + 1 => by
    have ih := seen_le xs i
    by_cases hi : i < xs.length
    · rw [seen_take hi]
      split
      · omega
      · rw [List.length_append, List.length_singleton]; omega
    · rw [List.take_of_length_le (by omega)]
      rw [List.take_of_length_le (by omega)] at ih
      omega
theorem or_same {x t : Nat} (h : x.testBit t = true) : x ||| 2 ^ t = x := by
  apply Nat.eq_of_testBit_eq
  intro i
  rw [Nat.testBit_or, Nat.testBit_two_pow]
  by_cases hi : t = i
  · subst hi; simp [h]
  · simp [hi]
theorem seen_cnt {l : List St} {p : Nat} (h : ∀ s ∈ l, 0 ≤ s.1 ∧ s.1 < p) : ∀ i, i ≤ l.length → (seenL ((l.map (·.1)).take i)).length = cntB (kS (l.take i)) p ∧ ∀ q : Nat, (seenL ((l.map (·.1)).take i)).contains (q : Int) = (kS (l.take i)).testBit q
  | 0, _ => by
    refine ⟨?_, fun q => by simp [seenL, kS]⟩
    have : ∀ n, cntB 0 n = 0 := fun n => by
      induction n with
      | zero => rfl
      | succ n ih => simp [cntB, ih]
    simp [seenL, kS, this]
  | i + 1, hi => by
    obtain ⟨h1, h2⟩ := seen_cnt h i (by omega)
    have hil : i < l.length := by omega
    obtain ⟨h3, h4⟩ := h l[i] (List.getElem_mem hil)
    obtain ⟨t, ht⟩ := Int.eq_ofNat_of_zero_le h3
    have hx : (l.map (·.1))[i]'(by simpa using hil) = (t : Int) := by simp [ht]
    rw [seen_take (by simpa using hil), kS_take hil, ht, hx, h2 t, Int.toNat_natCast]
    cases hb : (kS (l.take i)).testBit t with
    | true =>
      rw [if_pos rfl, or_same hb]
      exact ⟨h1, h2⟩
    | false =>
      rw [if_neg (by decide), List.length_append, h1, cntB_or hb p (by omega)]
      refine ⟨rfl, fun q => ?_⟩
      rw [Nat.testBit_or, Nat.testBit_two_pow, ← h2 q, Bool.eq_iff_iff]
      simp only [List.contains_iff_mem, List.mem_append, List.mem_singleton, Bool.or_eq_true, decide_eq_true_eq]
      constructor
      · rintro (h | h)
        · exact .inl h
        · exact .inr (by omega)
      · rintro (h | h)
        · exact .inl h
        · exact .inr (by omega)
theorem ex_len {b : Bk} {item prop : Int} {ok : Bool} {l : List St} (h : ExR b item prop ok l) : l.length ≤ 10 := by
  unfold ExR at h
  split at h
  · rename_i h0
    obtain ⟨hn0, _, _⟩ := ak_zero h0
    obtain ⟨hv0, _, _⟩ := nm_zero hn0
    cases ok with
    | false => rw [h.2.1 rfl]; simp
    | true => exact (h.2.2 rfl).1.short (vl_zero hv0)
  · rw [h.2]; simp
theorem short_seen {b : Bk} {item prop : Int} {ok : Bool} {l : List St} {g : Nat → Bool} (hg : ∀ s, g s = true ↔ Gd b item.toNat s) (h : ExR b item prop ok l) (hp : 0 < shR g b item prop) : shR g b item prop ≤ (seenL (l.map (·.1))).length := by
  unfold shR at hp ⊢
  split at hp
  · rename_i h0
    rw [if_pos h0]
    obtain ⟨hP, hle⟩ := short_le h0 hg h (by omega)
    have := (seen_cnt (l := l) (p := b.p.toNat) (fun s hs => by
      obtain ⟨i, hi, rfl⟩ := List.mem_iff_getElem.1 hs
      have := rg_prop (hP i hi)
      omega) l.length (Nat.le_refl _)).1
    rw [List.take_length, List.take_of_length_le (by simp)] at this
    rw [this]
    exact hle
  · omega

set_option maxRecDepth 100000 in
set_option maxHeartbeats 1000000 in
theorem law_shortest (AI AR : Option Addr) (cI cR : Nat) (b : Bk) (item prop : Int) (w : World) (h : ItsAt w.heap.size w AI b.its) (h' : RusAt w.heap.size w AR b.rus) (hT : Tab w) :
    Calls Tryd.prog 14 #[.agg #[.int .i64 b.p, .slice AI b.its.length cI, .slice AR b.rus.length cR], .agg #[.int .i64 item, .int .i64 prop]] w fun e w' => e = .returned (.bool true) ∧ Below w.heap.size w w' := by
  obtain ⟨j0, hj, hy0, hy1, hy2⟩ := info_parts info3
  obtain ⟨W0, hW0⟩ : ∃ W0, W0 = (w.alloc (.cells #[.int .i64 b.p, .slice AI b.its.length cI, .slice AR b.rus.length cR] 25)).alloc (.cells #[.int .i64 item, .int .i64 prop] 52) := ⟨_, rfl⟩
  have hw0 : Below w.heap.size w W0 := by rw [hW0]; exact balloc (balloc (Below.refl _ _) _) _
  have hb0 : Blk W0 w.heap.size 25 #[.int .i64 b.p, .slice AI b.its.length cI, .slice AR b.rus.length cR] := by rw [hW0]; exact (Blk.new w 25 _).alloc _
  have hb1 : Blk W0 (w.heap.size + 1) 52 #[.int .i64 item, .int .i64 prop] := by rw [hW0]; exact blk_new' (by simp only [World.size_alloc])
  have hlt : w.heap.size < W0.heap.size := hb0.lt
  have hI := h.below hw0 (Nat.le_of_lt hlt)
  have hR := h'.below hw0 (Nat.le_of_lt hlt)
  have hT0 := hT.below hw0 hT.2
  have clg := Lib.hid (Long_any AI AR cI cR _ b W0 (Nat.le_refl _) hI hR)
  have ck := Lib.hid (fun W (hW : Below W0.heap.size W0 W) => known_any W (hT0.below hW hT0.2))
  have Hw := Lib.hid hw0
  have HX := Lib.hid (fun W (hW : Below W0.heap.size W0 W) => And.intro (blk3 (hb0.below hW hlt)) (blk2 (hb1.below hW hb1.lt)))
  have tok := Lib.hid (Nat.le_refl 0)
  cases hlg : lgR b with
  | true =>
    rw [hlg] at clg
    clear h h' hI hR hT hT0 hb0 hb1 hw0 hlg
    go_enter Tryd.func14, Tryd.ntmps14
    go_wp2_with (first
      | (have tk := tok; clear tok; go_at_call 17; rw [← hW0]; clear hW0; refine clg.out.mono ?_; rintro e w1 ⟨rfl, hd1⟩; have tok2 := tk; obtain ⟨⟨z0, z1, z2, _⟩, y0, y1, _⟩ := HX.out _ hd1)
      | (have tk := tok2; clear tok2; go_at_call 18; refine (ck.out _ hd1).mono ?_; rintro e w2 ⟨rfl, hd2⟩; have hb2 := hd1.trans (hd2.mono hd1.size)))
    go_ret
    exact ⟨rfl, Hw.out.trans (hb2.mono Hw.out.size)⟩
  | false =>
    rw [hlg] at clg
    have hs := lg_short hlg
    obtain ⟨g, hg⟩ : ∃ g : Nat → Bool, ∀ s, g s = true ↔ Gd b item.toNat s := ⟨fun s => @decide _ (Classical.propDecidable (Gd b item.toNat s)), fun s => by simp⟩
    have c1 := Lib.hid (fun W (hW : Below W0.heap.size W0 W) => Shortest_any AI AR cI cR W0.heap.size b item prop g W hW.size (hI.below hW (Nat.le_refl _)) (hR.below hW (Nat.le_refl _)) hs (hT0.below hW hT0.2) hg)
    have c2 := Lib.hid (fun W (hW : Below W0.heap.size W0 W) => Shortest_ref AI AR cI cR W0.heap.size b item prop g W hW.size (hI.below hW (Nat.le_refl _)) (hR.below hW (Nat.le_refl _)) hs hg)
    have c3 := Lib.hid (fun W (hW : Below W0.heap.size W0 W) => Explain_any AI AR cI cR W0.heap.size b item prop W hW.size (hI.below hW (Nat.le_refl _)) (hR.below hW (Nat.le_refl _)) hs (hT0.below hW hT0.2))
    have HS := Lib.hid (fun ok l (hE : ExR b item prop ok l) (hp : decide (0 < shR g b item prop) = true) => short_seen hg hE (by simpa using hp))
    have HE := Lib.hid (fun ok l (hE : ExR b item prop ok l) => ex_len hE)
    generalize shR g b item prop = r at c1 c2 HS
    generalize decide (0 < r) = is at c1 c2 HS
    generalize akR b item prop = e0 at c1 c2 c3
    clear h h' hI hR hT hT0 hb0 hb1 hw0 hlg hs hg
    go_enter Tryd.func14, Tryd.ntmps14
    go_wp2_with (first
      | (have tk := tok; clear tok; go_at_call 17; rw [← hW0]; clear hW0; refine clg.out.mono ?_; rintro e w1 ⟨rfl, hd1⟩; have tok2 := tk; obtain ⟨⟨z0, z1, z2, _⟩, y0, y1, _⟩ := HX.out _ hd1)
      | (have tk := tok2; clear tok2; go_at_call 53; refine (c1.out _ hd1).mono ?_; rintro e w2 ⟨rfl, hd⟩; have hb2 := hd1.trans (hd.mono hd1.size); have tok3 := tk; clear hd z0 z1 z2 y0 y1; obtain ⟨⟨z0, z1, z2, _⟩, y0, y1, _⟩ := HX.out _ hb2)
      | (have tk := tok3; clear tok3; go_at_call 54; refine (c2.out _ hb2).mono ?_; rintro e w3 ⟨rfl, hd⟩; have hb3 := hb2.trans (hd.mono hb2.size); have tok4 := tk; clear hd z0 z1 z2 y0 y1; obtain ⟨⟨z0, z1, z2, _⟩, y0, y1, _⟩ := HX.out _ hb3)
      | (have tk := tok4; clear tok4; go_at_call 41; refine (c3.out _ hb3).mono ?_; rintro e w4 ⟨A2, k2, ok, l, rfl, hL2, hE2, hd⟩; have hb4 := hb3.trans (hd.mono hb3.size); have HL2 := Lib.hid hL2; have HE2 := Lib.hid hE2; clear hd hL2 hE2 z0 z1 z2 y0 y1))
    have hl10 := HE.out _ _ HE2.out
    have HSe := Lib.hid (HS.out _ _ HE2.out)
    have Hxl := Lib.hid (show (l.map (·.1)).length = l.length by simp)
    have HA := Lib.hid (show (l.map (·.1)).take l.length = l.map (·.1) from List.take_of_length_le (by simp))
    generalize hxs : l.map (·.1) = xs at HSe Hxl HA
    have Hxs := Lib.hid hxs
    clear hxs
    go_loopw [14, 15] (fun seen s15 wr => ∃ k : Nat, k ≤ l.length ∧ s15 = .int .i64 k ∧ wr.ownsRow w4.heap.size 3 1 seen (seenL (xs.take k)).length ((seenL (xs.take k)).map (Value.int .i64)) ∧ Below w4.heap.size w4 wr) (fun _ s _ => l.length - (intOf s).toNat)
    case atStart => exact ⟨0, Nat.zero_le _, rfl, World.ownsRow_nil _ _ _ _, Below.refl _ _⟩
    case round =>
      obtain ⟨k, hk, rfl, hown, hb⟩ := hrel
      have hsl := seen_le xs k
      obtain ⟨A5, c5, rfl, hI5⟩ := IntsAt.of_own' hown
      by_cases hlt : k < l.length
      · obtain ⟨bb, off, rfl, hbB, q0, _, _⟩ := HL2.out k hlt
        have hxk : k < xs.length := by rw [Hxl.out]; exact hlt
        have d0 := (hb.cell (p := ⟨bb, off + k * 3, none⟩) hbB).trans q0
        have ek : l[k].1 = xs[k] := by simp [← Hxs.out]
        rw [ek] at d0
        have Hs := Lib.hid (seen_take hxk)
        generalize xs[k] = x at d0 Hs
        have cH := Lib.hid (Has_ref A5 c5 wr.heap.size (seenL (xs.take k)) x wr hI5 (by omega))
        have HO := Lib.hid hown
        have Hb := Lib.hid hb
        clear ek q0 hown hb hI5
        generalize seenL (xs.take k) = sl at *
        cases hc : sl.contains x with
        | true =>
          rw [hc] at cH Hs
          have Hf := Lib.hid (show seenL (xs.take (k + 1)) = sl by rw [Hs.out]; simp)
          clear hc
          go_wp2_with (go_at_call 30; refine cH.out.mono ?_; rintro e w6 ⟨rfl, rfl⟩)
          go_roundw
          case rel => exact ⟨k + 1, by omega, by go_num, by rw [Hf.out]; exact HO.out, Hb.out⟩
          case measure => simp [intOf]; omega
        | false =>
          rw [hc] at cH Hs
          have Hf := Lib.hid (show seenL (xs.take (k + 1)) = sl ++ [x] by rw [Hs.out]; simp)
          clear hc
          go_wp2_with (first
            | (go_at_call 30; refine cH.out.mono ?_; rintro e w6 ⟨rfl, rfl⟩)
            | (at_builtin; refine wpList_append_own _ rfl _ _ 32 rfl w4.heap.size 3 j0 _ 1 8 Tryd.underlying32 hj hy0 hy1 hy2 rfl (by decide) _ _ _ rfl (HO.out.alloc _) ⟨_, 0, none⟩ 1 1 _ rfl rfl (cell_one_new _ _ _) (by simp [Value.oneCell']) (by simp only [maxLen]; omega) (by omega) (Hb.out.alloc Hb.out.size _).size ?_; intro v' w7 hown7 hg7 _))
          have b7 : Below w4.heap.size w4 w7 := (Hb.out.alloc Hb.out.size _).grown hg7 (Hb.out.alloc Hb.out.size _).size (fun x hx => (HO.out.lt x hx).1)
          go_roundw
          case rel => exact ⟨k + 1, by omega, by go_num, by rw [Hf.out, List.length_append, List.map_append]; exact hown7, b7⟩
          case measure => simp [intOf]; omega
      · obtain rfl : k = l.length := by omega
        have HSe2 := Lib.hid HSe.out
        rw [← HA.out] at HSe2
        have hb5 := hb4.trans (hb.mono hb4.size)
        clear hown hI5 hb HSe HS
        generalize seenL (xs.take l.length) = sl at *
        cases is with
        | false =>
          go_wp2_with (go_at_call 18; refine (ck.out _ hb5).mono ?_; rintro e w6 ⟨rfl, hd2⟩; have hb6 := hb5.trans (hd2.mono hb5.size))
          go_ret
          exact ⟨rfl, Hw.out.trans (hb6.mono Hw.out.size)⟩
        | true =>
          have hle := HSe2.out rfl
          have hle2 : (r : Int) ≤ (sl.length : Int) := by omega
          have hled : decide ((r : Int) ≤ (sl.length : Int)) = true := by simpa using hle
          clear HSe2
          go_wp2_with (go_at_call 18; refine (ck.out _ hb5).mono ?_; rintro e w6 ⟨rfl, hd2⟩; have hb6 := hb5.trans (hd2.mono hb5.size))
          go_ret
          exact ⟨rfl, Hw.out.trans (hb6.mono Hw.out.size)⟩
end Go.Proofs.YtgoojcjfhghmgaaDoor
