/- Items of a copy, of which lists of parts are replaced; marks and places of an exchange: plain. -/
import Derived.Test.YtgoojcjfhghmgaaDoorDisHc
import Derived.Test.YtgoojcjfhghmgaaDoorDisH
import Derived.Test.YtgoojcjfhghmgaaDoorDisY
import Derived.Test.YtgoojcjfhghmgaaDoorDisFf
import Derived.Test.YtgoojcjfhghmgaaDoorDisHf
import Derived.Test.YtgoojcjfhghmgaaDoorDisEa
import Derived.Test.YtgoojcjfhghmgaaDoorDisEe

set_option linter.unusedSimpArgs false
set_option linter.unusedVariables false
namespace Go.Proofs.YtgoojcjfhghmgaaDoor
open Go Go.RowKit Go.Sort

theorem own_take {w : World} {base e s n c : Nat} {A : Option Addr} {xs : List Value} (h : w.ownsRow base e s (.slice A n c) n xs) {m : Nat} (hm : m ≤ n) (hn : 0 < n) : w.ownsRow base e s (.slice A m c) m (xs.take (m * s)) := by
  obtain ⟨g, cs, rfl, hb, hk, h1, h2, h3, rfl⟩ := own_blk h hn
  refine blk_own hb hk (by omega) h2 h3 ?_
  rw [List.take_take, Nat.min_eq_left (Nat.mul_le_mul_right s hm)]
theorem compact_own2 (base c : Nat) (A : Option Addr) (zs : List Int) (w : World) (hz : zs.length ≤ 1000000) (hown : w.ownsRow base 3 1 (.slice A zs.length c) zs.length (zs.map (Value.int .i64))) :
    Calls Tryd.prog 118 #[.slice A zs.length c] w fun e w' => e = .returned (.slice A (Lib.compact zs).length c) ∧ w'.ownsRow base 3 1 (.slice A (Lib.compact zs).length c) (Lib.compact zs).length ((Lib.compact zs).map (Value.int .i64)) ∧ w.grownBy w' (Value.slice A zs.length c).ownBlock := by
  by_cases h0 : zs.length = 0
  · obtain rfl : zs = [] := List.eq_nil_of_length_eq_zero h0
    refine (Tryd.slices_Compact_int_empty A c w).mono ?_
    rintro e w' ⟨rfl, rfl⟩
    exact ⟨rfl, hown, World.grownBy.refl _ _⟩
  · rcases hown.2 with ⟨_, h1⟩ | ⟨gb, cap, cur, hv, hbase, hgb, r1, r2, r3, r4⟩
    · exact absurd h1 h0
    · injection hv with e1 e2 e3
      subst e1 e3
      have hH : Holds (Value.int .i64) w gb 0 zs.toArray := holds_of_block_i hgb (by simpa using r4)
      have hcl := Lib.compact_length_le zs
      refine (Tryd.slices_Compact_int gb 0 c zs w hH (by omega) r1).mono ?_
      rintro e w' ⟨rfl, q, rfl⟩
      have hts : (Lib.compact zs ++ List.replicate (zs.length - (Lib.compact zs).length) 0).length = zs.length := by simp; omega
      have ho := ownsRow_sorted_i (os := #[]) (n := q) hts hbase hgb r1 r2 r3
      have hg := grownBy_sorted_i (w := w) (g := gb) (n := q) (os := #[]) (Lib.compact zs ++ List.replicate (zs.length - (Lib.compact zs).length) 0).toArray
      have e0 : ∀ W : World, grow W #[] = W := fun W => by simp [grow]
      rw [e0] at ho hg
      have ht := own_take ho (m := (Lib.compact zs).length) hcl (by omega)
      rw [Nat.mul_one, List.map_append, List.take_left' (by simp)] at ht
      exact ⟨rfl, ht, hg⟩
theorem sorted_own (A : Option Addr) (c B : Nat) (l : List Int) (w : World) (hz : l.length ≤ 1000000) (h : IntsAt B w A l) :
    Calls Tryd.prog 105 #[.slice A l.length c] w fun e w' => ∃ A' c', e = .returned (.slice A' (srt l).length c') ∧ w'.ownsRow w.heap.size 3 1 (.slice A' (srt l).length c') (srt l).length ((srt l).map (Value.int .i64)) ∧ Below w.heap.size w w' := by
  have cc := Lib.hid (clone_any A c B l w hz h)
  have hlen : (l.mergeSort fun x y => decide (x ≤ y)).length = l.length := by simp
  clear h
  go_enter Tryd.func105, Tryd.ntmps105
  go_wp2_with (first
    | (go_at_call 112; refine cc.out.mono ?_; rintro e w1 ⟨v, rfl, hrow, hb⟩; obtain ⟨A1, c1, hv⟩ := own_form hrow; subst hv)
    | (go_at_call 117; refine (sort_own w.heap.size _ l _ hz hrow).mono ?_; rintro e w2 ⟨rfl, hrow2, hg⟩; have hb2 : Below w.heap.size w w2 := hb.grown hg hb.size fun k hk => (hrow.lt k hk).1; rw [← hlen] at hrow2)
    | (go_at_call 118; rw [← hlen]; refine (compact_own2 w.heap.size c1 A1 _ _ (by rw [hlen]; exact hz) hrow2).mono ?_; rintro e w3 ⟨rfl, hI3, hg3⟩))
  go_ret
  exact ⟨A1, c1, rfl, hI3, hb2.grown hg3 hb2.size fun k hk => (hrow2.lt k hk).1⟩

theorem index_any (A : Option Addr) (c B : Nat) (zs : List Int) (x : Int) (w : World) (hz : zs.length ≤ 1000000) (h : IntsAt B w A zs) :
    Calls Tryd.prog 111 #[.slice A zs.length c, .int .i64 x] w fun e w' => e = .returned (.int .i64 (Lib.idxOf zs x)) ∧ w' = w := by
  by_cases h0 : zs.length = 0
  · obtain rfl : zs = [] := List.eq_nil_of_length_eq_zero h0
    exact Tryd.slices_Index_int_empty A c x w
  · obtain ⟨b, off, rfl, _, _⟩ := h.at (k := 0) (by omega)
    refine (Tryd.slices_Index_int b off zs.length c zs x w (Nat.le_refl _) (by omega) (fun j hj => ?_)).mono fun e w' ⟨he, hw⟩ => ⟨by rw [he, List.take_length], hw⟩
    rw [(h.cells hj).2]; simp [hj]
theorem idx_in {l : List Int} (hA : l.Pairwise (· < ·)) {x : Int} (h : x ∈ l) : ∃ k, ∃ hk : k < l.length, Lib.idxOf l x = (k : Nat) ∧ l[k] = x := by
  obtain ⟨k, hk, rfl⟩ := List.getElem_of_mem h
  refine ⟨k, hk, ?_, rfl⟩
  have := Lib.idxOf_hit l l.length k l[k] hk (Nat.le_refl _) (by simp [hk]) (fun j hj => by
    have := List.pairwise_iff_getElem.1 hA j k (by omega) hk hj
    rw [List.getD_eq_getElem?_getD, List.getElem?_eq_getElem (by omega)]
    simp only [Option.getD_some]
    omega)
  rwa [List.take_length] at this
theorem idx_out {l : List Int} {x : Int} (h : x ∉ l) : Lib.idxOf l x = -1 := by
  have := Lib.idxOf_miss l l.length x (fun j hj e => by
    rw [List.getD_eq_getElem?_getD, List.getElem?_eq_getElem hj] at e
    simp only [Option.getD_some] at e
    exact h (by rw [← e]; exact List.getElem_mem hj))
  rwa [List.take_length] at this
theorem compactUpTo_in (d : Array Int) : ∀ (m : Nat), m ≤ d.size → ∀ j (hj : j < d.size), j < m → d[j] ∈ Lib.compactUpTo d m
  | 0, _, j, hj, h => by omega
  | m + 1, hm, j, hj, h => by
    rw [Lib.compactUpTo_succ, List.mem_append]
    by_cases hjm : j < m
    · exact .inl (compactUpTo_in d m (by omega) j hj hjm)
    · obtain rfl : j = m := by omega
      by_cases hk : Lib.keeps d j = true
      · rw [if_pos hk]; exact .inr (by simp [getElem!_pos d j hj])
      · have h0 : ¬ (j = 0 ∨ d[j]! ≠ d[j - 1]!) := fun e => hk (by unfold Lib.keeps; simpa using e)
        have hj0 : j ≠ 0 := fun e => h0 (.inl e)
        have he : d[j]! = d[j - 1]! := Classical.byContradiction fun e => h0 (.inr e)
        rw [getElem!_pos d j hj, getElem!_pos d (j - 1) (by omega)] at he
        rw [he]
        exact .inl (compactUpTo_in d j (by omega) (j - 1) (by omega) (by omega))
theorem mem_srt {l : List Int} {x : Int} : x ∈ srt l ↔ x ∈ l := by
  unfold srt Lib.compact
  rw [← (List.mergeSort_perm l fun x y => decide (x ≤ y)).mem_iff]
  generalize l.mergeSort (fun x y => decide (x ≤ y)) = s
  constructor
  · intro h
    obtain ⟨j, hj, _, rfl⟩ := compactUpTo_mem s.toArray _ (by simp) x h
    exact List.getElem_mem (by simpa using hj)
  · intro h
    obtain ⟨k, hk, rfl⟩ := List.getElem_of_mem h
    exact compactUpTo_in s.toArray _ (by simp) k (by simpa using hk) hk
end Go.Proofs.YtgoojcjfhghmgaaDoor


set_option linter.unusedSimpArgs false
set_option linter.unusedVariables false
namespace Go.Proofs.YtgoojcjfhghmgaaDoor
open Go Go.RowKit

theorem asc_extI : ∀ {a b : List Int}, a.Pairwise (· < ·) → b.Pairwise (· < ·) → (∀ i, i ∈ a ↔ i ∈ b) → a = b
  | [], [], _, _, _ => rfl
  | [], y :: b, _, _, h => by have := (h y).2 (by simp); simp at this
  | x :: a, [], _, _, h => by have := (h x).1 (by simp); simp at this
  | x :: a, y :: b, ha, hb, h => by
    rw [List.pairwise_cons] at ha hb
    have e : x = y := by
      have h1 := (h x).1 (by simp)
      have h2 := (h y).2 (by simp)
      rcases List.mem_cons.1 h1 with rfl | h1
      · rfl
      · rcases List.mem_cons.1 h2 with rfl | h2
        · rfl
        · have := ha.1 y h2; have := hb.1 x h1; omega
    subst e
    rw [asc_extI ha.2 hb.2 fun i => ?_]
    constructor
    · intro hi
      have := ha.1 i hi
      rcases List.mem_cons.1 ((h i).1 (List.mem_cons_of_mem _ hi)) with rfl | h2
      · omega
      · exact h2
    · intro hi
      have := hb.1 i hi
      rcases List.mem_cons.1 ((h i).2 (List.mem_cons_of_mem _ hi)) with rfl | h2
      · omega
      · exact h2
/-- Parts of an item after an exchange. -/
def exM (P : List Int) (s : Int × Int) : List Int := if s.1 ∈ P then srt (P.map fun y => if y = s.1 then s.2 else y) else P
theorem exM_out {P : List Int} {s : Int × Int} (h : s.1 ∉ P) : exM P s = P := if_neg h
theorem exM_asc {P : List Int} {s : Int × Int} (h : P.Pairwise (· < ·)) : (exM P s).Pairwise (· < ·) := by
  unfold exM
  split
  · exact srt_asc _
  · exact h
theorem exM_length (P : List Int) (s : Int × Int) : (exM P s).length ≤ P.length := by
  unfold exM
  split
  · exact Nat.le_trans (srt_length _) (by simp)
  · exact Nat.le_refl _
theorem mem_exM {P : List Int} {s : Int × Int} {x : Int} (hs : s.1 ∈ P) : x ∈ exM P s ↔ (x ∈ P ∧ x ≠ s.1) ∨ x = s.2 := by
  unfold exM
  rw [if_pos hs, mem_srt, List.mem_map]
  constructor
  · rintro ⟨y, hy, rfl⟩
    by_cases e : y = s.1
    · rw [if_pos e]; exact .inr rfl
    · rw [if_neg e]; exact .inl ⟨hy, e⟩
  · rintro (⟨h1, h2⟩ | rfl)
    · exact ⟨x, h1, if_neg h2⟩
    · exact ⟨s.1, hs, if_pos rfl⟩
theorem exM_set {P : List Int} {s : Int × Int} (h : P.Pairwise (· < ·)) {k : Nat} (hk : k < P.length) (he : P[k] = s.1) : srt (P.set k s.2) = exM P s := by
  have hs : s.1 ∈ P := by rw [← he]; exact List.getElem_mem hk
  unfold exM
  rw [if_pos hs]
  congr 1
  apply List.ext_getElem (by simp)
  intro i h1 h2
  have hi : i < P.length := by simpa using h1
  rw [List.getElem_set, List.getElem_map]
  by_cases e : k = i
  · subst e; rw [if_pos rfl, if_pos he]
  · rw [if_neg e, if_neg]
    intro e2
    have e3 : P[i] = P[k] := e2.trans he.symm
    rcases Nat.lt_or_gt_of_ne e with hl | hl
    · have := List.pairwise_iff_getElem.1 h k i hk hi hl; omega
    · have := List.pairwise_iff_getElem.1 h i k hi hk hl; omega
theorem exM_same {P : List Int} {s : Int × Int} (h : P.Pairwise (· < ·)) (he : s.1 = s.2) : exM P s = P := by
  unfold exM
  split
  · rw [show (P.map fun y => if y = s.1 then s.2 else y) = P from ?_]
    · exact srt_self h
    · conv => rhs; rw [← List.map_id P]
      exact List.map_congr_left fun y _ => by
        by_cases e : y = s.1
        · rw [if_pos e, ← he, e]; rfl
        · rw [if_neg e]; rfl
  · rfl
/-- The items after an exchange, as far as item k. -/
def exK (l : List It) (s : Int × Int) (k : Nat) : List It := l.mapIdx fun i x => if i < k then (exM x.1 s, x.2) else x
theorem exK_length (l : List It) (s : Int × Int) (k : Nat) : (exK l s k).length = l.length := by simp [exK]
theorem exK_get (l : List It) (s : Int × Int) (k : Nat) {i : Nat} (hi : i < l.length) : (exK l s k)[i]'(by rw [exK_length]; exact hi) = if i < k then (exM l[i].1 s, l[i].2) else l[i] := by simp [exK]
theorem exK_zero (l : List It) (s : Int × Int) : exK l s 0 = l := by
  apply List.ext_getElem (by simp [exK])
  intro i h1 h2
  rw [exK_get l s 0 h2, if_neg (by omega)]
theorem exK_set (l : List It) (s : Int × Int) {k : Nat} (hk : k < l.length) : (exK l s k).set k (exM l[k].1 s, l[k].2) = exK l s (k + 1) := by
  apply List.ext_getElem (by simp [exK])
  intro i h1 h2
  have hi : i < l.length := by simpa [exK] using h2
  rw [List.getElem_set, exK_get l s (k + 1) hi]
  by_cases e : k = i
  · subst e; rw [if_pos rfl, if_pos (by omega)]
  · rw [if_neg e, exK_get l s k hi]
    by_cases h : i < k
    · rw [if_pos h, if_pos (by omega)]
    · rw [if_neg h, if_neg (by omega)]
theorem exK_skip (l : List It) (s : Int × Int) {k : Nat} (hk : k < l.length) (h : exM l[k].1 s = l[k].1) : exK l s k = exK l s (k + 1) := by
  rw [← exK_set l s hk, h]
  apply List.ext_getElem (by simp)
  intro i h1 h2
  rw [List.getElem_set]
  by_cases e : k = i
  · subst e; rw [if_pos rfl, exK_get l s k hk, if_neg (by omega)]
  · rw [if_neg e]
/-- No part would come after its item. -/
def exOk (l : List It) (s : Int × Int) : Prop := ∀ k (hk : k < l.length), s.1 ∈ l[k].1 → s.2 < k
/-- Ordered parts, each before its item. -/
def Ord (l : List It) : Prop := ∀ k (hk : k < l.length), l[k].1.Pairwise (· < ·) ∧ ∀ x ∈ l[k].1, 0 ≤ x ∧ x < (k : Int)
theorem Ord.next {l : List It} {s : Int × Int} (h : Ord l) (ho : exOk l s) (h0 : 0 ≤ s.2) : Ord (exK l s l.length) := fun k hk => by
  have hk' : k < l.length := by rwa [exK_length] at hk
  rw [exK_get l s l.length hk', if_pos hk']
  refine ⟨exM_asc (h k hk').1, fun x hx => ?_⟩
  by_cases hs : s.1 ∈ l[k].1
  · rcases (mem_exM hs).1 hx with ⟨h1, _⟩ | rfl
    · exact (h k hk').2 x h1
    · exact ⟨h0, ho k hk' hs⟩
  · rw [exM_out hs] at hx; exact (h k hk').2 x hx
open Classical in
/-- The items after exchanges, if none fails. -/
noncomputable def exN (l : List It) (ss : List (Int × Int)) : Option (List It) := ss.foldl (fun o s => o.bind fun l => if exOk l s then some (exK l s l.length) else none) (some l)
theorem exN_nil (l : List It) : exN l [] = some l := rfl
theorem exN_good {l m : List It} {ss : List (Int × Int)} {j : Nat} (hj : j < ss.length) (h : exN l (ss.take j) = some m) (ho : exOk m ss[j]) : exN l (ss.take (j + 1)) = some (exK m ss[j] m.length) := by
  unfold exN at h ⊢
  rw [List.take_succ_eq_append_getElem hj, List.foldl_append, h]
  simp [ho]
theorem exN_none : ∀ (ss : List (Int × Int)), (ss.foldl (fun o s => o.bind fun l => open Classical in if exOk l s then some (exK l s l.length) else none) none) = none
  | [] => rfl
  | s :: ss => by rw [List.foldl_cons]; exact exN_none ss
theorem exN_bad {l m : List It} {ss : List (Int × Int)} {j : Nat} (hj : j < ss.length) (h : exN l (ss.take j) = some m) (ho : ¬ exOk m ss[j]) : exN l ss = none := by
  unfold exN at h ⊢
  conv => lhs; rw [← List.take_append_drop j ss]
  rw [List.foldl_append, h, List.drop_eq_getElem_cons hj, List.foldl_cons]
  simp only [Option.bind_some, ho, if_false]
  exact exN_none _
theorem exN_facts {l : List It} (hl : Ord l) : ∀ {ss : List (Int × Int)}, (∀ s ∈ ss, 0 ≤ s.2) → ∀ (j : Nat) {m : List It}, j ≤ ss.length → exN l (ss.take j) = some m → Ord m ∧ m.length = l.length ∧ ∀ (M : Nat), (∀ x ∈ l, x.1.length ≤ M ∧ x.2.length ≤ M) → ∀ x ∈ m, x.1.length ≤ M ∧ x.2.length ≤ M
  | ss, h0, 0, m, _, h => by
    have : l = m := by simpa [exN] using h
    subst this
    exact ⟨hl, rfl, fun M hM => hM⟩
  | ss, h0, j + 1, m, hj, h => by
    have hjl : j < ss.length := hj
    unfold exN at h
    rw [List.take_succ_eq_append_getElem hjl, List.foldl_append, List.foldl_cons, List.foldl_nil] at h
    obtain ⟨m0, e0, h⟩ := Option.bind_eq_some_iff.1 h
    obtain ⟨g1, g2, g3⟩ := exN_facts hl h0 j (by omega) (show exN l (ss.take j) = some m0 from e0)
    split at h
    · rename_i ho
      injection h with h
      subst h
      refine ⟨g1.next ho (h0 _ (List.getElem_mem hjl)), by rw [exK_length, g2], fun M hM x hx => ?_⟩
      obtain ⟨i, hi, rfl⟩ := List.getElem_of_mem hx
      have hi' : i < m0.length := by rwa [exK_length] at hi
      rw [exK_get m0 _ _ hi', if_pos hi']
      have := g3 M hM _ (List.getElem_mem hi')
      have h2 := exM_length m0[i].1 ss[j]
      exact ⟨by simp only; omega, this.2⟩
    · cases h
/-- What is wrong with exchanges. -/
def swE (n : Nat) (ss : List (Int × Int)) : Int := if 8 < ss.length then 4 else if (ss.all fun s => decide (0 ≤ s.1 ∧ s.1 < (n : Int) ∧ 0 ≤ s.2 ∧ s.2 < (n : Int))) = true then 0 else 5
theorem sw_zero {n : Nat} {ss : List (Int × Int)} (h : swE n ss = 0) : ss.length ≤ 8 ∧ ∀ s ∈ ss, 0 ≤ s.1 ∧ s.1 < (n : Int) ∧ 0 ≤ s.2 ∧ s.2 < (n : Int) := by
  unfold swE at h
  split at h
  · cases h
  · split at h
    · rename_i h1 h2
      exact ⟨by omega, fun s hs => by simpa using List.all_eq_true.1 h2 s hs⟩
    · cases h
theorem vl_ord {b : Bk} (h : VBk b) : Ord b.its := fun k hk => by
  have := (h.parts k hk).2.1
  unfold isS at this
  rw [Bool.and_eq_true, decide_eq_true_eq, List.all_eq_true] at this
  exact ⟨this.1, fun x hx => by simpa using this.2 x hx⟩
end Go.Proofs.YtgoojcjfhghmgaaDoor


set_option linter.unusedSimpArgs false
set_option linter.unusedVariables false
namespace Go.Proofs.YtgoojcjfhghmgaaDoor
open Go Go.RowKit

def swB (n : Nat) (s : Int × Int) : Prop := 0 ≤ s.1 ∧ s.1 < (n : Int) ∧ 0 ≤ s.2 ∧ s.2 < (n : Int)
theorem sw_good {n : Nat} {ss : List (Int × Int)} (h8 : ss.length ≤ 8) (h : ∀ s ∈ ss, swB n s) : swE n ss = 0 := by
  unfold swE
  rw [if_neg (by omega), if_pos (List.all_eq_true.2 fun s hs => by simpa [swB] using h s hs)]
theorem sw_bad {n : Nat} {ss : List (Int × Int)} (h8 : ss.length ≤ 8) {j : Nat} (hj : j < ss.length) (h : ¬ swB n ss[j]) : swE n ss = 5 := by
  unfold swE
  rw [if_neg (by omega), if_neg]
  intro e
  have := List.all_eq_true.1 e _ (List.getElem_mem hj)
  exact h (by simpa [swB] using this)
theorem sw_long {n : Nat} {ss : List (Int × Int)} (h8 : ¬ ss.length ≤ 8) : swE n ss = 4 := by
  unfold swE
  rw [if_pos (by omega)]

set_option maxRecDepth 100000 in
set_option maxHeartbeats 4000000 in
theorem swappable_any (AI AR : Option Addr) (cI cR : Nat) (A : Option Addr) (c B : Nat) (b : Bk) (ss : List (Int × Int)) (w : World) (hB : B ≤ w.heap.size) (h : PairsAt B w A ss) (hn : b.its.length ≤ 60) (hm : ss.length ≤ 1000) :
    Calls Tryd.prog 94 #[.agg #[.int .i64 b.p, .slice AI b.its.length cI, .slice AR b.rus.length cR], .slice A ss.length c] w fun e w' => e = .returned (.int .i64 (swE b.its.length ss)) ∧ Below w.heap.size w w' := by
  have hT := h.below (Below.refl _ _) hB
  clear h
  generalize b.its.length = n at *
  by_cases h8 : ss.length ≤ 8
  · have hd : decide ((8 : Int) < (ss.length : Int)) = false := by simp; omega
    have Hg := Lib.hid (fun h => sw_good (n := n) h8 h)
    have Hbd := Lib.hid (fun j (hj : j < ss.length) h => sw_bad (n := n) h8 hj h)
    generalize swE n ss = r at Hg Hbd ⊢
    obtain ⟨W0, hW0⟩ : ∃ W0, W0 = w.alloc (.cells #[.int .i64 b.p, .slice AI n cI, .slice AR b.rus.length cR] 25) := ⟨_, rfl⟩
    have hb0 : Blk W0 w.heap.size 25 #[.int .i64 b.p, .slice AI n cI, .slice AR b.rus.length cR] := by rw [hW0]; exact Blk.new w 25 _
    have hw0 : Below w.heap.size w W0 := by rw [hW0]; exact balloc (Below.refl _ _) _
    have hlt := hb0.lt
    have HX := Lib.hid (fun W (hW : Below W0.heap.size W0 W) => blk3 (hb0.below hW hlt))
    have HT := Lib.hid (fun W (hW : Below W0.heap.size W0 W) => (hT.below hw0 hw0.size).below hW (Nat.le_refl _))
    have Hw := Lib.hid hw0
    clear hT hb0 hw0 h8 hB
    go_enter Tryd.func94, Tryd.ntmps94
    go_wp2_with fail
    rw [← hW0]
    clear hW0
    have Hrefl := Lib.hid (Below.refl W0.heap.size W0)
    go_loopw [12] (fun vi wx => ∃ i : Nat, i ≤ ss.length ∧ vi = .int .i64 i ∧ Aside (∀ s ∈ ss.take i, swB n s) ∧ Below W0.heap.size W0 wx) (fun vi _ => ss.length - (intOf vi).toNat)
    case atStart => exact ⟨0, Nat.zero_le _, rfl, (fun x hx => by simp at hx), Hrefl.out⟩
    case round =>
      clear Hrefl
      obtain ⟨i, hi, rfl, hok, hb⟩ := hrel
      have HO := Lib.hid hok.out
      clear hok
      by_cases hlt2 : i < ss.length
      · obtain ⟨g, off, rfl, hgB, q0, q1⟩ := (HT.out _ hb).at hlt2
        obtain ⟨z0, z1, z2, _⟩ := HX.out (wr.alloc (.cells #[.int .i64 ss[i].1, .int .i64 ss[i].2] 79)) (balloc hb _)
        have hb1 : Below W0.heap.size W0 (wr.alloc (.cells #[.int .i64 ss[i].1, .int .i64 ss[i].2] 79)) := balloc hb _
        have Hb1 := Lib.hid hb1
        have hiI : (i : Int) < (ss.length : Int) := by omega
        clear hb hb1
        by_cases hs : swB n ss[i]
        · have HO2 := Lib.hid (show ∀ s ∈ ss.take (i + 1), swB n s from fun s hs' => by
            rw [List.take_succ_eq_append_getElem hlt2, List.mem_append] at hs'
            rcases hs' with h1 | h1
            · exact HO.out s h1
            · rw [List.mem_singleton] at h1; subst h1; exact hs)
          obtain ⟨s1, s2, s3, s4⟩ := hs
          generalize ss[i] = s at *
          obtain ⟨x, y⟩ := s
          simp only at s1 s2 s3 s4 q0 q1 z0 z1 z2 Hb1 ⊢
          go_wp2_with fail
          go_roundw
          case rel => exact ⟨i + 1, by omega, by go_num, HO2.out, Hb1.out⟩
          case measure => simp [intOf]; omega
        · have HR := Lib.hid (Hbd.out i hlt2 hs)
          unfold swB at hs
          have hs2 := Lib.hid hs
          clear hs HO Hbd Hg
          generalize ss[i] = s at *
          obtain ⟨x, y⟩ := s
          simp only at q0 q1 z0 z1 z2 Hb1 hs2 ⊢
          by_cases s1 : 0 ≤ x
          · by_cases s2 : x < (n : Int)
            · by_cases s3 : 0 ≤ y
              · have s4 : (n : Int) ≤ y := by have := hs2.out; omega
                clear hs2
                go_wp2_with fail
                go_ret
                exact ⟨by rw [HR.out]; rfl, Hw.out.trans (Hb1.out.mono Hw.out.size)⟩
              · have s4 : y < 0 := by omega
                clear hs2 s3
                go_wp2_with fail
                go_ret
                exact ⟨by rw [HR.out]; rfl, Hw.out.trans (Hb1.out.mono Hw.out.size)⟩
            · have s4 : (n : Int) ≤ x := by omega
              clear hs2 s2
              go_wp2_with fail
              go_ret
              exact ⟨by rw [HR.out]; rfl, Hw.out.trans (Hb1.out.mono Hw.out.size)⟩
          · have s4 : x < 0 := by omega
            clear hs2 s1
            go_wp2_with fail
            go_ret
            exact ⟨by rw [HR.out]; rfl, Hw.out.trans (Hb1.out.mono Hw.out.size)⟩
      · obtain rfl : i = ss.length := by omega
        have HR := Lib.hid (Hg.out fun s hs => HO.out s (by rw [List.take_of_length_le (Nat.le_refl _)]; exact hs))
        have Hb1 := Lib.hid hb
        clear hb HO Hbd Hg
        go_wp2_with fail
        go_ret
        exact ⟨by rw [HR.out]; rfl, Hw.out.trans (Hb1.out.mono Hw.out.size)⟩
  · have hd : decide ((8 : Int) < (ss.length : Int)) = true := by simp; omega
    have HR := Lib.hid (sw_long (n := n) h8)
    have hw0 := Lib.hid (show Below w.heap.size w (w.alloc (.cells #[.int .i64 b.p, .slice AI n cI, .slice AR b.rus.length cR] 25)) from balloc (Below.refl _ _) _)
    clear h8 hT hB
    go_enter Tryd.func94, Tryd.ntmps94
    go_wp2_with fail
    go_ret
    exact ⟨by rw [HR.out]; rfl, hw0.out⟩
end Go.Proofs.YtgoojcjfhghmgaaDoor


set_option linter.unusedSimpArgs false
set_option linter.unusedVariables false
namespace Go.Proofs.YtgoojcjfhghmgaaDoor
open Go Go.RowKit

set_option maxRecDepth 100000 in
set_option maxHeartbeats 4000000 in
theorem swapsOK_ref (AI AR : Option Addr) (cI cR : Nat) (A : Option Addr) (c B : Nat) (b : Bk) (ss : List (Int × Int)) (w : World) (hB : B ≤ w.heap.size) (h : PairsAt B w A ss) (hn : b.its.length ≤ 60) (hm : ss.length ≤ 1000) :
    Calls Tryd.prog 96 #[.agg #[.int .i64 b.p, .slice AI b.its.length cI, .slice AR b.rus.length cR], .slice A ss.length c] w fun e w' => e = .returned (.int .i64 (swE b.its.length ss)) ∧ Below w.heap.size w w' := by
  have hT := h.below (Below.refl _ _) hB
  clear h
  generalize b.its.length = n at *
  by_cases h8 : ss.length ≤ 8
  · have hd : decide ((8 : Int) < (ss.length : Int)) = false := by simp; omega
    have Hg := Lib.hid (fun h => sw_good (n := n) h8 h)
    have Hbd := Lib.hid (fun j (hj : j < ss.length) h => sw_bad (n := n) h8 hj h)
    generalize swE n ss = r at Hg Hbd ⊢
    obtain ⟨W0, hW0⟩ : ∃ W0, W0 = w.alloc (.cells #[.int .i64 b.p, .slice AI n cI, .slice AR b.rus.length cR] 25) := ⟨_, rfl⟩
    have hb0 : Blk W0 w.heap.size 25 #[.int .i64 b.p, .slice AI n cI, .slice AR b.rus.length cR] := by rw [hW0]; exact Blk.new w 25 _
    have hw0 : Below w.heap.size w W0 := by rw [hW0]; exact balloc (Below.refl _ _) _
    have hlt := hb0.lt
    have HX := Lib.hid (fun W (hW : Below W0.heap.size W0 W) => blk3 (hb0.below hW hlt))
    have HT := Lib.hid (fun W (hW : Below W0.heap.size W0 W) => (hT.below hw0 hw0.size).below hW (Nat.le_refl _))
    have Hw := Lib.hid hw0
    clear hT hb0 hw0 h8 hB
    go_enter Tryd.func96, Tryd.ntmps96
    go_wp2_with fail
    rw [← hW0]
    clear hW0
    have Hrefl := Lib.hid (Below.refl W0.heap.size W0)
    go_loopw [5] (fun vi wx => ∃ i : Nat, i ≤ ss.length ∧ vi = .int .i64 i ∧ Aside (∀ s ∈ ss.take i, swB n s) ∧ Below W0.heap.size W0 wx) (fun vi _ => ss.length - (intOf vi).toNat)
    case atStart => exact ⟨0, Nat.zero_le _, rfl, (fun x hx => by simp at hx), Hrefl.out⟩
    case round =>
      clear Hrefl
      obtain ⟨i, hi, rfl, hok, hb⟩ := hrel
      have HO := Lib.hid hok.out
      clear hok
      by_cases hlt2 : i < ss.length
      · obtain ⟨g, off, rfl, hgB, q0, q1⟩ := (HT.out _ hb).at hlt2
        obtain ⟨z0, z1, z2, _⟩ := HX.out wr hb
        have Hb1 := Lib.hid hb
        have hiI : (i : Int) < (ss.length : Int) := by omega
        clear hb
        by_cases hs : swB n ss[i]
        · have HO2 := Lib.hid (show ∀ s ∈ ss.take (i + 1), swB n s from fun s hs' => by
            rw [List.take_succ_eq_append_getElem hlt2, List.mem_append] at hs'
            rcases hs' with h1 | h1
            · exact HO.out s h1
            · rw [List.mem_singleton] at h1; subst h1; exact hs)
          obtain ⟨s1, s2, s3, s4⟩ := hs
          generalize ss[i] = s at *
          obtain ⟨x, y⟩ := s
          simp only at s1 s2 s3 s4 q0 q1 z0 z1 z2 Hb1 ⊢
          have c1 : decide (x < 0) = false := by simp; omega
          have c2 : decide ((n : Int) ≤ x) = false := by simp; omega
          have c3 : decide (y < 0) = false := by simp; omega
          have c4 : decide ((n : Int) ≤ y) = false := by simp; omega
          go_wp2_with fail
          refine wp_region_E (S := fun W => W.cell? ⟨g, off + i * 2, none⟩ = some (.int .i64 x) ∧ W.cell? ⟨g, off + i * 2 + 1, none⟩ = some (.int .i64 y) ∧ W.cell? ⟨w.heap.size, 1, none⟩ = some (.slice AI n cI)) (E := fun _ => false) (by kernel_rfl) ?_
          have hbi : Below wr.heap.size wr wr.drew := (Below.refl _ _).drew
          have hS : wr.drew.cell? ⟨g, off + i * 2, none⟩ = some (.int .i64 x) ∧ wr.drew.cell? ⟨g, off + i * 2 + 1, none⟩ = some (.int .i64 y) ∧ wr.drew.cell? ⟨w.heap.size, 1, none⟩ = some (.slice AI n cI) := ⟨q0, q1, z1⟩
          have Hb2 := Lib.hid (Hb1.out.trans (hbi.mono Hb1.out.size))
          generalize wr.drew = wi0 at hS Hb2 ⊢
          clear hbi q0 q1 z0 z1 z2
          refine anyE_tk 0 15 (oi := ?oi1) (v := ?v1) ?hi1 ?hd1 (by kernel_rfl) (by kernel_rfl) (by kernel_rfl) ?hQ1 ?hy1 hS ?rest1
          case hi1 => simp only [List.getElem?_toArray, List.getElem?_cons_zero, List.getElem?_cons_succ]; rfl
          case hd1 => rfl
          case hQ1 => exact fun _ _ _ h => h
          case hy1 => (refine Or.inl ⟨by rfl, ?_⟩; intro w hSw; (try dsimp only at hSw); go_simp; try with_reducible rfl)
          simp only [List.setIfInBounds_toArray, List.set_cons_zero, List.set_cons_succ]
          refine anyE_tk 1 16 (oi := ?oi2) (v := ?v2) ?hi2 ?hd2 (by kernel_rfl) (by kernel_rfl) (by kernel_rfl) ?hQ2 ?hy2 hS ?rest2
          case hi2 => simp only [List.getElem?_toArray, List.getElem?_cons_zero, List.getElem?_cons_succ]; rfl
          case hd2 => rfl
          case hQ2 => exact fun _ _ _ h => h
          case hy2 => (refine Or.inl ⟨by rfl, ?_⟩; intro w hSw; (try dsimp only at hSw); go_simp; try with_reducible rfl)
          simp only [List.setIfInBounds_toArray, List.set_cons_zero, List.set_cons_succ]
          refine anyE_tk 2 17 (oi := ?oi3) (v := ?v3) ?hi3 ?hd3 (by kernel_rfl) (by kernel_rfl) (by kernel_rfl) ?hQ3 ?hy3 hS ?rest3
          case hi3 => simp only [List.getElem?_toArray, List.getElem?_cons_zero, List.getElem?_cons_succ]; rfl
          case hd3 => rfl
          case hQ3 => exact fun _ _ _ h => h
          case hy3 => (refine Or.inl ⟨by rfl, ?_⟩; intro w hSw; (try dsimp only at hSw); go_simp; try with_reducible rfl)
          simp only [List.setIfInBounds_toArray, List.set_cons_zero, List.set_cons_succ]
          refine anyE_tk 3 18 (oi := ?oi4) (v := ?v4) ?hi4 ?hd4 (by kernel_rfl) (by kernel_rfl) (by kernel_rfl) ?hQ4 ?hy4 hS ?rest4
          case hi4 => simp only [List.getElem?_toArray, List.getElem?_cons_zero, List.getElem?_cons_succ]; rfl
          case hd4 => rfl
          case hQ4 => exact fun _ _ _ h => h
          case hy4 => (refine Or.inl ⟨by rfl, ?_⟩; intro w hSw; (try dsimp only at hSw); go_simp; try with_reducible rfl)
          simp only [List.setIfInBounds_toArray, List.set_cons_zero, List.set_cons_succ]
          refine anyE_tk 4 19 (oi := ?oi5) (v := ?v5) ?hi5 ?hd5 (by kernel_rfl) (by kernel_rfl) (by kernel_rfl) ?hQ5 ?hy5 hS ?rest5
          case hi5 => simp only [List.getElem?_toArray, List.getElem?_cons_zero, List.getElem?_cons_succ]; rfl
          case hd5 => rfl
          case hQ5 => exact fun _ _ _ h => h
          case hy5 => (refine Or.inl ⟨by rfl, ?_⟩; intro w hSw; (try dsimp only at hSw); go_simp; try with_reducible rfl)
          simp only [List.setIfInBounds_toArray, List.set_cons_zero, List.set_cons_succ]
          refine anyE_tk 5 20 (oi := ?oi6) (v := ?v6) ?hi6 ?hd6 (by kernel_rfl) (by kernel_rfl) (by kernel_rfl) ?hQ6 ?hy6 hS ?rest6
          case hi6 => simp only [List.getElem?_toArray, List.getElem?_cons_zero, List.getElem?_cons_succ]; rfl
          case hd6 => rfl
          case hQ6 => exact fun _ _ _ h => h
          case hy6 => (refine Or.inl ⟨by rfl, ?_⟩; intro w hSw; (try dsimp only at hSw); go_simp; try with_reducible rfl)
          simp only [List.setIfInBounds_toArray, List.set_cons_zero, List.set_cons_succ]
          refine anyE_tk 6 21 (oi := ?oi7) (v := ?v7) ?hi7 ?hd7 (by kernel_rfl) (by kernel_rfl) (by kernel_rfl) ?hQ7 ?hy7 hS ?rest7
          case hi7 => simp only [List.getElem?_toArray, List.getElem?_cons_zero, List.getElem?_cons_succ]; rfl
          case hd7 => rfl
          case hQ7 => exact fun _ _ _ h => h
          case hy7 => (refine Or.inl ⟨by rfl, ?_⟩; intro w hSw; (try dsimp only at hSw); go_simp; try with_reducible rfl)
          simp only [List.setIfInBounds_toArray, List.set_cons_zero, List.set_cons_succ]
          refine anyE_tk 7 22 (oi := ?oi8) (v := ?v8) ?hi8 ?hd8 (by kernel_rfl) (by kernel_rfl) (by kernel_rfl) ?hQ8 ?hy8 hS ?rest8
          case hi8 => simp only [List.getElem?_toArray, List.getElem?_cons_zero, List.getElem?_cons_succ]; rfl
          case hd8 => rfl
          case hQ8 => exact fun _ _ _ h => h
          case hy8 => (refine Or.inl ⟨by rfl, ?_⟩; intro w hSw; (try dsimp only at hSw); go_simp; try with_reducible rfl)
          simp only [List.setIfInBounds_toArray, List.set_cons_zero, List.set_cons_succ]
          refine anyE_tk 8 23 (oi := ?oi9) (v := ?v9) ?hi9 ?hd9 (by kernel_rfl) (by kernel_rfl) (by kernel_rfl) ?hQ9 ?hy9 hS ?rest9
          case hi9 => simp only [List.getElem?_toArray, List.getElem?_cons_zero, List.getElem?_cons_succ]; rfl
          case hd9 => rfl
          case hQ9 => exact fun _ _ _ h => h
          case hy9 => (refine Or.inl ⟨by rfl, ?_⟩; intro w hSw; (try dsimp only at hSw); go_simp; try with_reducible rfl)
          simp only [List.setIfInBounds_toArray, List.set_cons_zero, List.set_cons_succ]
          refine anyE_tk 9 24 (oi := ?oi10) (v := ?v10) ?hi10 ?hd10 (by kernel_rfl) (by kernel_rfl) (by kernel_rfl) ?hQ10 ?hy10 hS ?rest10
          case hi10 => simp only [List.getElem?_toArray, List.getElem?_cons_zero, List.getElem?_cons_succ]; rfl
          case hd10 => rfl
          case hQ10 => exact fun _ _ _ h => h
          case hy10 => (refine Or.inl ⟨by rfl, ?_⟩; intro w hSw; (try dsimp only at hSw); go_simp; try with_reducible rfl)
          simp only [List.setIfInBounds_toArray, List.set_cons_zero, List.set_cons_succ]
          refine anyE_tk 10 25 (oi := ?oi11) (v := ?v11) ?hi11 ?hd11 (by kernel_rfl) (by kernel_rfl) (by kernel_rfl) ?hQ11 ?hy11 hS ?rest11
          case hi11 => simp only [List.getElem?_toArray, List.getElem?_cons_zero, List.getElem?_cons_succ]; rfl
          case hd11 => rfl
          case hQ11 => exact fun _ _ _ h => h
          case hy11 => (refine Or.inl ⟨by rfl, ?_⟩; intro w hSw; (try dsimp only at hSw); go_simp; try with_reducible rfl)
          simp only [List.setIfInBounds_toArray, List.set_cons_zero, List.set_cons_succ]
          refine anyE_tk 11 26 (oi := ?oi12) (v := ?v12) ?hi12 ?hd12 (by kernel_rfl) (by kernel_rfl) (by kernel_rfl) ?hQ12 ?hy12 hS ?rest12
          case hi12 => simp only [List.getElem?_toArray, List.getElem?_cons_zero, List.getElem?_cons_succ]; rfl
          case hd12 => rfl
          case hQ12 => exact fun _ _ _ h => h
          case hy12 => (refine Or.inl ⟨by rfl, ?_⟩; intro w hSw; (try dsimp only at hSw); go_simp; try with_reducible rfl)
          simp only [List.setIfInBounds_toArray, List.set_cons_zero, List.set_cons_succ]
          refine anyE_tk 12 27 (oi := ?oi13) (v := ?v13) ?hi13 ?hd13 (by kernel_rfl) (by kernel_rfl) (by kernel_rfl) ?hQ13 ?hy13 hS ?rest13
          case hi13 => simp only [List.getElem?_toArray, List.getElem?_cons_zero, List.getElem?_cons_succ]; rfl
          case hd13 => rfl
          case hQ13 => exact fun _ _ _ h => h
          case hy13 => (refine Or.inl ⟨by rfl, ?_⟩; intro w hSw; (try dsimp only at hSw); go_simp; try with_reducible rfl)
          simp only [List.setIfInBounds_toArray, List.set_cons_zero, List.set_cons_succ]
          refine anyE_tk 13 28 (oi := ?oi14) (v := ?v14) ?hi14 ?hd14 (by kernel_rfl) (by kernel_rfl) (by kernel_rfl) ?hQ14 ?hy14 hS ?rest14
          case hi14 => simp only [List.getElem?_toArray, List.getElem?_cons_zero, List.getElem?_cons_succ]; rfl
          case hd14 => rfl
          case hQ14 => exact fun _ _ _ h => h
          case hy14 => (refine Or.inl ⟨by rfl, ?_⟩; intro w hSw; (try dsimp only at hSw); go_simp; try with_reducible rfl)
          simp only [List.setIfInBounds_toArray, List.set_cons_zero, List.set_cons_succ]
          refine anyE_tk 14 29 (oi := ?oi15) (v := ?v15) ?hi15 ?hd15 (by kernel_rfl) (by kernel_rfl) (by kernel_rfl) ?hQ15 ?hy15 hS ?rest15
          case hi15 => simp only [List.getElem?_toArray, List.getElem?_cons_zero, List.getElem?_cons_succ]; rfl
          case hd15 => rfl
          case hQ15 => exact fun _ _ _ h => h
          case hy15 => (refine Or.inl ⟨by rfl, ?_⟩; intro w hSw; (try dsimp only at hSw); go_simp; try with_reducible rfl)
          simp only [List.setIfInBounds_toArray, List.set_cons_zero, List.set_cons_succ]
          refine anyE_tk 15 30 (oi := ?oi16) (v := ?v16) ?hi16 ?hd16 (by kernel_rfl) (by kernel_rfl) (by kernel_rfl) ?hQ16 ?hy16 hS ?rest16
          case hi16 => simp only [List.getElem?_toArray, List.getElem?_cons_zero, List.getElem?_cons_succ]; rfl
          case hd16 => rfl
          case hQ16 => exact fun _ _ _ h => h
          case hy16 => (refine Or.inl ⟨by rfl, ?_⟩; intro w hSw; (try dsimp only at hSw); go_simp; try with_reducible rfl)
          simp only [List.setIfInBounds_toArray, List.set_cons_zero, List.set_cons_succ]
          refine anyE_tk 16 31 (oi := ?oi17) (v := ?v17) ?hi17 ?hd17 (by kernel_rfl) (by kernel_rfl) (by kernel_rfl) ?hQ17 ?hy17 hS ?rest17
          case hi17 => simp only [List.getElem?_toArray, List.getElem?_cons_zero, List.getElem?_cons_succ]; rfl
          case hd17 => rfl
          case hQ17 => exact fun _ _ _ h => h
          case hy17 => (refine Or.inl ⟨by rfl, ?_⟩; intro w hSw; (try dsimp only at hSw); go_simp; try with_reducible rfl)
          simp only [List.setIfInBounds_toArray, List.set_cons_zero, List.set_cons_succ]
          refine anyE_tk 17 32 (oi := ?oi18) (v := ?v18) ?hi18 ?hd18 (by kernel_rfl) (by kernel_rfl) (by kernel_rfl) ?hQ18 ?hy18 hS ?rest18
          case hi18 => simp only [List.getElem?_toArray, List.getElem?_cons_zero, List.getElem?_cons_succ]; rfl
          case hd18 => rfl
          case hQ18 => exact fun _ _ _ h => h
          case hy18 => (refine Or.inl ⟨by rfl, ?_⟩; intro w hSw; (try dsimp only at hSw); go_simp; try with_reducible rfl)
          simp only [List.setIfInBounds_toArray, List.set_cons_zero, List.set_cons_succ]
          refine anyE_tk 18 33 (oi := ?oi19) (v := ?v19) ?hi19 ?hd19 (by kernel_rfl) (by kernel_rfl) (by kernel_rfl) ?hQ19 ?hy19 hS ?rest19
          case hi19 => simp only [List.getElem?_toArray, List.getElem?_cons_zero, List.getElem?_cons_succ]; rfl
          case hd19 => rfl
          case hQ19 => exact fun _ _ _ h => h
          case hy19 => (refine Or.inl ⟨by rfl, ?_⟩; intro w hSw; (try dsimp only at hSw); go_simp; try with_reducible rfl)
          simp only [List.setIfInBounds_toArray, List.set_cons_zero, List.set_cons_succ]
          refine anyE_tk 19 34 (oi := ?oi20) (v := ?v20) ?hi20 ?hd20 (by kernel_rfl) (by kernel_rfl) (by kernel_rfl) ?hQ20 ?hy20 hS ?rest20
          case hi20 => simp only [List.getElem?_toArray, List.getElem?_cons_zero, List.getElem?_cons_succ]; rfl
          case hd20 => rfl
          case hQ20 => exact fun _ _ _ h => h
          case hy20 => (refine Or.inl ⟨by rfl, ?_⟩; intro w hSw; (try dsimp only at hSw); go_simp; try with_reducible rfl)
          simp only [List.setIfInBounds_toArray, List.set_cons_zero, List.set_cons_succ]
          refine anyE_tk 20 35 (oi := ?oi21) (v := ?v21) ?hi21 ?hd21 (by kernel_rfl) (by kernel_rfl) (by kernel_rfl) ?hQ21 ?hy21 hS ?rest21
          case hi21 => simp only [List.getElem?_toArray, List.getElem?_cons_zero, List.getElem?_cons_succ]; rfl
          case hd21 => rfl
          case hQ21 => exact fun _ _ _ h => h
          case hy21 => (refine Or.inl ⟨by rfl, ?_⟩; intro w hSw; (try dsimp only at hSw); go_simp; try with_reducible rfl)
          simp only [List.setIfInBounds_toArray, List.set_cons_zero, List.set_cons_succ]
          refine anyE_tk 21 36 (oi := ?oi22) (v := ?v22) ?hi22 ?hd22 (by kernel_rfl) (by kernel_rfl) (by kernel_rfl) ?hQ22 ?hy22 hS ?rest22
          case hi22 => simp only [List.getElem?_toArray, List.getElem?_cons_zero, List.getElem?_cons_succ]; rfl
          case hd22 => rfl
          case hQ22 => exact fun _ _ _ h => h
          case hy22 => (refine Or.inl ⟨by rfl, ?_⟩; intro w hSw; (try dsimp only at hSw); go_simp; try with_reducible rfl)
          simp only [List.setIfInBounds_toArray, List.set_cons_zero, List.set_cons_succ]
          refine anyE_tk 22 37 (oi := ?oi23) (v := ?v23) ?hi23 ?hd23 (by kernel_rfl) (by kernel_rfl) (by kernel_rfl) ?hQ23 ?hy23 hS ?rest23
          case hi23 => simp only [List.getElem?_toArray, List.getElem?_cons_zero, List.getElem?_cons_succ]; rfl
          case hd23 => rfl
          case hQ23 => exact fun _ _ _ h => h
          case hy23 => (refine Or.inl ⟨by rfl, ?_⟩; intro w hSw; (try dsimp only at hSw); go_simp; try with_reducible rfl)
          simp only [List.setIfInBounds_toArray, List.set_cons_zero, List.set_cons_succ]
          refine anyE_tk 23 38 (oi := ?oi24) (v := ?v24) ?hi24 ?hd24 (by kernel_rfl) (by kernel_rfl) (by kernel_rfl) ?hQ24 ?hy24 hS ?rest24
          case hi24 => simp only [List.getElem?_toArray, List.getElem?_cons_zero, List.getElem?_cons_succ]; rfl
          case hd24 => rfl
          case hQ24 => exact fun _ _ _ h => h
          case hy24 => (refine Or.inl ⟨by rfl, ?_⟩; intro w hSw; (try dsimp only at hSw); go_simp; try with_reducible rfl)
          simp only [List.setIfInBounds_toArray, List.set_cons_zero, List.set_cons_succ]
          refine anyE_tk 24 39 (oi := ?oi25) (v := ?v25) ?hi25 ?hd25 (by kernel_rfl) (by kernel_rfl) (by kernel_rfl) ?hQ25 ?hy25 hS ?rest25
          case hi25 => simp only [List.getElem?_toArray, List.getElem?_cons_zero, List.getElem?_cons_succ]; rfl
          case hd25 => rfl
          case hQ25 => exact fun _ _ _ h => h
          case hy25 => (refine Or.inl ⟨by rfl, ?_⟩; intro w hSw; (try dsimp only at hSw); go_simp; try with_reducible rfl)
          simp only [List.setIfInBounds_toArray, List.set_cons_zero, List.set_cons_succ]
          refine anyE_tk 25 40 (oi := ?oi26) (v := ?v26) ?hi26 ?hd26 (by kernel_rfl) (by kernel_rfl) (by kernel_rfl) ?hQ26 ?hy26 hS ?rest26
          case hi26 => simp only [List.getElem?_toArray, List.getElem?_cons_zero, List.getElem?_cons_succ]; rfl
          case hd26 => rfl
          case hQ26 => exact fun _ _ _ h => h
          case hy26 => (refine Or.inl ⟨by rfl, ?_⟩; intro w hSw; (try dsimp only at hSw); go_simp; try with_reducible rfl)
          simp only [List.setIfInBounds_toArray, List.set_cons_zero, List.set_cons_succ]
          refine anyE_tk 26 41 (oi := ?oi27) (v := ?v27) ?hi27 ?hd27 (by kernel_rfl) (by kernel_rfl) (by kernel_rfl) ?hQ27 ?hy27 hS ?rest27
          case hi27 => simp only [List.getElem?_toArray, List.getElem?_cons_zero, List.getElem?_cons_succ]; rfl
          case hd27 => rfl
          case hQ27 => exact fun _ _ _ h => h
          case hy27 => (refine Or.inl ⟨by rfl, ?_⟩; intro w hSw; (try dsimp only at hSw); go_simp; try with_reducible rfl)
          simp only [List.setIfInBounds_toArray, List.set_cons_zero, List.set_cons_succ]
          refine anyE_tk 27 42 (oi := ?oi28) (v := ?v28) ?hi28 ?hd28 (by kernel_rfl) (by kernel_rfl) (by kernel_rfl) ?hQ28 ?hy28 hS ?rest28
          case hi28 => simp only [List.getElem?_toArray, List.getElem?_cons_zero, List.getElem?_cons_succ]; rfl
          case hd28 => rfl
          case hQ28 => exact fun _ _ _ h => h
          case hy28 => (refine Or.inl ⟨by rfl, ?_⟩; intro w hSw; (try dsimp only at hSw); go_simp; try with_reducible rfl)
          simp only [List.setIfInBounds_toArray, List.set_cons_zero, List.set_cons_succ]
          refine anyE_tk 28 43 (oi := ?oi29) (v := ?v29) ?hi29 ?hd29 (by kernel_rfl) (by kernel_rfl) (by kernel_rfl) ?hQ29 ?hy29 hS ?rest29
          case hi29 => simp only [List.getElem?_toArray, List.getElem?_cons_zero, List.getElem?_cons_succ]; rfl
          case hd29 => rfl
          case hQ29 => exact fun _ _ _ h => h
          case hy29 => (refine Or.inl ⟨by rfl, ?_⟩; intro w hSw; (try dsimp only at hSw); go_simp; try with_reducible rfl)
          simp only [List.setIfInBounds_toArray, List.set_cons_zero, List.set_cons_succ]
          refine anyE_tk 29 44 (oi := ?oi30) (v := ?v30) ?hi30 ?hd30 (by kernel_rfl) (by kernel_rfl) (by kernel_rfl) ?hQ30 ?hy30 hS ?rest30
          case hi30 => simp only [List.getElem?_toArray, List.getElem?_cons_zero, List.getElem?_cons_succ]; rfl
          case hd30 => rfl
          case hQ30 => exact fun _ _ _ h => h
          case hy30 => (refine Or.inl ⟨by rfl, ?_⟩; intro w hSw; (try dsimp only at hSw); go_simp; try with_reducible rfl)
          simp only [List.setIfInBounds_toArray, List.set_cons_zero, List.set_cons_succ]
          refine anyE_tk 30 45 (oi := ?oi31) (v := ?v31) ?hi31 ?hd31 (by kernel_rfl) (by kernel_rfl) (by kernel_rfl) ?hQ31 ?hy31 hS ?rest31
          case hi31 => simp only [List.getElem?_toArray, List.getElem?_cons_zero, List.getElem?_cons_succ]; rfl
          case hd31 => rfl
          case hQ31 => exact fun _ _ _ h => h
          case hy31 => (refine Or.inl ⟨by rfl, ?_⟩; intro w hSw; (try dsimp only at hSw); go_simp; try with_reducible rfl)
          simp only [List.setIfInBounds_toArray, List.set_cons_zero, List.set_cons_succ]
          refine anyE_tk 31 46 (oi := ?oi32) (v := ?v32) ?hi32 ?hd32 (by kernel_rfl) (by kernel_rfl) (by kernel_rfl) ?hQ32 ?hy32 hS ?rest32
          case hi32 => simp only [List.getElem?_toArray, List.getElem?_cons_zero, List.getElem?_cons_succ]; rfl
          case hd32 => rfl
          case hQ32 => exact fun _ _ _ h => h
          case hy32 => (refine Or.inl ⟨by rfl, ?_⟩; intro w hSw; (try dsimp only at hSw); go_simp; try with_reducible rfl)
          simp only [List.setIfInBounds_toArray, List.set_cons_zero, List.set_cons_succ]
          refine anyE_tk 32 47 (oi := ?oi33) (v := ?v33) ?hi33 ?hd33 (by kernel_rfl) (by kernel_rfl) (by kernel_rfl) ?hQ33 ?hy33 hS ?rest33
          case hi33 => simp only [List.getElem?_toArray, List.getElem?_cons_zero, List.getElem?_cons_succ]; rfl
          case hd33 => rfl
          case hQ33 => exact fun _ _ _ h => h
          case hy33 => (refine Or.inl ⟨by rfl, ?_⟩; intro w hSw; (try dsimp only at hSw); go_simp; try with_reducible rfl)
          simp only [List.setIfInBounds_toArray, List.set_cons_zero, List.set_cons_succ]
          refine anyE_tk 33 48 (oi := ?oi34) (v := ?v34) ?hi34 ?hd34 (by kernel_rfl) (by kernel_rfl) (by kernel_rfl) ?hQ34 ?hy34 hS ?rest34
          case hi34 => simp only [List.getElem?_toArray, List.getElem?_cons_zero, List.getElem?_cons_succ]; rfl
          case hd34 => rfl
          case hQ34 => exact fun _ _ _ h => h
          case hy34 => (refine Or.inl ⟨by rfl, ?_⟩; intro w hSw; (try dsimp only at hSw); go_simp; try with_reducible rfl)
          simp only [List.setIfInBounds_toArray, List.set_cons_zero, List.set_cons_succ]
          refine anyE_tk 34 49 (oi := ?oi35) (v := ?v35) ?hi35 ?hd35 (by kernel_rfl) (by kernel_rfl) (by kernel_rfl) ?hQ35 ?hy35 hS ?rest35
          case hi35 => simp only [List.getElem?_toArray, List.getElem?_cons_zero, List.getElem?_cons_succ]; rfl
          case hd35 => rfl
          case hQ35 => exact fun _ _ _ h => h
          case hy35 => (refine Or.inl ⟨by rfl, ?_⟩; intro w hSw; (try dsimp only at hSw); go_simp; try with_reducible rfl)
          simp only [List.setIfInBounds_toArray, List.set_cons_zero, List.set_cons_succ]
          refine anyE_tk 35 50 (oi := ?oi36) (v := ?v36) ?hi36 ?hd36 (by kernel_rfl) (by kernel_rfl) (by kernel_rfl) ?hQ36 ?hy36 hS ?rest36
          case hi36 => simp only [List.getElem?_toArray, List.getElem?_cons_zero, List.getElem?_cons_succ]; rfl
          case hd36 => rfl
          case hQ36 => exact fun _ _ _ h => h
          case hy36 => (refine Or.inl ⟨by rfl, ?_⟩; intro w hSw; (try dsimp only at hSw); go_simp; try with_reducible rfl)
          simp only [List.setIfInBounds_toArray, List.set_cons_zero, List.set_cons_succ]
          clear hS
          refine anyE_done (by kernel_rfl) ?_ _
          go_wp2_with fail
          go_roundw
          case rel => exact ⟨i + 1, by omega, by go_num, HO2.out, Hb2.out⟩
          case measure => simp [intOf]; omega
        · have HR := Lib.hid (Hbd.out i hlt2 hs)
          unfold swB at hs
          have hs2 := Lib.hid hs
          clear hs HO Hbd Hg
          generalize ss[i] = s at *
          obtain ⟨x, y⟩ := s
          simp only at q0 q1 z0 z1 z2 Hb1 hs2 ⊢
          by_cases s1 : 0 ≤ x
          · by_cases s2 : x < (n : Int)
            · by_cases s3 : 0 ≤ y
              · have s4 : (n : Int) ≤ y := by have := hs2.out; omega
                clear hs2
                have c1 : decide (x < 0) = false := by simp; omega
                have c2 : decide ((n : Int) ≤ x) = false := by simp; omega
                have c3 : decide (y < 0) = false := by simp; omega
                have c4 : decide ((n : Int) ≤ y) = true := by simp; omega
                go_wp2_with fail
                refine wp_region_E (S := fun W => W.cell? ⟨g, off + i * 2, none⟩ = some (.int .i64 x) ∧ W.cell? ⟨g, off + i * 2 + 1, none⟩ = some (.int .i64 y) ∧ W.cell? ⟨w.heap.size, 1, none⟩ = some (.slice AI n cI)) (E := fun _ => false) (by kernel_rfl) ?_
                have hbi : Below wr.heap.size wr wr.drew := (Below.refl _ _).drew
                have hS : wr.drew.cell? ⟨g, off + i * 2, none⟩ = some (.int .i64 x) ∧ wr.drew.cell? ⟨g, off + i * 2 + 1, none⟩ = some (.int .i64 y) ∧ wr.drew.cell? ⟨w.heap.size, 1, none⟩ = some (.slice AI n cI) := ⟨q0, q1, z1⟩
                have Hb2 := Lib.hid (Hb1.out.trans (hbi.mono Hb1.out.size))
                generalize wr.drew = wi0 at hS Hb2 ⊢
                clear hbi q0 q1 z0 z1 z2
                refine anyE_tk 0 15 (oi := ?oi37) (v := ?v37) ?hi37 ?hd37 (by kernel_rfl) (by kernel_rfl) (by kernel_rfl) ?hQ37 ?hy37 hS ?rest37
                case hi37 => simp only [List.getElem?_toArray, List.getElem?_cons_zero, List.getElem?_cons_succ]; rfl
                case hd37 => rfl
                case hQ37 => exact fun _ _ _ h => h
                case hy37 => (refine Or.inl ⟨by rfl, ?_⟩; intro w hSw; (try dsimp only at hSw); go_simp; try with_reducible rfl)
                simp only [List.setIfInBounds_toArray, List.set_cons_zero, List.set_cons_succ]
                refine anyE_tk 1 16 (oi := ?oi38) (v := ?v38) ?hi38 ?hd38 (by kernel_rfl) (by kernel_rfl) (by kernel_rfl) ?hQ38 ?hy38 hS ?rest38
                case hi38 => simp only [List.getElem?_toArray, List.getElem?_cons_zero, List.getElem?_cons_succ]; rfl
                case hd38 => rfl
                case hQ38 => exact fun _ _ _ h => h
                case hy38 => (refine Or.inl ⟨by rfl, ?_⟩; intro w hSw; (try dsimp only at hSw); go_simp; try with_reducible rfl)
                simp only [List.setIfInBounds_toArray, List.set_cons_zero, List.set_cons_succ]
                refine anyE_tk 2 17 (oi := ?oi39) (v := ?v39) ?hi39 ?hd39 (by kernel_rfl) (by kernel_rfl) (by kernel_rfl) ?hQ39 ?hy39 hS ?rest39
                case hi39 => simp only [List.getElem?_toArray, List.getElem?_cons_zero, List.getElem?_cons_succ]; rfl
                case hd39 => rfl
                case hQ39 => exact fun _ _ _ h => h
                case hy39 => (refine Or.inl ⟨by rfl, ?_⟩; intro w hSw; (try dsimp only at hSw); go_simp; try with_reducible rfl)
                simp only [List.setIfInBounds_toArray, List.set_cons_zero, List.set_cons_succ]
                refine anyE_tk 3 18 (oi := ?oi40) (v := ?v40) ?hi40 ?hd40 (by kernel_rfl) (by kernel_rfl) (by kernel_rfl) ?hQ40 ?hy40 hS ?rest40
                case hi40 => simp only [List.getElem?_toArray, List.getElem?_cons_zero, List.getElem?_cons_succ]; rfl
                case hd40 => rfl
                case hQ40 => exact fun _ _ _ h => h
                case hy40 => (refine Or.inl ⟨by rfl, ?_⟩; intro w hSw; (try dsimp only at hSw); go_simp; try with_reducible rfl)
                simp only [List.setIfInBounds_toArray, List.set_cons_zero, List.set_cons_succ]
                refine anyE_tk 4 19 (oi := ?oi41) (v := ?v41) ?hi41 ?hd41 (by kernel_rfl) (by kernel_rfl) (by kernel_rfl) ?hQ41 ?hy41 hS ?rest41
                case hi41 => simp only [List.getElem?_toArray, List.getElem?_cons_zero, List.getElem?_cons_succ]; rfl
                case hd41 => rfl
                case hQ41 => exact fun _ _ _ h => h
                case hy41 => (refine Or.inl ⟨by rfl, ?_⟩; intro w hSw; (try dsimp only at hSw); go_simp; try with_reducible rfl)
                simp only [List.setIfInBounds_toArray, List.set_cons_zero, List.set_cons_succ]
                refine anyE_tk 5 20 (oi := ?oi42) (v := ?v42) ?hi42 ?hd42 (by kernel_rfl) (by kernel_rfl) (by kernel_rfl) ?hQ42 ?hy42 hS ?rest42
                case hi42 => simp only [List.getElem?_toArray, List.getElem?_cons_zero, List.getElem?_cons_succ]; rfl
                case hd42 => rfl
                case hQ42 => exact fun _ _ _ h => h
                case hy42 => (refine Or.inl ⟨by rfl, ?_⟩; intro w hSw; (try dsimp only at hSw); go_simp; try with_reducible rfl)
                simp only [List.setIfInBounds_toArray, List.set_cons_zero, List.set_cons_succ]
                refine anyE_tk 6 21 (oi := ?oi43) (v := ?v43) ?hi43 ?hd43 (by kernel_rfl) (by kernel_rfl) (by kernel_rfl) ?hQ43 ?hy43 hS ?rest43
                case hi43 => simp only [List.getElem?_toArray, List.getElem?_cons_zero, List.getElem?_cons_succ]; rfl
                case hd43 => rfl
                case hQ43 => exact fun _ _ _ h => h
                case hy43 => (refine Or.inl ⟨by rfl, ?_⟩; intro w hSw; (try dsimp only at hSw); go_simp; try with_reducible rfl)
                simp only [List.setIfInBounds_toArray, List.set_cons_zero, List.set_cons_succ]
                refine anyE_tk 7 22 (oi := ?oi44) (v := ?v44) ?hi44 ?hd44 (by kernel_rfl) (by kernel_rfl) (by kernel_rfl) ?hQ44 ?hy44 hS ?rest44
                case hi44 => simp only [List.getElem?_toArray, List.getElem?_cons_zero, List.getElem?_cons_succ]; rfl
                case hd44 => rfl
                case hQ44 => exact fun _ _ _ h => h
                case hy44 => (refine Or.inl ⟨by rfl, ?_⟩; intro w hSw; (try dsimp only at hSw); go_simp; try with_reducible rfl)
                simp only [List.setIfInBounds_toArray, List.set_cons_zero, List.set_cons_succ]
                refine anyE_tk 8 23 (oi := ?oi45) (v := ?v45) ?hi45 ?hd45 (by kernel_rfl) (by kernel_rfl) (by kernel_rfl) ?hQ45 ?hy45 hS ?rest45
                case hi45 => simp only [List.getElem?_toArray, List.getElem?_cons_zero, List.getElem?_cons_succ]; rfl
                case hd45 => rfl
                case hQ45 => exact fun _ _ _ h => h
                case hy45 => (refine Or.inl ⟨by rfl, ?_⟩; intro w hSw; (try dsimp only at hSw); go_simp; try with_reducible rfl)
                simp only [List.setIfInBounds_toArray, List.set_cons_zero, List.set_cons_succ]
                refine anyE_tk 9 24 (oi := ?oi46) (v := ?v46) ?hi46 ?hd46 (by kernel_rfl) (by kernel_rfl) (by kernel_rfl) ?hQ46 ?hy46 hS ?rest46
                case hi46 => simp only [List.getElem?_toArray, List.getElem?_cons_zero, List.getElem?_cons_succ]; rfl
                case hd46 => rfl
                case hQ46 => exact fun _ _ _ h => h
                case hy46 => (refine Or.inl ⟨by rfl, ?_⟩; intro w hSw; (try dsimp only at hSw); go_simp; try with_reducible rfl)
                simp only [List.setIfInBounds_toArray, List.set_cons_zero, List.set_cons_succ]
                refine anyE_tk 10 25 (oi := ?oi47) (v := ?v47) ?hi47 ?hd47 (by kernel_rfl) (by kernel_rfl) (by kernel_rfl) ?hQ47 ?hy47 hS ?rest47
                case hi47 => simp only [List.getElem?_toArray, List.getElem?_cons_zero, List.getElem?_cons_succ]; rfl
                case hd47 => rfl
                case hQ47 => exact fun _ _ _ h => h
                case hy47 => (refine Or.inl ⟨by rfl, ?_⟩; intro w hSw; (try dsimp only at hSw); go_simp; try with_reducible rfl)
                simp only [List.setIfInBounds_toArray, List.set_cons_zero, List.set_cons_succ]
                refine anyE_tk 11 26 (oi := ?oi48) (v := ?v48) ?hi48 ?hd48 (by kernel_rfl) (by kernel_rfl) (by kernel_rfl) ?hQ48 ?hy48 hS ?rest48
                case hi48 => simp only [List.getElem?_toArray, List.getElem?_cons_zero, List.getElem?_cons_succ]; rfl
                case hd48 => rfl
                case hQ48 => exact fun _ _ _ h => h
                case hy48 => (refine Or.inl ⟨by rfl, ?_⟩; intro w hSw; (try dsimp only at hSw); go_simp; try with_reducible rfl)
                simp only [List.setIfInBounds_toArray, List.set_cons_zero, List.set_cons_succ]
                refine anyE_tk 12 27 (oi := ?oi49) (v := ?v49) ?hi49 ?hd49 (by kernel_rfl) (by kernel_rfl) (by kernel_rfl) ?hQ49 ?hy49 hS ?rest49
                case hi49 => simp only [List.getElem?_toArray, List.getElem?_cons_zero, List.getElem?_cons_succ]; rfl
                case hd49 => rfl
                case hQ49 => exact fun _ _ _ h => h
                case hy49 => (refine Or.inl ⟨by rfl, ?_⟩; intro w hSw; (try dsimp only at hSw); go_simp; try with_reducible rfl)
                simp only [List.setIfInBounds_toArray, List.set_cons_zero, List.set_cons_succ]
                refine anyE_tk 13 28 (oi := ?oi50) (v := ?v50) ?hi50 ?hd50 (by kernel_rfl) (by kernel_rfl) (by kernel_rfl) ?hQ50 ?hy50 hS ?rest50
                case hi50 => simp only [List.getElem?_toArray, List.getElem?_cons_zero, List.getElem?_cons_succ]; rfl
                case hd50 => rfl
                case hQ50 => exact fun _ _ _ h => h
                case hy50 => (refine Or.inl ⟨by rfl, ?_⟩; intro w hSw; (try dsimp only at hSw); go_simp; try with_reducible rfl)
                simp only [List.setIfInBounds_toArray, List.set_cons_zero, List.set_cons_succ]
                refine anyE_tk 14 29 (oi := ?oi51) (v := ?v51) ?hi51 ?hd51 (by kernel_rfl) (by kernel_rfl) (by kernel_rfl) ?hQ51 ?hy51 hS ?rest51
                case hi51 => simp only [List.getElem?_toArray, List.getElem?_cons_zero, List.getElem?_cons_succ]; rfl
                case hd51 => rfl
                case hQ51 => exact fun _ _ _ h => h
                case hy51 => (refine Or.inl ⟨by rfl, ?_⟩; intro w hSw; (try dsimp only at hSw); go_simp; try with_reducible rfl)
                simp only [List.setIfInBounds_toArray, List.set_cons_zero, List.set_cons_succ]
                refine anyE_tk 15 30 (oi := ?oi52) (v := ?v52) ?hi52 ?hd52 (by kernel_rfl) (by kernel_rfl) (by kernel_rfl) ?hQ52 ?hy52 hS ?rest52
                case hi52 => simp only [List.getElem?_toArray, List.getElem?_cons_zero, List.getElem?_cons_succ]; rfl
                case hd52 => rfl
                case hQ52 => exact fun _ _ _ h => h
                case hy52 => (refine Or.inl ⟨by rfl, ?_⟩; intro w hSw; (try dsimp only at hSw); go_simp; try with_reducible rfl)
                simp only [List.setIfInBounds_toArray, List.set_cons_zero, List.set_cons_succ]
                refine anyE_tk 16 31 (oi := ?oi53) (v := ?v53) ?hi53 ?hd53 (by kernel_rfl) (by kernel_rfl) (by kernel_rfl) ?hQ53 ?hy53 hS ?rest53
                case hi53 => simp only [List.getElem?_toArray, List.getElem?_cons_zero, List.getElem?_cons_succ]; rfl
                case hd53 => rfl
                case hQ53 => exact fun _ _ _ h => h
                case hy53 => (refine Or.inl ⟨by rfl, ?_⟩; intro w hSw; (try dsimp only at hSw); go_simp; try with_reducible rfl)
                simp only [List.setIfInBounds_toArray, List.set_cons_zero, List.set_cons_succ]
                refine anyE_tk 17 32 (oi := ?oi54) (v := ?v54) ?hi54 ?hd54 (by kernel_rfl) (by kernel_rfl) (by kernel_rfl) ?hQ54 ?hy54 hS ?rest54
                case hi54 => simp only [List.getElem?_toArray, List.getElem?_cons_zero, List.getElem?_cons_succ]; rfl
                case hd54 => rfl
                case hQ54 => exact fun _ _ _ h => h
                case hy54 => (refine Or.inl ⟨by rfl, ?_⟩; intro w hSw; (try dsimp only at hSw); go_simp; try with_reducible rfl)
                simp only [List.setIfInBounds_toArray, List.set_cons_zero, List.set_cons_succ]
                refine anyE_tk 18 33 (oi := ?oi55) (v := ?v55) ?hi55 ?hd55 (by kernel_rfl) (by kernel_rfl) (by kernel_rfl) ?hQ55 ?hy55 hS ?rest55
                case hi55 => simp only [List.getElem?_toArray, List.getElem?_cons_zero, List.getElem?_cons_succ]; rfl
                case hd55 => rfl
                case hQ55 => exact fun _ _ _ h => h
                case hy55 => (refine Or.inl ⟨by rfl, ?_⟩; intro w hSw; (try dsimp only at hSw); go_simp; try with_reducible rfl)
                simp only [List.setIfInBounds_toArray, List.set_cons_zero, List.set_cons_succ]
                refine anyE_tk 19 34 (oi := ?oi56) (v := ?v56) ?hi56 ?hd56 (by kernel_rfl) (by kernel_rfl) (by kernel_rfl) ?hQ56 ?hy56 hS ?rest56
                case hi56 => simp only [List.getElem?_toArray, List.getElem?_cons_zero, List.getElem?_cons_succ]; rfl
                case hd56 => rfl
                case hQ56 => exact fun _ _ _ h => h
                case hy56 => (refine Or.inl ⟨by rfl, ?_⟩; intro w hSw; (try dsimp only at hSw); go_simp; try with_reducible rfl)
                simp only [List.setIfInBounds_toArray, List.set_cons_zero, List.set_cons_succ]
                refine anyE_tk 20 35 (oi := ?oi57) (v := ?v57) ?hi57 ?hd57 (by kernel_rfl) (by kernel_rfl) (by kernel_rfl) ?hQ57 ?hy57 hS ?rest57
                case hi57 => simp only [List.getElem?_toArray, List.getElem?_cons_zero, List.getElem?_cons_succ]; rfl
                case hd57 => rfl
                case hQ57 => exact fun _ _ _ h => h
                case hy57 => (refine Or.inl ⟨by rfl, ?_⟩; intro w hSw; (try dsimp only at hSw); go_simp; try with_reducible rfl)
                simp only [List.setIfInBounds_toArray, List.set_cons_zero, List.set_cons_succ]
                refine anyE_tk 21 36 (oi := ?oi58) (v := ?v58) ?hi58 ?hd58 (by kernel_rfl) (by kernel_rfl) (by kernel_rfl) ?hQ58 ?hy58 hS ?rest58
                case hi58 => simp only [List.getElem?_toArray, List.getElem?_cons_zero, List.getElem?_cons_succ]; rfl
                case hd58 => rfl
                case hQ58 => exact fun _ _ _ h => h
                case hy58 => (refine Or.inl ⟨by rfl, ?_⟩; intro w hSw; (try dsimp only at hSw); go_simp; try with_reducible rfl)
                simp only [List.setIfInBounds_toArray, List.set_cons_zero, List.set_cons_succ]
                refine anyE_tk 22 37 (oi := ?oi59) (v := ?v59) ?hi59 ?hd59 (by kernel_rfl) (by kernel_rfl) (by kernel_rfl) ?hQ59 ?hy59 hS ?rest59
                case hi59 => simp only [List.getElem?_toArray, List.getElem?_cons_zero, List.getElem?_cons_succ]; rfl
                case hd59 => rfl
                case hQ59 => exact fun _ _ _ h => h
                case hy59 => (refine Or.inl ⟨by rfl, ?_⟩; intro w hSw; (try dsimp only at hSw); go_simp; try with_reducible rfl)
                simp only [List.setIfInBounds_toArray, List.set_cons_zero, List.set_cons_succ]
                refine anyE_tk 23 38 (oi := ?oi60) (v := ?v60) ?hi60 ?hd60 (by kernel_rfl) (by kernel_rfl) (by kernel_rfl) ?hQ60 ?hy60 hS ?rest60
                case hi60 => simp only [List.getElem?_toArray, List.getElem?_cons_zero, List.getElem?_cons_succ]; rfl
                case hd60 => rfl
                case hQ60 => exact fun _ _ _ h => h
                case hy60 => (refine Or.inl ⟨by rfl, ?_⟩; intro w hSw; (try dsimp only at hSw); go_simp; try with_reducible rfl)
                simp only [List.setIfInBounds_toArray, List.set_cons_zero, List.set_cons_succ]
                refine anyE_tk 24 39 (oi := ?oi61) (v := ?v61) ?hi61 ?hd61 (by kernel_rfl) (by kernel_rfl) (by kernel_rfl) ?hQ61 ?hy61 hS ?rest61
                case hi61 => simp only [List.getElem?_toArray, List.getElem?_cons_zero, List.getElem?_cons_succ]; rfl
                case hd61 => rfl
                case hQ61 => exact fun _ _ _ h => h
                case hy61 => (refine Or.inl ⟨by rfl, ?_⟩; intro w hSw; (try dsimp only at hSw); go_simp; try with_reducible rfl)
                simp only [List.setIfInBounds_toArray, List.set_cons_zero, List.set_cons_succ]
                refine anyE_tk 25 40 (oi := ?oi62) (v := ?v62) ?hi62 ?hd62 (by kernel_rfl) (by kernel_rfl) (by kernel_rfl) ?hQ62 ?hy62 hS ?rest62
                case hi62 => simp only [List.getElem?_toArray, List.getElem?_cons_zero, List.getElem?_cons_succ]; rfl
                case hd62 => rfl
                case hQ62 => exact fun _ _ _ h => h
                case hy62 => (refine Or.inl ⟨by rfl, ?_⟩; intro w hSw; (try dsimp only at hSw); go_simp; try with_reducible rfl)
                simp only [List.setIfInBounds_toArray, List.set_cons_zero, List.set_cons_succ]
                refine anyE_tk 26 41 (oi := ?oi63) (v := ?v63) ?hi63 ?hd63 (by kernel_rfl) (by kernel_rfl) (by kernel_rfl) ?hQ63 ?hy63 hS ?rest63
                case hi63 => simp only [List.getElem?_toArray, List.getElem?_cons_zero, List.getElem?_cons_succ]; rfl
                case hd63 => rfl
                case hQ63 => exact fun _ _ _ h => h
                case hy63 => (refine Or.inl ⟨by rfl, ?_⟩; intro w hSw; (try dsimp only at hSw); go_simp; try with_reducible rfl)
                simp only [List.setIfInBounds_toArray, List.set_cons_zero, List.set_cons_succ]
                refine anyE_tk 27 42 (oi := ?oi64) (v := ?v64) ?hi64 ?hd64 (by kernel_rfl) (by kernel_rfl) (by kernel_rfl) ?hQ64 ?hy64 hS ?rest64
                case hi64 => simp only [List.getElem?_toArray, List.getElem?_cons_zero, List.getElem?_cons_succ]; rfl
                case hd64 => rfl
                case hQ64 => exact fun _ _ _ h => h
                case hy64 => (refine Or.inl ⟨by rfl, ?_⟩; intro w hSw; (try dsimp only at hSw); go_simp; try with_reducible rfl)
                simp only [List.setIfInBounds_toArray, List.set_cons_zero, List.set_cons_succ]
                refine anyE_tk 28 43 (oi := ?oi65) (v := ?v65) ?hi65 ?hd65 (by kernel_rfl) (by kernel_rfl) (by kernel_rfl) ?hQ65 ?hy65 hS ?rest65
                case hi65 => simp only [List.getElem?_toArray, List.getElem?_cons_zero, List.getElem?_cons_succ]; rfl
                case hd65 => rfl
                case hQ65 => exact fun _ _ _ h => h
                case hy65 => (refine Or.inl ⟨by rfl, ?_⟩; intro w hSw; (try dsimp only at hSw); go_simp; try with_reducible rfl)
                simp only [List.setIfInBounds_toArray, List.set_cons_zero, List.set_cons_succ]
                refine anyE_tk 29 44 (oi := ?oi66) (v := ?v66) ?hi66 ?hd66 (by kernel_rfl) (by kernel_rfl) (by kernel_rfl) ?hQ66 ?hy66 hS ?rest66
                case hi66 => simp only [List.getElem?_toArray, List.getElem?_cons_zero, List.getElem?_cons_succ]; rfl
                case hd66 => rfl
                case hQ66 => exact fun _ _ _ h => h
                case hy66 => (refine Or.inl ⟨by rfl, ?_⟩; intro w hSw; (try dsimp only at hSw); go_simp; try with_reducible rfl)
                simp only [List.setIfInBounds_toArray, List.set_cons_zero, List.set_cons_succ]
                refine anyE_tk 30 45 (oi := ?oi67) (v := ?v67) ?hi67 ?hd67 (by kernel_rfl) (by kernel_rfl) (by kernel_rfl) ?hQ67 ?hy67 hS ?rest67
                case hi67 => simp only [List.getElem?_toArray, List.getElem?_cons_zero, List.getElem?_cons_succ]; rfl
                case hd67 => rfl
                case hQ67 => exact fun _ _ _ h => h
                case hy67 => (refine Or.inl ⟨by rfl, ?_⟩; intro w hSw; (try dsimp only at hSw); go_simp; try with_reducible rfl)
                simp only [List.setIfInBounds_toArray, List.set_cons_zero, List.set_cons_succ]
                refine anyE_tk 31 46 (oi := ?oi68) (v := ?v68) ?hi68 ?hd68 (by kernel_rfl) (by kernel_rfl) (by kernel_rfl) ?hQ68 ?hy68 hS ?rest68
                case hi68 => simp only [List.getElem?_toArray, List.getElem?_cons_zero, List.getElem?_cons_succ]; rfl
                case hd68 => rfl
                case hQ68 => exact fun _ _ _ h => h
                case hy68 => (refine Or.inl ⟨by rfl, ?_⟩; intro w hSw; (try dsimp only at hSw); go_simp; try with_reducible rfl)
                simp only [List.setIfInBounds_toArray, List.set_cons_zero, List.set_cons_succ]
                refine anyE_tk 32 47 (oi := ?oi69) (v := ?v69) ?hi69 ?hd69 (by kernel_rfl) (by kernel_rfl) (by kernel_rfl) ?hQ69 ?hy69 hS ?rest69
                case hi69 => simp only [List.getElem?_toArray, List.getElem?_cons_zero, List.getElem?_cons_succ]; rfl
                case hd69 => rfl
                case hQ69 => exact fun _ _ _ h => h
                case hy69 => (refine Or.inl ⟨by rfl, ?_⟩; intro w hSw; (try dsimp only at hSw); go_simp; try with_reducible rfl)
                simp only [List.setIfInBounds_toArray, List.set_cons_zero, List.set_cons_succ]
                refine anyE_tk 33 48 (oi := ?oi70) (v := ?v70) ?hi70 ?hd70 (by kernel_rfl) (by kernel_rfl) (by kernel_rfl) ?hQ70 ?hy70 hS ?rest70
                case hi70 => simp only [List.getElem?_toArray, List.getElem?_cons_zero, List.getElem?_cons_succ]; rfl
                case hd70 => rfl
                case hQ70 => exact fun _ _ _ h => h
                case hy70 => (refine Or.inl ⟨by rfl, ?_⟩; intro w hSw; (try dsimp only at hSw); go_simp; try with_reducible rfl)
                simp only [List.setIfInBounds_toArray, List.set_cons_zero, List.set_cons_succ]
                refine anyE_tk 34 49 (oi := ?oi71) (v := ?v71) ?hi71 ?hd71 (by kernel_rfl) (by kernel_rfl) (by kernel_rfl) ?hQ71 ?hy71 hS ?rest71
                case hi71 => simp only [List.getElem?_toArray, List.getElem?_cons_zero, List.getElem?_cons_succ]; rfl
                case hd71 => rfl
                case hQ71 => exact fun _ _ _ h => h
                case hy71 => (refine Or.inl ⟨by rfl, ?_⟩; intro w hSw; (try dsimp only at hSw); go_simp; try with_reducible rfl)
                simp only [List.setIfInBounds_toArray, List.set_cons_zero, List.set_cons_succ]
                refine anyE_tk 35 50 (oi := ?oi72) (v := ?v72) ?hi72 ?hd72 (by kernel_rfl) (by kernel_rfl) (by kernel_rfl) ?hQ72 ?hy72 hS ?rest72
                case hi72 => simp only [List.getElem?_toArray, List.getElem?_cons_zero, List.getElem?_cons_succ]; rfl
                case hd72 => rfl
                case hQ72 => exact fun _ _ _ h => h
                case hy72 => (refine Or.inl ⟨by rfl, ?_⟩; intro w hSw; (try dsimp only at hSw); go_simp; try with_reducible rfl)
                simp only [List.setIfInBounds_toArray, List.set_cons_zero, List.set_cons_succ]
                clear hS
                refine anyE_done (by kernel_rfl) ?_ _
                go_wp2_with fail
                go_ret
                exact ⟨by rw [HR.out]; rfl, Hw.out.trans (Hb2.out.mono Hw.out.size)⟩
              · have s4 : y < 0 := by omega
                clear hs2 s3
                have c1 : decide (x < 0) = false := by simp; omega
                have c2 : decide ((n : Int) ≤ x) = false := by simp; omega
                have c3 : decide (y < 0) = true := by simp; omega
                go_wp2_with fail
                refine wp_region_E (S := fun W => W.cell? ⟨g, off + i * 2, none⟩ = some (.int .i64 x) ∧ W.cell? ⟨g, off + i * 2 + 1, none⟩ = some (.int .i64 y) ∧ W.cell? ⟨w.heap.size, 1, none⟩ = some (.slice AI n cI)) (E := fun _ => false) (by kernel_rfl) ?_
                have hbi : Below wr.heap.size wr wr.drew := (Below.refl _ _).drew
                have hS : wr.drew.cell? ⟨g, off + i * 2, none⟩ = some (.int .i64 x) ∧ wr.drew.cell? ⟨g, off + i * 2 + 1, none⟩ = some (.int .i64 y) ∧ wr.drew.cell? ⟨w.heap.size, 1, none⟩ = some (.slice AI n cI) := ⟨q0, q1, z1⟩
                have Hb2 := Lib.hid (Hb1.out.trans (hbi.mono Hb1.out.size))
                generalize wr.drew = wi0 at hS Hb2 ⊢
                clear hbi q0 q1 z0 z1 z2
                refine anyE_tk 0 15 (oi := ?oi73) (v := ?v73) ?hi73 ?hd73 (by kernel_rfl) (by kernel_rfl) (by kernel_rfl) ?hQ73 ?hy73 hS ?rest73
                case hi73 => simp only [List.getElem?_toArray, List.getElem?_cons_zero, List.getElem?_cons_succ]; rfl
                case hd73 => rfl
                case hQ73 => exact fun _ _ _ h => h
                case hy73 => (refine Or.inl ⟨by rfl, ?_⟩; intro w hSw; (try dsimp only at hSw); go_simp; try with_reducible rfl)
                simp only [List.setIfInBounds_toArray, List.set_cons_zero, List.set_cons_succ]
                refine anyE_tk 1 16 (oi := ?oi74) (v := ?v74) ?hi74 ?hd74 (by kernel_rfl) (by kernel_rfl) (by kernel_rfl) ?hQ74 ?hy74 hS ?rest74
                case hi74 => simp only [List.getElem?_toArray, List.getElem?_cons_zero, List.getElem?_cons_succ]; rfl
                case hd74 => rfl
                case hQ74 => exact fun _ _ _ h => h
                case hy74 => (refine Or.inl ⟨by rfl, ?_⟩; intro w hSw; (try dsimp only at hSw); go_simp; try with_reducible rfl)
                simp only [List.setIfInBounds_toArray, List.set_cons_zero, List.set_cons_succ]
                refine anyE_tk 2 17 (oi := ?oi75) (v := ?v75) ?hi75 ?hd75 (by kernel_rfl) (by kernel_rfl) (by kernel_rfl) ?hQ75 ?hy75 hS ?rest75
                case hi75 => simp only [List.getElem?_toArray, List.getElem?_cons_zero, List.getElem?_cons_succ]; rfl
                case hd75 => rfl
                case hQ75 => exact fun _ _ _ h => h
                case hy75 => (refine Or.inl ⟨by rfl, ?_⟩; intro w hSw; (try dsimp only at hSw); go_simp; try with_reducible rfl)
                simp only [List.setIfInBounds_toArray, List.set_cons_zero, List.set_cons_succ]
                refine anyE_tk 3 18 (oi := ?oi76) (v := ?v76) ?hi76 ?hd76 (by kernel_rfl) (by kernel_rfl) (by kernel_rfl) ?hQ76 ?hy76 hS ?rest76
                case hi76 => simp only [List.getElem?_toArray, List.getElem?_cons_zero, List.getElem?_cons_succ]; rfl
                case hd76 => rfl
                case hQ76 => exact fun _ _ _ h => h
                case hy76 => (refine Or.inl ⟨by rfl, ?_⟩; intro w hSw; (try dsimp only at hSw); go_simp; try with_reducible rfl)
                simp only [List.setIfInBounds_toArray, List.set_cons_zero, List.set_cons_succ]
                refine anyE_tk 4 19 (oi := ?oi77) (v := ?v77) ?hi77 ?hd77 (by kernel_rfl) (by kernel_rfl) (by kernel_rfl) ?hQ77 ?hy77 hS ?rest77
                case hi77 => simp only [List.getElem?_toArray, List.getElem?_cons_zero, List.getElem?_cons_succ]; rfl
                case hd77 => rfl
                case hQ77 => exact fun _ _ _ h => h
                case hy77 => (refine Or.inl ⟨by rfl, ?_⟩; intro w hSw; (try dsimp only at hSw); go_simp; try with_reducible rfl)
                simp only [List.setIfInBounds_toArray, List.set_cons_zero, List.set_cons_succ]
                refine anyE_tk 5 20 (oi := ?oi78) (v := ?v78) ?hi78 ?hd78 (by kernel_rfl) (by kernel_rfl) (by kernel_rfl) ?hQ78 ?hy78 hS ?rest78
                case hi78 => simp only [List.getElem?_toArray, List.getElem?_cons_zero, List.getElem?_cons_succ]; rfl
                case hd78 => rfl
                case hQ78 => exact fun _ _ _ h => h
                case hy78 => (refine Or.inl ⟨by rfl, ?_⟩; intro w hSw; (try dsimp only at hSw); go_simp; try with_reducible rfl)
                simp only [List.setIfInBounds_toArray, List.set_cons_zero, List.set_cons_succ]
                refine anyE_tk 6 21 (oi := ?oi79) (v := ?v79) ?hi79 ?hd79 (by kernel_rfl) (by kernel_rfl) (by kernel_rfl) ?hQ79 ?hy79 hS ?rest79
                case hi79 => simp only [List.getElem?_toArray, List.getElem?_cons_zero, List.getElem?_cons_succ]; rfl
                case hd79 => rfl
                case hQ79 => exact fun _ _ _ h => h
                case hy79 => (refine Or.inl ⟨by rfl, ?_⟩; intro w hSw; (try dsimp only at hSw); go_simp; try with_reducible rfl)
                simp only [List.setIfInBounds_toArray, List.set_cons_zero, List.set_cons_succ]
                refine anyE_tk 7 22 (oi := ?oi80) (v := ?v80) ?hi80 ?hd80 (by kernel_rfl) (by kernel_rfl) (by kernel_rfl) ?hQ80 ?hy80 hS ?rest80
                case hi80 => simp only [List.getElem?_toArray, List.getElem?_cons_zero, List.getElem?_cons_succ]; rfl
                case hd80 => rfl
                case hQ80 => exact fun _ _ _ h => h
                case hy80 => (refine Or.inl ⟨by rfl, ?_⟩; intro w hSw; (try dsimp only at hSw); go_simp; try with_reducible rfl)
                simp only [List.setIfInBounds_toArray, List.set_cons_zero, List.set_cons_succ]
                refine anyE_tk 8 23 (oi := ?oi81) (v := ?v81) ?hi81 ?hd81 (by kernel_rfl) (by kernel_rfl) (by kernel_rfl) ?hQ81 ?hy81 hS ?rest81
                case hi81 => simp only [List.getElem?_toArray, List.getElem?_cons_zero, List.getElem?_cons_succ]; rfl
                case hd81 => rfl
                case hQ81 => exact fun _ _ _ h => h
                case hy81 => (refine Or.inl ⟨by rfl, ?_⟩; intro w hSw; (try dsimp only at hSw); go_simp; try with_reducible rfl)
                simp only [List.setIfInBounds_toArray, List.set_cons_zero, List.set_cons_succ]
                refine anyE_tk 9 24 (oi := ?oi82) (v := ?v82) ?hi82 ?hd82 (by kernel_rfl) (by kernel_rfl) (by kernel_rfl) ?hQ82 ?hy82 hS ?rest82
                case hi82 => simp only [List.getElem?_toArray, List.getElem?_cons_zero, List.getElem?_cons_succ]; rfl
                case hd82 => rfl
                case hQ82 => exact fun _ _ _ h => h
                case hy82 => (refine Or.inl ⟨by rfl, ?_⟩; intro w hSw; (try dsimp only at hSw); go_simp; try with_reducible rfl)
                simp only [List.setIfInBounds_toArray, List.set_cons_zero, List.set_cons_succ]
                refine anyE_tk 10 25 (oi := ?oi83) (v := ?v83) ?hi83 ?hd83 (by kernel_rfl) (by kernel_rfl) (by kernel_rfl) ?hQ83 ?hy83 hS ?rest83
                case hi83 => simp only [List.getElem?_toArray, List.getElem?_cons_zero, List.getElem?_cons_succ]; rfl
                case hd83 => rfl
                case hQ83 => exact fun _ _ _ h => h
                case hy83 => (refine Or.inl ⟨by rfl, ?_⟩; intro w hSw; (try dsimp only at hSw); go_simp; try with_reducible rfl)
                simp only [List.setIfInBounds_toArray, List.set_cons_zero, List.set_cons_succ]
                refine anyE_tk 11 26 (oi := ?oi84) (v := ?v84) ?hi84 ?hd84 (by kernel_rfl) (by kernel_rfl) (by kernel_rfl) ?hQ84 ?hy84 hS ?rest84
                case hi84 => simp only [List.getElem?_toArray, List.getElem?_cons_zero, List.getElem?_cons_succ]; rfl
                case hd84 => rfl
                case hQ84 => exact fun _ _ _ h => h
                case hy84 => (refine Or.inl ⟨by rfl, ?_⟩; intro w hSw; (try dsimp only at hSw); go_simp; try with_reducible rfl)
                simp only [List.setIfInBounds_toArray, List.set_cons_zero, List.set_cons_succ]
                refine anyE_tk 12 27 (oi := ?oi85) (v := ?v85) ?hi85 ?hd85 (by kernel_rfl) (by kernel_rfl) (by kernel_rfl) ?hQ85 ?hy85 hS ?rest85
                case hi85 => simp only [List.getElem?_toArray, List.getElem?_cons_zero, List.getElem?_cons_succ]; rfl
                case hd85 => rfl
                case hQ85 => exact fun _ _ _ h => h
                case hy85 => (refine Or.inl ⟨by rfl, ?_⟩; intro w hSw; (try dsimp only at hSw); go_simp; try with_reducible rfl)
                simp only [List.setIfInBounds_toArray, List.set_cons_zero, List.set_cons_succ]
                refine anyE_tk 13 28 (oi := ?oi86) (v := ?v86) ?hi86 ?hd86 (by kernel_rfl) (by kernel_rfl) (by kernel_rfl) ?hQ86 ?hy86 hS ?rest86
                case hi86 => simp only [List.getElem?_toArray, List.getElem?_cons_zero, List.getElem?_cons_succ]; rfl
                case hd86 => rfl
                case hQ86 => exact fun _ _ _ h => h
                case hy86 => (refine Or.inl ⟨by rfl, ?_⟩; intro w hSw; (try dsimp only at hSw); go_simp; try with_reducible rfl)
                simp only [List.setIfInBounds_toArray, List.set_cons_zero, List.set_cons_succ]
                refine anyE_tk 14 29 (oi := ?oi87) (v := ?v87) ?hi87 ?hd87 (by kernel_rfl) (by kernel_rfl) (by kernel_rfl) ?hQ87 ?hy87 hS ?rest87
                case hi87 => simp only [List.getElem?_toArray, List.getElem?_cons_zero, List.getElem?_cons_succ]; rfl
                case hd87 => rfl
                case hQ87 => exact fun _ _ _ h => h
                case hy87 => (refine Or.inl ⟨by rfl, ?_⟩; intro w hSw; (try dsimp only at hSw); go_simp; try with_reducible rfl)
                simp only [List.setIfInBounds_toArray, List.set_cons_zero, List.set_cons_succ]
                refine anyE_tk 15 30 (oi := ?oi88) (v := ?v88) ?hi88 ?hd88 (by kernel_rfl) (by kernel_rfl) (by kernel_rfl) ?hQ88 ?hy88 hS ?rest88
                case hi88 => simp only [List.getElem?_toArray, List.getElem?_cons_zero, List.getElem?_cons_succ]; rfl
                case hd88 => rfl
                case hQ88 => exact fun _ _ _ h => h
                case hy88 => (refine Or.inl ⟨by rfl, ?_⟩; intro w hSw; (try dsimp only at hSw); go_simp; try with_reducible rfl)
                simp only [List.setIfInBounds_toArray, List.set_cons_zero, List.set_cons_succ]
                refine anyE_tk 16 31 (oi := ?oi89) (v := ?v89) ?hi89 ?hd89 (by kernel_rfl) (by kernel_rfl) (by kernel_rfl) ?hQ89 ?hy89 hS ?rest89
                case hi89 => simp only [List.getElem?_toArray, List.getElem?_cons_zero, List.getElem?_cons_succ]; rfl
                case hd89 => rfl
                case hQ89 => exact fun _ _ _ h => h
                case hy89 => (refine Or.inl ⟨by rfl, ?_⟩; intro w hSw; (try dsimp only at hSw); go_simp; try with_reducible rfl)
                simp only [List.setIfInBounds_toArray, List.set_cons_zero, List.set_cons_succ]
                refine anyE_tk 17 32 (oi := ?oi90) (v := ?v90) ?hi90 ?hd90 (by kernel_rfl) (by kernel_rfl) (by kernel_rfl) ?hQ90 ?hy90 hS ?rest90
                case hi90 => simp only [List.getElem?_toArray, List.getElem?_cons_zero, List.getElem?_cons_succ]; rfl
                case hd90 => rfl
                case hQ90 => exact fun _ _ _ h => h
                case hy90 => (refine Or.inl ⟨by rfl, ?_⟩; intro w hSw; (try dsimp only at hSw); go_simp; try with_reducible rfl)
                simp only [List.setIfInBounds_toArray, List.set_cons_zero, List.set_cons_succ]
                refine anyE_tk 18 33 (oi := ?oi91) (v := ?v91) ?hi91 ?hd91 (by kernel_rfl) (by kernel_rfl) (by kernel_rfl) ?hQ91 ?hy91 hS ?rest91
                case hi91 => simp only [List.getElem?_toArray, List.getElem?_cons_zero, List.getElem?_cons_succ]; rfl
                case hd91 => rfl
                case hQ91 => exact fun _ _ _ h => h
                case hy91 => (refine Or.inl ⟨by rfl, ?_⟩; intro w hSw; (try dsimp only at hSw); go_simp; try with_reducible rfl)
                simp only [List.setIfInBounds_toArray, List.set_cons_zero, List.set_cons_succ]
                refine anyE_tk 19 34 (oi := ?oi92) (v := ?v92) ?hi92 ?hd92 (by kernel_rfl) (by kernel_rfl) (by kernel_rfl) ?hQ92 ?hy92 hS ?rest92
                case hi92 => simp only [List.getElem?_toArray, List.getElem?_cons_zero, List.getElem?_cons_succ]; rfl
                case hd92 => rfl
                case hQ92 => exact fun _ _ _ h => h
                case hy92 => (refine Or.inl ⟨by rfl, ?_⟩; intro w hSw; (try dsimp only at hSw); go_simp; try with_reducible rfl)
                simp only [List.setIfInBounds_toArray, List.set_cons_zero, List.set_cons_succ]
                refine anyE_tk 20 35 (oi := ?oi93) (v := ?v93) ?hi93 ?hd93 (by kernel_rfl) (by kernel_rfl) (by kernel_rfl) ?hQ93 ?hy93 hS ?rest93
                case hi93 => simp only [List.getElem?_toArray, List.getElem?_cons_zero, List.getElem?_cons_succ]; rfl
                case hd93 => rfl
                case hQ93 => exact fun _ _ _ h => h
                case hy93 => (refine Or.inl ⟨by rfl, ?_⟩; intro w hSw; (try dsimp only at hSw); go_simp; try with_reducible rfl)
                simp only [List.setIfInBounds_toArray, List.set_cons_zero, List.set_cons_succ]
                refine anyE_tk 21 36 (oi := ?oi94) (v := ?v94) ?hi94 ?hd94 (by kernel_rfl) (by kernel_rfl) (by kernel_rfl) ?hQ94 ?hy94 hS ?rest94
                case hi94 => simp only [List.getElem?_toArray, List.getElem?_cons_zero, List.getElem?_cons_succ]; rfl
                case hd94 => rfl
                case hQ94 => exact fun _ _ _ h => h
                case hy94 => (refine Or.inl ⟨by rfl, ?_⟩; intro w hSw; (try dsimp only at hSw); go_simp; try with_reducible rfl)
                simp only [List.setIfInBounds_toArray, List.set_cons_zero, List.set_cons_succ]
                refine anyE_tk 22 37 (oi := ?oi95) (v := ?v95) ?hi95 ?hd95 (by kernel_rfl) (by kernel_rfl) (by kernel_rfl) ?hQ95 ?hy95 hS ?rest95
                case hi95 => simp only [List.getElem?_toArray, List.getElem?_cons_zero, List.getElem?_cons_succ]; rfl
                case hd95 => rfl
                case hQ95 => exact fun _ _ _ h => h
                case hy95 => (refine Or.inl ⟨by rfl, ?_⟩; intro w hSw; (try dsimp only at hSw); go_simp; try with_reducible rfl)
                simp only [List.setIfInBounds_toArray, List.set_cons_zero, List.set_cons_succ]
                refine anyE_tk 23 38 (oi := ?oi96) (v := ?v96) ?hi96 ?hd96 (by kernel_rfl) (by kernel_rfl) (by kernel_rfl) ?hQ96 ?hy96 hS ?rest96
                case hi96 => simp only [List.getElem?_toArray, List.getElem?_cons_zero, List.getElem?_cons_succ]; rfl
                case hd96 => rfl
                case hQ96 => exact fun _ _ _ h => h
                case hy96 => (refine Or.inl ⟨by rfl, ?_⟩; intro w hSw; (try dsimp only at hSw); go_simp; try with_reducible rfl)
                simp only [List.setIfInBounds_toArray, List.set_cons_zero, List.set_cons_succ]
                refine anyE_tk 24 39 (oi := ?oi97) (v := ?v97) ?hi97 ?hd97 (by kernel_rfl) (by kernel_rfl) (by kernel_rfl) ?hQ97 ?hy97 hS ?rest97
                case hi97 => simp only [List.getElem?_toArray, List.getElem?_cons_zero, List.getElem?_cons_succ]; rfl
                case hd97 => rfl
                case hQ97 => exact fun _ _ _ h => h
                case hy97 => (refine Or.inl ⟨by rfl, ?_⟩; intro w hSw; (try dsimp only at hSw); go_simp; try with_reducible rfl)
                simp only [List.setIfInBounds_toArray, List.set_cons_zero, List.set_cons_succ]
                refine anyE_tk 25 40 (oi := ?oi98) (v := ?v98) ?hi98 ?hd98 (by kernel_rfl) (by kernel_rfl) (by kernel_rfl) ?hQ98 ?hy98 hS ?rest98
                case hi98 => simp only [List.getElem?_toArray, List.getElem?_cons_zero, List.getElem?_cons_succ]; rfl
                case hd98 => rfl
                case hQ98 => exact fun _ _ _ h => h
                case hy98 => (refine Or.inl ⟨by rfl, ?_⟩; intro w hSw; (try dsimp only at hSw); go_simp; try with_reducible rfl)
                simp only [List.setIfInBounds_toArray, List.set_cons_zero, List.set_cons_succ]
                refine anyE_tk 26 41 (oi := ?oi99) (v := undef) ?hi99 ?hd99 (by kernel_rfl) (by kernel_rfl) (by kernel_rfl) ?hQ99 ?hy99 hS ?rest99
                case hi99 => simp only [List.getElem?_toArray, List.getElem?_cons_zero, List.getElem?_cons_succ]; rfl
                case hd99 => rfl
                case hQ99 => exact fun _ _ _ h => h
                case hy99 => exact Or.inr ⟨by rfl, rfl⟩
                simp only [List.setIfInBounds_toArray, List.set_cons_zero, List.set_cons_succ]
                refine anyE_tk 27 42 (oi := ?oi100) (v := undef) ?hi100 ?hd100 (by kernel_rfl) (by kernel_rfl) (by kernel_rfl) ?hQ100 ?hy100 hS ?rest100
                case hi100 => simp only [List.getElem?_toArray, List.getElem?_cons_zero, List.getElem?_cons_succ]; rfl
                case hd100 => rfl
                case hQ100 => exact fun _ _ _ h => h
                case hy100 => exact Or.inr ⟨by rfl, rfl⟩
                simp only [List.setIfInBounds_toArray, List.set_cons_zero, List.set_cons_succ]
                refine anyE_tk 28 43 (oi := ?oi101) (v := undef) ?hi101 ?hd101 (by kernel_rfl) (by kernel_rfl) (by kernel_rfl) ?hQ101 ?hy101 hS ?rest101
                case hi101 => simp only [List.getElem?_toArray, List.getElem?_cons_zero, List.getElem?_cons_succ]; rfl
                case hd101 => rfl
                case hQ101 => exact fun _ _ _ h => h
                case hy101 => exact Or.inr ⟨by rfl, rfl⟩
                simp only [List.setIfInBounds_toArray, List.set_cons_zero, List.set_cons_succ]
                refine anyE_tk 29 44 (oi := ?oi102) (v := undef) ?hi102 ?hd102 (by kernel_rfl) (by kernel_rfl) (by kernel_rfl) ?hQ102 ?hy102 hS ?rest102
                case hi102 => simp only [List.getElem?_toArray, List.getElem?_cons_zero, List.getElem?_cons_succ]; rfl
                case hd102 => rfl
                case hQ102 => exact fun _ _ _ h => h
                case hy102 => exact Or.inr ⟨by rfl, rfl⟩
                simp only [List.setIfInBounds_toArray, List.set_cons_zero, List.set_cons_succ]
                refine anyE_tk 30 45 (oi := ?oi103) (v := undef) ?hi103 ?hd103 (by kernel_rfl) (by kernel_rfl) (by kernel_rfl) ?hQ103 ?hy103 hS ?rest103
                case hi103 => simp only [List.getElem?_toArray, List.getElem?_cons_zero, List.getElem?_cons_succ]; rfl
                case hd103 => rfl
                case hQ103 => exact fun _ _ _ h => h
                case hy103 => exact Or.inr ⟨by rfl, rfl⟩
                simp only [List.setIfInBounds_toArray, List.set_cons_zero, List.set_cons_succ]
                refine anyE_tk 31 46 (oi := ?oi104) (v := undef) ?hi104 ?hd104 (by kernel_rfl) (by kernel_rfl) (by kernel_rfl) ?hQ104 ?hy104 hS ?rest104
                case hi104 => simp only [List.getElem?_toArray, List.getElem?_cons_zero, List.getElem?_cons_succ]; rfl
                case hd104 => rfl
                case hQ104 => exact fun _ _ _ h => h
                case hy104 => exact Or.inr ⟨by rfl, rfl⟩
                simp only [List.setIfInBounds_toArray, List.set_cons_zero, List.set_cons_succ]
                refine anyE_tk 32 47 (oi := ?oi105) (v := undef) ?hi105 ?hd105 (by kernel_rfl) (by kernel_rfl) (by kernel_rfl) ?hQ105 ?hy105 hS ?rest105
                case hi105 => simp only [List.getElem?_toArray, List.getElem?_cons_zero, List.getElem?_cons_succ]; rfl
                case hd105 => rfl
                case hQ105 => exact fun _ _ _ h => h
                case hy105 => exact Or.inr ⟨by rfl, rfl⟩
                simp only [List.setIfInBounds_toArray, List.set_cons_zero, List.set_cons_succ]
                refine anyE_tk 33 48 (oi := ?oi106) (v := undef) ?hi106 ?hd106 (by kernel_rfl) (by kernel_rfl) (by kernel_rfl) ?hQ106 ?hy106 hS ?rest106
                case hi106 => simp only [List.getElem?_toArray, List.getElem?_cons_zero, List.getElem?_cons_succ]; rfl
                case hd106 => rfl
                case hQ106 => exact fun _ _ _ h => h
                case hy106 => exact Or.inr ⟨by rfl, rfl⟩
                simp only [List.setIfInBounds_toArray, List.set_cons_zero, List.set_cons_succ]
                refine anyE_tk 34 49 (oi := ?oi107) (v := undef) ?hi107 ?hd107 (by kernel_rfl) (by kernel_rfl) (by kernel_rfl) ?hQ107 ?hy107 hS ?rest107
                case hi107 => simp only [List.getElem?_toArray, List.getElem?_cons_zero, List.getElem?_cons_succ]; rfl
                case hd107 => rfl
                case hQ107 => exact fun _ _ _ h => h
                case hy107 => exact Or.inr ⟨by rfl, rfl⟩
                simp only [List.setIfInBounds_toArray, List.set_cons_zero, List.set_cons_succ]
                refine anyE_tk 35 50 (oi := ?oi108) (v := ?v108) ?hi108 ?hd108 (by kernel_rfl) (by kernel_rfl) (by kernel_rfl) ?hQ108 ?hy108 hS ?rest108
                case hi108 => simp only [List.getElem?_toArray, List.getElem?_cons_zero, List.getElem?_cons_succ]; rfl
                case hd108 => rfl
                case hQ108 => exact fun _ _ _ h => h
                case hy108 => (refine Or.inl ⟨by rfl, ?_⟩; intro w hSw; (try dsimp only at hSw); go_simp; try with_reducible rfl)
                simp only [List.setIfInBounds_toArray, List.set_cons_zero, List.set_cons_succ]
                clear hS
                refine anyE_done (by kernel_rfl) ?_ _
                go_wp2_with fail
                go_ret
                exact ⟨by rw [HR.out]; rfl, Hw.out.trans (Hb2.out.mono Hw.out.size)⟩
            · have s4 : (n : Int) ≤ x := by omega
              clear hs2 s2
              have c1 : decide (x < 0) = false := by simp; omega
              have c2 : decide ((n : Int) ≤ x) = true := by simp; omega
              go_wp2_with fail
              refine wp_region_E (S := fun W => W.cell? ⟨g, off + i * 2, none⟩ = some (.int .i64 x) ∧ W.cell? ⟨g, off + i * 2 + 1, none⟩ = some (.int .i64 y) ∧ W.cell? ⟨w.heap.size, 1, none⟩ = some (.slice AI n cI)) (E := fun _ => false) (by kernel_rfl) ?_
              have hbi : Below wr.heap.size wr wr.drew := (Below.refl _ _).drew
              have hS : wr.drew.cell? ⟨g, off + i * 2, none⟩ = some (.int .i64 x) ∧ wr.drew.cell? ⟨g, off + i * 2 + 1, none⟩ = some (.int .i64 y) ∧ wr.drew.cell? ⟨w.heap.size, 1, none⟩ = some (.slice AI n cI) := ⟨q0, q1, z1⟩
              have Hb2 := Lib.hid (Hb1.out.trans (hbi.mono Hb1.out.size))
              generalize wr.drew = wi0 at hS Hb2 ⊢
              clear hbi q0 q1 z0 z1 z2
              refine anyE_tk 0 15 (oi := ?oi109) (v := ?v109) ?hi109 ?hd109 (by kernel_rfl) (by kernel_rfl) (by kernel_rfl) ?hQ109 ?hy109 hS ?rest109
              case hi109 => simp only [List.getElem?_toArray, List.getElem?_cons_zero, List.getElem?_cons_succ]; rfl
              case hd109 => rfl
              case hQ109 => exact fun _ _ _ h => h
              case hy109 => (refine Or.inl ⟨by rfl, ?_⟩; intro w hSw; (try dsimp only at hSw); go_simp; try with_reducible rfl)
              simp only [List.setIfInBounds_toArray, List.set_cons_zero, List.set_cons_succ]
              refine anyE_tk 1 16 (oi := ?oi110) (v := ?v110) ?hi110 ?hd110 (by kernel_rfl) (by kernel_rfl) (by kernel_rfl) ?hQ110 ?hy110 hS ?rest110
              case hi110 => simp only [List.getElem?_toArray, List.getElem?_cons_zero, List.getElem?_cons_succ]; rfl
              case hd110 => rfl
              case hQ110 => exact fun _ _ _ h => h
              case hy110 => (refine Or.inl ⟨by rfl, ?_⟩; intro w hSw; (try dsimp only at hSw); go_simp; try with_reducible rfl)
              simp only [List.setIfInBounds_toArray, List.set_cons_zero, List.set_cons_succ]
              refine anyE_tk 2 17 (oi := ?oi111) (v := ?v111) ?hi111 ?hd111 (by kernel_rfl) (by kernel_rfl) (by kernel_rfl) ?hQ111 ?hy111 hS ?rest111
              case hi111 => simp only [List.getElem?_toArray, List.getElem?_cons_zero, List.getElem?_cons_succ]; rfl
              case hd111 => rfl
              case hQ111 => exact fun _ _ _ h => h
              case hy111 => (refine Or.inl ⟨by rfl, ?_⟩; intro w hSw; (try dsimp only at hSw); go_simp; try with_reducible rfl)
              simp only [List.setIfInBounds_toArray, List.set_cons_zero, List.set_cons_succ]
              refine anyE_tk 3 18 (oi := ?oi112) (v := ?v112) ?hi112 ?hd112 (by kernel_rfl) (by kernel_rfl) (by kernel_rfl) ?hQ112 ?hy112 hS ?rest112
              case hi112 => simp only [List.getElem?_toArray, List.getElem?_cons_zero, List.getElem?_cons_succ]; rfl
              case hd112 => rfl
              case hQ112 => exact fun _ _ _ h => h
              case hy112 => (refine Or.inl ⟨by rfl, ?_⟩; intro w hSw; (try dsimp only at hSw); go_simp; try with_reducible rfl)
              simp only [List.setIfInBounds_toArray, List.set_cons_zero, List.set_cons_succ]
              refine anyE_tk 4 19 (oi := ?oi113) (v := ?v113) ?hi113 ?hd113 (by kernel_rfl) (by kernel_rfl) (by kernel_rfl) ?hQ113 ?hy113 hS ?rest113
              case hi113 => simp only [List.getElem?_toArray, List.getElem?_cons_zero, List.getElem?_cons_succ]; rfl
              case hd113 => rfl
              case hQ113 => exact fun _ _ _ h => h
              case hy113 => (refine Or.inl ⟨by rfl, ?_⟩; intro w hSw; (try dsimp only at hSw); go_simp; try with_reducible rfl)
              simp only [List.setIfInBounds_toArray, List.set_cons_zero, List.set_cons_succ]
              refine anyE_tk 5 20 (oi := ?oi114) (v := ?v114) ?hi114 ?hd114 (by kernel_rfl) (by kernel_rfl) (by kernel_rfl) ?hQ114 ?hy114 hS ?rest114
              case hi114 => simp only [List.getElem?_toArray, List.getElem?_cons_zero, List.getElem?_cons_succ]; rfl
              case hd114 => rfl
              case hQ114 => exact fun _ _ _ h => h
              case hy114 => (refine Or.inl ⟨by rfl, ?_⟩; intro w hSw; (try dsimp only at hSw); go_simp; try with_reducible rfl)
              simp only [List.setIfInBounds_toArray, List.set_cons_zero, List.set_cons_succ]
              refine anyE_tk 6 21 (oi := ?oi115) (v := ?v115) ?hi115 ?hd115 (by kernel_rfl) (by kernel_rfl) (by kernel_rfl) ?hQ115 ?hy115 hS ?rest115
              case hi115 => simp only [List.getElem?_toArray, List.getElem?_cons_zero, List.getElem?_cons_succ]; rfl
              case hd115 => rfl
              case hQ115 => exact fun _ _ _ h => h
              case hy115 => (refine Or.inl ⟨by rfl, ?_⟩; intro w hSw; (try dsimp only at hSw); go_simp; try with_reducible rfl)
              simp only [List.setIfInBounds_toArray, List.set_cons_zero, List.set_cons_succ]
              refine anyE_tk 7 22 (oi := ?oi116) (v := ?v116) ?hi116 ?hd116 (by kernel_rfl) (by kernel_rfl) (by kernel_rfl) ?hQ116 ?hy116 hS ?rest116
              case hi116 => simp only [List.getElem?_toArray, List.getElem?_cons_zero, List.getElem?_cons_succ]; rfl
              case hd116 => rfl
              case hQ116 => exact fun _ _ _ h => h
              case hy116 => (refine Or.inl ⟨by rfl, ?_⟩; intro w hSw; (try dsimp only at hSw); go_simp; try with_reducible rfl)
              simp only [List.setIfInBounds_toArray, List.set_cons_zero, List.set_cons_succ]
              refine anyE_tk 8 23 (oi := ?oi117) (v := ?v117) ?hi117 ?hd117 (by kernel_rfl) (by kernel_rfl) (by kernel_rfl) ?hQ117 ?hy117 hS ?rest117
              case hi117 => simp only [List.getElem?_toArray, List.getElem?_cons_zero, List.getElem?_cons_succ]; rfl
              case hd117 => rfl
              case hQ117 => exact fun _ _ _ h => h
              case hy117 => (refine Or.inl ⟨by rfl, ?_⟩; intro w hSw; (try dsimp only at hSw); go_simp; try with_reducible rfl)
              simp only [List.setIfInBounds_toArray, List.set_cons_zero, List.set_cons_succ]
              refine anyE_tk 9 24 (oi := ?oi118) (v := ?v118) ?hi118 ?hd118 (by kernel_rfl) (by kernel_rfl) (by kernel_rfl) ?hQ118 ?hy118 hS ?rest118
              case hi118 => simp only [List.getElem?_toArray, List.getElem?_cons_zero, List.getElem?_cons_succ]; rfl
              case hd118 => rfl
              case hQ118 => exact fun _ _ _ h => h
              case hy118 => (refine Or.inl ⟨by rfl, ?_⟩; intro w hSw; (try dsimp only at hSw); go_simp; try with_reducible rfl)
              simp only [List.setIfInBounds_toArray, List.set_cons_zero, List.set_cons_succ]
              refine anyE_tk 10 25 (oi := ?oi119) (v := ?v119) ?hi119 ?hd119 (by kernel_rfl) (by kernel_rfl) (by kernel_rfl) ?hQ119 ?hy119 hS ?rest119
              case hi119 => simp only [List.getElem?_toArray, List.getElem?_cons_zero, List.getElem?_cons_succ]; rfl
              case hd119 => rfl
              case hQ119 => exact fun _ _ _ h => h
              case hy119 => (refine Or.inl ⟨by rfl, ?_⟩; intro w hSw; (try dsimp only at hSw); go_simp; try with_reducible rfl)
              simp only [List.setIfInBounds_toArray, List.set_cons_zero, List.set_cons_succ]
              refine anyE_tk 11 26 (oi := ?oi120) (v := ?v120) ?hi120 ?hd120 (by kernel_rfl) (by kernel_rfl) (by kernel_rfl) ?hQ120 ?hy120 hS ?rest120
              case hi120 => simp only [List.getElem?_toArray, List.getElem?_cons_zero, List.getElem?_cons_succ]; rfl
              case hd120 => rfl
              case hQ120 => exact fun _ _ _ h => h
              case hy120 => (refine Or.inl ⟨by rfl, ?_⟩; intro w hSw; (try dsimp only at hSw); go_simp; try with_reducible rfl)
              simp only [List.setIfInBounds_toArray, List.set_cons_zero, List.set_cons_succ]
              refine anyE_tk 12 27 (oi := ?oi121) (v := ?v121) ?hi121 ?hd121 (by kernel_rfl) (by kernel_rfl) (by kernel_rfl) ?hQ121 ?hy121 hS ?rest121
              case hi121 => simp only [List.getElem?_toArray, List.getElem?_cons_zero, List.getElem?_cons_succ]; rfl
              case hd121 => rfl
              case hQ121 => exact fun _ _ _ h => h
              case hy121 => (refine Or.inl ⟨by rfl, ?_⟩; intro w hSw; (try dsimp only at hSw); go_simp; try with_reducible rfl)
              simp only [List.setIfInBounds_toArray, List.set_cons_zero, List.set_cons_succ]
              refine anyE_tk 13 28 (oi := ?oi122) (v := ?v122) ?hi122 ?hd122 (by kernel_rfl) (by kernel_rfl) (by kernel_rfl) ?hQ122 ?hy122 hS ?rest122
              case hi122 => simp only [List.getElem?_toArray, List.getElem?_cons_zero, List.getElem?_cons_succ]; rfl
              case hd122 => rfl
              case hQ122 => exact fun _ _ _ h => h
              case hy122 => (refine Or.inl ⟨by rfl, ?_⟩; intro w hSw; (try dsimp only at hSw); go_simp; try with_reducible rfl)
              simp only [List.setIfInBounds_toArray, List.set_cons_zero, List.set_cons_succ]
              refine anyE_tk 14 29 (oi := ?oi123) (v := ?v123) ?hi123 ?hd123 (by kernel_rfl) (by kernel_rfl) (by kernel_rfl) ?hQ123 ?hy123 hS ?rest123
              case hi123 => simp only [List.getElem?_toArray, List.getElem?_cons_zero, List.getElem?_cons_succ]; rfl
              case hd123 => rfl
              case hQ123 => exact fun _ _ _ h => h
              case hy123 => (refine Or.inl ⟨by rfl, ?_⟩; intro w hSw; (try dsimp only at hSw); go_simp; try with_reducible rfl)
              simp only [List.setIfInBounds_toArray, List.set_cons_zero, List.set_cons_succ]
              refine anyE_tk 15 30 (oi := ?oi124) (v := ?v124) ?hi124 ?hd124 (by kernel_rfl) (by kernel_rfl) (by kernel_rfl) ?hQ124 ?hy124 hS ?rest124
              case hi124 => simp only [List.getElem?_toArray, List.getElem?_cons_zero, List.getElem?_cons_succ]; rfl
              case hd124 => rfl
              case hQ124 => exact fun _ _ _ h => h
              case hy124 => (refine Or.inl ⟨by rfl, ?_⟩; intro w hSw; (try dsimp only at hSw); go_simp; try with_reducible rfl)
              simp only [List.setIfInBounds_toArray, List.set_cons_zero, List.set_cons_succ]
              refine anyE_tk 16 31 (oi := ?oi125) (v := ?v125) ?hi125 ?hd125 (by kernel_rfl) (by kernel_rfl) (by kernel_rfl) ?hQ125 ?hy125 hS ?rest125
              case hi125 => simp only [List.getElem?_toArray, List.getElem?_cons_zero, List.getElem?_cons_succ]; rfl
              case hd125 => rfl
              case hQ125 => exact fun _ _ _ h => h
              case hy125 => (refine Or.inl ⟨by rfl, ?_⟩; intro w hSw; (try dsimp only at hSw); go_simp; try with_reducible rfl)
              simp only [List.setIfInBounds_toArray, List.set_cons_zero, List.set_cons_succ]
              refine anyE_tk 17 32 (oi := ?oi126) (v := ?v126) ?hi126 ?hd126 (by kernel_rfl) (by kernel_rfl) (by kernel_rfl) ?hQ126 ?hy126 hS ?rest126
              case hi126 => simp only [List.getElem?_toArray, List.getElem?_cons_zero, List.getElem?_cons_succ]; rfl
              case hd126 => rfl
              case hQ126 => exact fun _ _ _ h => h
              case hy126 => (refine Or.inl ⟨by rfl, ?_⟩; intro w hSw; (try dsimp only at hSw); go_simp; try with_reducible rfl)
              simp only [List.setIfInBounds_toArray, List.set_cons_zero, List.set_cons_succ]
              refine anyE_tk 18 33 (oi := ?oi127) (v := undef) ?hi127 ?hd127 (by kernel_rfl) (by kernel_rfl) (by kernel_rfl) ?hQ127 ?hy127 hS ?rest127
              case hi127 => simp only [List.getElem?_toArray, List.getElem?_cons_zero, List.getElem?_cons_succ]; rfl
              case hd127 => rfl
              case hQ127 => exact fun _ _ _ h => h
              case hy127 => exact Or.inr ⟨by rfl, rfl⟩
              simp only [List.setIfInBounds_toArray, List.set_cons_zero, List.set_cons_succ]
              refine anyE_tk 19 34 (oi := ?oi128) (v := undef) ?hi128 ?hd128 (by kernel_rfl) (by kernel_rfl) (by kernel_rfl) ?hQ128 ?hy128 hS ?rest128
              case hi128 => simp only [List.getElem?_toArray, List.getElem?_cons_zero, List.getElem?_cons_succ]; rfl
              case hd128 => rfl
              case hQ128 => exact fun _ _ _ h => h
              case hy128 => exact Or.inr ⟨by rfl, rfl⟩
              simp only [List.setIfInBounds_toArray, List.set_cons_zero, List.set_cons_succ]
              refine anyE_tk 20 35 (oi := ?oi129) (v := undef) ?hi129 ?hd129 (by kernel_rfl) (by kernel_rfl) (by kernel_rfl) ?hQ129 ?hy129 hS ?rest129
              case hi129 => simp only [List.getElem?_toArray, List.getElem?_cons_zero, List.getElem?_cons_succ]; rfl
              case hd129 => rfl
              case hQ129 => exact fun _ _ _ h => h
              case hy129 => exact Or.inr ⟨by rfl, rfl⟩
              simp only [List.setIfInBounds_toArray, List.set_cons_zero, List.set_cons_succ]
              refine anyE_tk 21 36 (oi := ?oi130) (v := undef) ?hi130 ?hd130 (by kernel_rfl) (by kernel_rfl) (by kernel_rfl) ?hQ130 ?hy130 hS ?rest130
              case hi130 => simp only [List.getElem?_toArray, List.getElem?_cons_zero, List.getElem?_cons_succ]; rfl
              case hd130 => rfl
              case hQ130 => exact fun _ _ _ h => h
              case hy130 => exact Or.inr ⟨by rfl, rfl⟩
              simp only [List.setIfInBounds_toArray, List.set_cons_zero, List.set_cons_succ]
              refine anyE_tk 22 37 (oi := ?oi131) (v := undef) ?hi131 ?hd131 (by kernel_rfl) (by kernel_rfl) (by kernel_rfl) ?hQ131 ?hy131 hS ?rest131
              case hi131 => simp only [List.getElem?_toArray, List.getElem?_cons_zero, List.getElem?_cons_succ]; rfl
              case hd131 => rfl
              case hQ131 => exact fun _ _ _ h => h
              case hy131 => exact Or.inr ⟨by rfl, rfl⟩
              simp only [List.setIfInBounds_toArray, List.set_cons_zero, List.set_cons_succ]
              refine anyE_tk 23 38 (oi := ?oi132) (v := undef) ?hi132 ?hd132 (by kernel_rfl) (by kernel_rfl) (by kernel_rfl) ?hQ132 ?hy132 hS ?rest132
              case hi132 => simp only [List.getElem?_toArray, List.getElem?_cons_zero, List.getElem?_cons_succ]; rfl
              case hd132 => rfl
              case hQ132 => exact fun _ _ _ h => h
              case hy132 => exact Or.inr ⟨by rfl, rfl⟩
              simp only [List.setIfInBounds_toArray, List.set_cons_zero, List.set_cons_succ]
              refine anyE_tk 24 39 (oi := ?oi133) (v := ?v133) ?hi133 ?hd133 (by kernel_rfl) (by kernel_rfl) (by kernel_rfl) ?hQ133 ?hy133 hS ?rest133
              case hi133 => simp only [List.getElem?_toArray, List.getElem?_cons_zero, List.getElem?_cons_succ]; rfl
              case hd133 => rfl
              case hQ133 => exact fun _ _ _ h => h
              case hy133 => (refine Or.inl ⟨by rfl, ?_⟩; intro w hSw; (try dsimp only at hSw); go_simp; try with_reducible rfl)
              simp only [List.setIfInBounds_toArray, List.set_cons_zero, List.set_cons_succ]
              refine anyE_tk 25 40 (oi := ?oi134) (v := ?v134) ?hi134 ?hd134 (by kernel_rfl) (by kernel_rfl) (by kernel_rfl) ?hQ134 ?hy134 hS ?rest134
              case hi134 => simp only [List.getElem?_toArray, List.getElem?_cons_zero, List.getElem?_cons_succ]; rfl
              case hd134 => rfl
              case hQ134 => exact fun _ _ _ h => h
              case hy134 => (refine Or.inl ⟨by rfl, ?_⟩; intro w hSw; (try dsimp only at hSw); go_simp; try with_reducible rfl)
              simp only [List.setIfInBounds_toArray, List.set_cons_zero, List.set_cons_succ]
              refine anyE_tk 26 41 (oi := ?oi135) (v := undef) ?hi135 ?hd135 (by kernel_rfl) (by kernel_rfl) (by kernel_rfl) ?hQ135 ?hy135 hS ?rest135
              case hi135 => simp only [List.getElem?_toArray, List.getElem?_cons_zero, List.getElem?_cons_succ]; rfl
              case hd135 => rfl
              case hQ135 => exact fun _ _ _ h => h
              case hy135 => exact Or.inr ⟨by rfl, rfl⟩
              simp only [List.setIfInBounds_toArray, List.set_cons_zero, List.set_cons_succ]
              refine anyE_tk 27 42 (oi := ?oi136) (v := undef) ?hi136 ?hd136 (by kernel_rfl) (by kernel_rfl) (by kernel_rfl) ?hQ136 ?hy136 hS ?rest136
              case hi136 => simp only [List.getElem?_toArray, List.getElem?_cons_zero, List.getElem?_cons_succ]; rfl
              case hd136 => rfl
              case hQ136 => exact fun _ _ _ h => h
              case hy136 => exact Or.inr ⟨by rfl, rfl⟩
              simp only [List.setIfInBounds_toArray, List.set_cons_zero, List.set_cons_succ]
              refine anyE_tk 28 43 (oi := ?oi137) (v := undef) ?hi137 ?hd137 (by kernel_rfl) (by kernel_rfl) (by kernel_rfl) ?hQ137 ?hy137 hS ?rest137
              case hi137 => simp only [List.getElem?_toArray, List.getElem?_cons_zero, List.getElem?_cons_succ]; rfl
              case hd137 => rfl
              case hQ137 => exact fun _ _ _ h => h
              case hy137 => exact Or.inr ⟨by rfl, rfl⟩
              simp only [List.setIfInBounds_toArray, List.set_cons_zero, List.set_cons_succ]
              refine anyE_tk 29 44 (oi := ?oi138) (v := undef) ?hi138 ?hd138 (by kernel_rfl) (by kernel_rfl) (by kernel_rfl) ?hQ138 ?hy138 hS ?rest138
              case hi138 => simp only [List.getElem?_toArray, List.getElem?_cons_zero, List.getElem?_cons_succ]; rfl
              case hd138 => rfl
              case hQ138 => exact fun _ _ _ h => h
              case hy138 => exact Or.inr ⟨by rfl, rfl⟩
              simp only [List.setIfInBounds_toArray, List.set_cons_zero, List.set_cons_succ]
              refine anyE_tk 30 45 (oi := ?oi139) (v := undef) ?hi139 ?hd139 (by kernel_rfl) (by kernel_rfl) (by kernel_rfl) ?hQ139 ?hy139 hS ?rest139
              case hi139 => simp only [List.getElem?_toArray, List.getElem?_cons_zero, List.getElem?_cons_succ]; rfl
              case hd139 => rfl
              case hQ139 => exact fun _ _ _ h => h
              case hy139 => exact Or.inr ⟨by rfl, rfl⟩
              simp only [List.setIfInBounds_toArray, List.set_cons_zero, List.set_cons_succ]
              refine anyE_tk 31 46 (oi := ?oi140) (v := undef) ?hi140 ?hd140 (by kernel_rfl) (by kernel_rfl) (by kernel_rfl) ?hQ140 ?hy140 hS ?rest140
              case hi140 => simp only [List.getElem?_toArray, List.getElem?_cons_zero, List.getElem?_cons_succ]; rfl
              case hd140 => rfl
              case hQ140 => exact fun _ _ _ h => h
              case hy140 => exact Or.inr ⟨by rfl, rfl⟩
              simp only [List.setIfInBounds_toArray, List.set_cons_zero, List.set_cons_succ]
              refine anyE_tk 32 47 (oi := ?oi141) (v := undef) ?hi141 ?hd141 (by kernel_rfl) (by kernel_rfl) (by kernel_rfl) ?hQ141 ?hy141 hS ?rest141
              case hi141 => simp only [List.getElem?_toArray, List.getElem?_cons_zero, List.getElem?_cons_succ]; rfl
              case hd141 => rfl
              case hQ141 => exact fun _ _ _ h => h
              case hy141 => exact Or.inr ⟨by rfl, rfl⟩
              simp only [List.setIfInBounds_toArray, List.set_cons_zero, List.set_cons_succ]
              refine anyE_tk 33 48 (oi := ?oi142) (v := undef) ?hi142 ?hd142 (by kernel_rfl) (by kernel_rfl) (by kernel_rfl) ?hQ142 ?hy142 hS ?rest142
              case hi142 => simp only [List.getElem?_toArray, List.getElem?_cons_zero, List.getElem?_cons_succ]; rfl
              case hd142 => rfl
              case hQ142 => exact fun _ _ _ h => h
              case hy142 => exact Or.inr ⟨by rfl, rfl⟩
              simp only [List.setIfInBounds_toArray, List.set_cons_zero, List.set_cons_succ]
              refine anyE_tk 34 49 (oi := ?oi143) (v := undef) ?hi143 ?hd143 (by kernel_rfl) (by kernel_rfl) (by kernel_rfl) ?hQ143 ?hy143 hS ?rest143
              case hi143 => simp only [List.getElem?_toArray, List.getElem?_cons_zero, List.getElem?_cons_succ]; rfl
              case hd143 => rfl
              case hQ143 => exact fun _ _ _ h => h
              case hy143 => exact Or.inr ⟨by rfl, rfl⟩
              simp only [List.setIfInBounds_toArray, List.set_cons_zero, List.set_cons_succ]
              refine anyE_tk 35 50 (oi := ?oi144) (v := ?v144) ?hi144 ?hd144 (by kernel_rfl) (by kernel_rfl) (by kernel_rfl) ?hQ144 ?hy144 hS ?rest144
              case hi144 => simp only [List.getElem?_toArray, List.getElem?_cons_zero, List.getElem?_cons_succ]; rfl
              case hd144 => rfl
              case hQ144 => exact fun _ _ _ h => h
              case hy144 => (refine Or.inl ⟨by rfl, ?_⟩; intro w hSw; (try dsimp only at hSw); go_simp; try with_reducible rfl)
              simp only [List.setIfInBounds_toArray, List.set_cons_zero, List.set_cons_succ]
              clear hS
              refine anyE_done (by kernel_rfl) ?_ _
              go_wp2_with fail
              go_ret
              exact ⟨by rw [HR.out]; rfl, Hw.out.trans (Hb2.out.mono Hw.out.size)⟩
          · have s4 : x < 0 := by omega
            clear hs2 s1
            have c1 : decide (x < 0) = true := by simp; omega
            go_wp2_with fail
            refine wp_region_E (S := fun W => W.cell? ⟨g, off + i * 2, none⟩ = some (.int .i64 x) ∧ W.cell? ⟨g, off + i * 2 + 1, none⟩ = some (.int .i64 y) ∧ W.cell? ⟨w.heap.size, 1, none⟩ = some (.slice AI n cI)) (E := fun _ => false) (by kernel_rfl) ?_
            have hbi : Below wr.heap.size wr wr.drew := (Below.refl _ _).drew
            have hS : wr.drew.cell? ⟨g, off + i * 2, none⟩ = some (.int .i64 x) ∧ wr.drew.cell? ⟨g, off + i * 2 + 1, none⟩ = some (.int .i64 y) ∧ wr.drew.cell? ⟨w.heap.size, 1, none⟩ = some (.slice AI n cI) := ⟨q0, q1, z1⟩
            have Hb2 := Lib.hid (Hb1.out.trans (hbi.mono Hb1.out.size))
            generalize wr.drew = wi0 at hS Hb2 ⊢
            clear hbi q0 q1 z0 z1 z2
            refine anyE_tk 0 15 (oi := ?oi145) (v := ?v145) ?hi145 ?hd145 (by kernel_rfl) (by kernel_rfl) (by kernel_rfl) ?hQ145 ?hy145 hS ?rest145
            case hi145 => simp only [List.getElem?_toArray, List.getElem?_cons_zero, List.getElem?_cons_succ]; rfl
            case hd145 => rfl
            case hQ145 => exact fun _ _ _ h => h
            case hy145 => (refine Or.inl ⟨by rfl, ?_⟩; intro w hSw; (try dsimp only at hSw); go_simp; try with_reducible rfl)
            simp only [List.setIfInBounds_toArray, List.set_cons_zero, List.set_cons_succ]
            refine anyE_tk 1 16 (oi := ?oi146) (v := ?v146) ?hi146 ?hd146 (by kernel_rfl) (by kernel_rfl) (by kernel_rfl) ?hQ146 ?hy146 hS ?rest146
            case hi146 => simp only [List.getElem?_toArray, List.getElem?_cons_zero, List.getElem?_cons_succ]; rfl
            case hd146 => rfl
            case hQ146 => exact fun _ _ _ h => h
            case hy146 => (refine Or.inl ⟨by rfl, ?_⟩; intro w hSw; (try dsimp only at hSw); go_simp; try with_reducible rfl)
            simp only [List.setIfInBounds_toArray, List.set_cons_zero, List.set_cons_succ]
            refine anyE_tk 2 17 (oi := ?oi147) (v := ?v147) ?hi147 ?hd147 (by kernel_rfl) (by kernel_rfl) (by kernel_rfl) ?hQ147 ?hy147 hS ?rest147
            case hi147 => simp only [List.getElem?_toArray, List.getElem?_cons_zero, List.getElem?_cons_succ]; rfl
            case hd147 => rfl
            case hQ147 => exact fun _ _ _ h => h
            case hy147 => (refine Or.inl ⟨by rfl, ?_⟩; intro w hSw; (try dsimp only at hSw); go_simp; try with_reducible rfl)
            simp only [List.setIfInBounds_toArray, List.set_cons_zero, List.set_cons_succ]
            refine anyE_tk 3 18 (oi := ?oi148) (v := ?v148) ?hi148 ?hd148 (by kernel_rfl) (by kernel_rfl) (by kernel_rfl) ?hQ148 ?hy148 hS ?rest148
            case hi148 => simp only [List.getElem?_toArray, List.getElem?_cons_zero, List.getElem?_cons_succ]; rfl
            case hd148 => rfl
            case hQ148 => exact fun _ _ _ h => h
            case hy148 => (refine Or.inl ⟨by rfl, ?_⟩; intro w hSw; (try dsimp only at hSw); go_simp; try with_reducible rfl)
            simp only [List.setIfInBounds_toArray, List.set_cons_zero, List.set_cons_succ]
            refine anyE_tk 4 19 (oi := ?oi149) (v := ?v149) ?hi149 ?hd149 (by kernel_rfl) (by kernel_rfl) (by kernel_rfl) ?hQ149 ?hy149 hS ?rest149
            case hi149 => simp only [List.getElem?_toArray, List.getElem?_cons_zero, List.getElem?_cons_succ]; rfl
            case hd149 => rfl
            case hQ149 => exact fun _ _ _ h => h
            case hy149 => (refine Or.inl ⟨by rfl, ?_⟩; intro w hSw; (try dsimp only at hSw); go_simp; try with_reducible rfl)
            simp only [List.setIfInBounds_toArray, List.set_cons_zero, List.set_cons_succ]
            refine anyE_tk 5 20 (oi := ?oi150) (v := ?v150) ?hi150 ?hd150 (by kernel_rfl) (by kernel_rfl) (by kernel_rfl) ?hQ150 ?hy150 hS ?rest150
            case hi150 => simp only [List.getElem?_toArray, List.getElem?_cons_zero, List.getElem?_cons_succ]; rfl
            case hd150 => rfl
            case hQ150 => exact fun _ _ _ h => h
            case hy150 => (refine Or.inl ⟨by rfl, ?_⟩; intro w hSw; (try dsimp only at hSw); go_simp; try with_reducible rfl)
            simp only [List.setIfInBounds_toArray, List.set_cons_zero, List.set_cons_succ]
            refine anyE_tk 6 21 (oi := ?oi151) (v := ?v151) ?hi151 ?hd151 (by kernel_rfl) (by kernel_rfl) (by kernel_rfl) ?hQ151 ?hy151 hS ?rest151
            case hi151 => simp only [List.getElem?_toArray, List.getElem?_cons_zero, List.getElem?_cons_succ]; rfl
            case hd151 => rfl
            case hQ151 => exact fun _ _ _ h => h
            case hy151 => (refine Or.inl ⟨by rfl, ?_⟩; intro w hSw; (try dsimp only at hSw); go_simp; try with_reducible rfl)
            simp only [List.setIfInBounds_toArray, List.set_cons_zero, List.set_cons_succ]
            refine anyE_tk 7 22 (oi := ?oi152) (v := undef) ?hi152 ?hd152 (by kernel_rfl) (by kernel_rfl) (by kernel_rfl) ?hQ152 ?hy152 hS ?rest152
            case hi152 => simp only [List.getElem?_toArray, List.getElem?_cons_zero, List.getElem?_cons_succ]; rfl
            case hd152 => rfl
            case hQ152 => exact fun _ _ _ h => h
            case hy152 => exact Or.inr ⟨by rfl, rfl⟩
            simp only [List.setIfInBounds_toArray, List.set_cons_zero, List.set_cons_succ]
            refine anyE_tk 8 23 (oi := ?oi153) (v := undef) ?hi153 ?hd153 (by kernel_rfl) (by kernel_rfl) (by kernel_rfl) ?hQ153 ?hy153 hS ?rest153
            case hi153 => simp only [List.getElem?_toArray, List.getElem?_cons_zero, List.getElem?_cons_succ]; rfl
            case hd153 => rfl
            case hQ153 => exact fun _ _ _ h => h
            case hy153 => exact Or.inr ⟨by rfl, rfl⟩
            simp only [List.setIfInBounds_toArray, List.set_cons_zero, List.set_cons_succ]
            refine anyE_tk 9 24 (oi := ?oi154) (v := undef) ?hi154 ?hd154 (by kernel_rfl) (by kernel_rfl) (by kernel_rfl) ?hQ154 ?hy154 hS ?rest154
            case hi154 => simp only [List.getElem?_toArray, List.getElem?_cons_zero, List.getElem?_cons_succ]; rfl
            case hd154 => rfl
            case hQ154 => exact fun _ _ _ h => h
            case hy154 => exact Or.inr ⟨by rfl, rfl⟩
            simp only [List.setIfInBounds_toArray, List.set_cons_zero, List.set_cons_succ]
            refine anyE_tk 10 25 (oi := ?oi155) (v := undef) ?hi155 ?hd155 (by kernel_rfl) (by kernel_rfl) (by kernel_rfl) ?hQ155 ?hy155 hS ?rest155
            case hi155 => simp only [List.getElem?_toArray, List.getElem?_cons_zero, List.getElem?_cons_succ]; rfl
            case hd155 => rfl
            case hQ155 => exact fun _ _ _ h => h
            case hy155 => exact Or.inr ⟨by rfl, rfl⟩
            simp only [List.setIfInBounds_toArray, List.set_cons_zero, List.set_cons_succ]
            refine anyE_tk 11 26 (oi := ?oi156) (v := undef) ?hi156 ?hd156 (by kernel_rfl) (by kernel_rfl) (by kernel_rfl) ?hQ156 ?hy156 hS ?rest156
            case hi156 => simp only [List.getElem?_toArray, List.getElem?_cons_zero, List.getElem?_cons_succ]; rfl
            case hd156 => rfl
            case hQ156 => exact fun _ _ _ h => h
            case hy156 => exact Or.inr ⟨by rfl, rfl⟩
            simp only [List.setIfInBounds_toArray, List.set_cons_zero, List.set_cons_succ]
            refine anyE_tk 12 27 (oi := ?oi157) (v := undef) ?hi157 ?hd157 (by kernel_rfl) (by kernel_rfl) (by kernel_rfl) ?hQ157 ?hy157 hS ?rest157
            case hi157 => simp only [List.getElem?_toArray, List.getElem?_cons_zero, List.getElem?_cons_succ]; rfl
            case hd157 => rfl
            case hQ157 => exact fun _ _ _ h => h
            case hy157 => exact Or.inr ⟨by rfl, rfl⟩
            simp only [List.setIfInBounds_toArray, List.set_cons_zero, List.set_cons_succ]
            refine anyE_tk 13 28 (oi := ?oi158) (v := undef) ?hi158 ?hd158 (by kernel_rfl) (by kernel_rfl) (by kernel_rfl) ?hQ158 ?hy158 hS ?rest158
            case hi158 => simp only [List.getElem?_toArray, List.getElem?_cons_zero, List.getElem?_cons_succ]; rfl
            case hd158 => rfl
            case hQ158 => exact fun _ _ _ h => h
            case hy158 => exact Or.inr ⟨by rfl, rfl⟩
            simp only [List.setIfInBounds_toArray, List.set_cons_zero, List.set_cons_succ]
            refine anyE_tk 14 29 (oi := ?oi159) (v := undef) ?hi159 ?hd159 (by kernel_rfl) (by kernel_rfl) (by kernel_rfl) ?hQ159 ?hy159 hS ?rest159
            case hi159 => simp only [List.getElem?_toArray, List.getElem?_cons_zero, List.getElem?_cons_succ]; rfl
            case hd159 => rfl
            case hQ159 => exact fun _ _ _ h => h
            case hy159 => exact Or.inr ⟨by rfl, rfl⟩
            simp only [List.setIfInBounds_toArray, List.set_cons_zero, List.set_cons_succ]
            refine anyE_tk 15 30 (oi := ?oi160) (v := undef) ?hi160 ?hd160 (by kernel_rfl) (by kernel_rfl) (by kernel_rfl) ?hQ160 ?hy160 hS ?rest160
            case hi160 => simp only [List.getElem?_toArray, List.getElem?_cons_zero, List.getElem?_cons_succ]; rfl
            case hd160 => rfl
            case hQ160 => exact fun _ _ _ h => h
            case hy160 => exact Or.inr ⟨by rfl, rfl⟩
            simp only [List.setIfInBounds_toArray, List.set_cons_zero, List.set_cons_succ]
            refine anyE_tk 16 31 (oi := ?oi161) (v := ?v161) ?hi161 ?hd161 (by kernel_rfl) (by kernel_rfl) (by kernel_rfl) ?hQ161 ?hy161 hS ?rest161
            case hi161 => simp only [List.getElem?_toArray, List.getElem?_cons_zero, List.getElem?_cons_succ]; rfl
            case hd161 => rfl
            case hQ161 => exact fun _ _ _ h => h
            case hy161 => (refine Or.inl ⟨by rfl, ?_⟩; intro w hSw; (try dsimp only at hSw); go_simp; try with_reducible rfl)
            simp only [List.setIfInBounds_toArray, List.set_cons_zero, List.set_cons_succ]
            refine anyE_tk 17 32 (oi := ?oi162) (v := ?v162) ?hi162 ?hd162 (by kernel_rfl) (by kernel_rfl) (by kernel_rfl) ?hQ162 ?hy162 hS ?rest162
            case hi162 => simp only [List.getElem?_toArray, List.getElem?_cons_zero, List.getElem?_cons_succ]; rfl
            case hd162 => rfl
            case hQ162 => exact fun _ _ _ h => h
            case hy162 => (refine Or.inl ⟨by rfl, ?_⟩; intro w hSw; (try dsimp only at hSw); go_simp; try with_reducible rfl)
            simp only [List.setIfInBounds_toArray, List.set_cons_zero, List.set_cons_succ]
            refine anyE_tk 18 33 (oi := ?oi163) (v := undef) ?hi163 ?hd163 (by kernel_rfl) (by kernel_rfl) (by kernel_rfl) ?hQ163 ?hy163 hS ?rest163
            case hi163 => simp only [List.getElem?_toArray, List.getElem?_cons_zero, List.getElem?_cons_succ]; rfl
            case hd163 => rfl
            case hQ163 => exact fun _ _ _ h => h
            case hy163 => exact Or.inr ⟨by rfl, rfl⟩
            simp only [List.setIfInBounds_toArray, List.set_cons_zero, List.set_cons_succ]
            refine anyE_tk 19 34 (oi := ?oi164) (v := undef) ?hi164 ?hd164 (by kernel_rfl) (by kernel_rfl) (by kernel_rfl) ?hQ164 ?hy164 hS ?rest164
            case hi164 => simp only [List.getElem?_toArray, List.getElem?_cons_zero, List.getElem?_cons_succ]; rfl
            case hd164 => rfl
            case hQ164 => exact fun _ _ _ h => h
            case hy164 => exact Or.inr ⟨by rfl, rfl⟩
            simp only [List.setIfInBounds_toArray, List.set_cons_zero, List.set_cons_succ]
            refine anyE_tk 20 35 (oi := ?oi165) (v := undef) ?hi165 ?hd165 (by kernel_rfl) (by kernel_rfl) (by kernel_rfl) ?hQ165 ?hy165 hS ?rest165
            case hi165 => simp only [List.getElem?_toArray, List.getElem?_cons_zero, List.getElem?_cons_succ]; rfl
            case hd165 => rfl
            case hQ165 => exact fun _ _ _ h => h
            case hy165 => exact Or.inr ⟨by rfl, rfl⟩
            simp only [List.setIfInBounds_toArray, List.set_cons_zero, List.set_cons_succ]
            refine anyE_tk 21 36 (oi := ?oi166) (v := undef) ?hi166 ?hd166 (by kernel_rfl) (by kernel_rfl) (by kernel_rfl) ?hQ166 ?hy166 hS ?rest166
            case hi166 => simp only [List.getElem?_toArray, List.getElem?_cons_zero, List.getElem?_cons_succ]; rfl
            case hd166 => rfl
            case hQ166 => exact fun _ _ _ h => h
            case hy166 => exact Or.inr ⟨by rfl, rfl⟩
            simp only [List.setIfInBounds_toArray, List.set_cons_zero, List.set_cons_succ]
            refine anyE_tk 22 37 (oi := ?oi167) (v := undef) ?hi167 ?hd167 (by kernel_rfl) (by kernel_rfl) (by kernel_rfl) ?hQ167 ?hy167 hS ?rest167
            case hi167 => simp only [List.getElem?_toArray, List.getElem?_cons_zero, List.getElem?_cons_succ]; rfl
            case hd167 => rfl
            case hQ167 => exact fun _ _ _ h => h
            case hy167 => exact Or.inr ⟨by rfl, rfl⟩
            simp only [List.setIfInBounds_toArray, List.set_cons_zero, List.set_cons_succ]
            refine anyE_tk 23 38 (oi := ?oi168) (v := undef) ?hi168 ?hd168 (by kernel_rfl) (by kernel_rfl) (by kernel_rfl) ?hQ168 ?hy168 hS ?rest168
            case hi168 => simp only [List.getElem?_toArray, List.getElem?_cons_zero, List.getElem?_cons_succ]; rfl
            case hd168 => rfl
            case hQ168 => exact fun _ _ _ h => h
            case hy168 => exact Or.inr ⟨by rfl, rfl⟩
            simp only [List.setIfInBounds_toArray, List.set_cons_zero, List.set_cons_succ]
            refine anyE_tk 24 39 (oi := ?oi169) (v := ?v169) ?hi169 ?hd169 (by kernel_rfl) (by kernel_rfl) (by kernel_rfl) ?hQ169 ?hy169 hS ?rest169
            case hi169 => simp only [List.getElem?_toArray, List.getElem?_cons_zero, List.getElem?_cons_succ]; rfl
            case hd169 => rfl
            case hQ169 => exact fun _ _ _ h => h
            case hy169 => (refine Or.inl ⟨by rfl, ?_⟩; intro w hSw; (try dsimp only at hSw); go_simp; try with_reducible rfl)
            simp only [List.setIfInBounds_toArray, List.set_cons_zero, List.set_cons_succ]
            refine anyE_tk 25 40 (oi := ?oi170) (v := ?v170) ?hi170 ?hd170 (by kernel_rfl) (by kernel_rfl) (by kernel_rfl) ?hQ170 ?hy170 hS ?rest170
            case hi170 => simp only [List.getElem?_toArray, List.getElem?_cons_zero, List.getElem?_cons_succ]; rfl
            case hd170 => rfl
            case hQ170 => exact fun _ _ _ h => h
            case hy170 => (refine Or.inl ⟨by rfl, ?_⟩; intro w hSw; (try dsimp only at hSw); go_simp; try with_reducible rfl)
            simp only [List.setIfInBounds_toArray, List.set_cons_zero, List.set_cons_succ]
            refine anyE_tk 26 41 (oi := ?oi171) (v := undef) ?hi171 ?hd171 (by kernel_rfl) (by kernel_rfl) (by kernel_rfl) ?hQ171 ?hy171 hS ?rest171
            case hi171 => simp only [List.getElem?_toArray, List.getElem?_cons_zero, List.getElem?_cons_succ]; rfl
            case hd171 => rfl
            case hQ171 => exact fun _ _ _ h => h
            case hy171 => exact Or.inr ⟨by rfl, rfl⟩
            simp only [List.setIfInBounds_toArray, List.set_cons_zero, List.set_cons_succ]
            refine anyE_tk 27 42 (oi := ?oi172) (v := undef) ?hi172 ?hd172 (by kernel_rfl) (by kernel_rfl) (by kernel_rfl) ?hQ172 ?hy172 hS ?rest172
            case hi172 => simp only [List.getElem?_toArray, List.getElem?_cons_zero, List.getElem?_cons_succ]; rfl
            case hd172 => rfl
            case hQ172 => exact fun _ _ _ h => h
            case hy172 => exact Or.inr ⟨by rfl, rfl⟩
            simp only [List.setIfInBounds_toArray, List.set_cons_zero, List.set_cons_succ]
            refine anyE_tk 28 43 (oi := ?oi173) (v := undef) ?hi173 ?hd173 (by kernel_rfl) (by kernel_rfl) (by kernel_rfl) ?hQ173 ?hy173 hS ?rest173
            case hi173 => simp only [List.getElem?_toArray, List.getElem?_cons_zero, List.getElem?_cons_succ]; rfl
            case hd173 => rfl
            case hQ173 => exact fun _ _ _ h => h
            case hy173 => exact Or.inr ⟨by rfl, rfl⟩
            simp only [List.setIfInBounds_toArray, List.set_cons_zero, List.set_cons_succ]
            refine anyE_tk 29 44 (oi := ?oi174) (v := undef) ?hi174 ?hd174 (by kernel_rfl) (by kernel_rfl) (by kernel_rfl) ?hQ174 ?hy174 hS ?rest174
            case hi174 => simp only [List.getElem?_toArray, List.getElem?_cons_zero, List.getElem?_cons_succ]; rfl
            case hd174 => rfl
            case hQ174 => exact fun _ _ _ h => h
            case hy174 => exact Or.inr ⟨by rfl, rfl⟩
            simp only [List.setIfInBounds_toArray, List.set_cons_zero, List.set_cons_succ]
            refine anyE_tk 30 45 (oi := ?oi175) (v := undef) ?hi175 ?hd175 (by kernel_rfl) (by kernel_rfl) (by kernel_rfl) ?hQ175 ?hy175 hS ?rest175
            case hi175 => simp only [List.getElem?_toArray, List.getElem?_cons_zero, List.getElem?_cons_succ]; rfl
            case hd175 => rfl
            case hQ175 => exact fun _ _ _ h => h
            case hy175 => exact Or.inr ⟨by rfl, rfl⟩
            simp only [List.setIfInBounds_toArray, List.set_cons_zero, List.set_cons_succ]
            refine anyE_tk 31 46 (oi := ?oi176) (v := undef) ?hi176 ?hd176 (by kernel_rfl) (by kernel_rfl) (by kernel_rfl) ?hQ176 ?hy176 hS ?rest176
            case hi176 => simp only [List.getElem?_toArray, List.getElem?_cons_zero, List.getElem?_cons_succ]; rfl
            case hd176 => rfl
            case hQ176 => exact fun _ _ _ h => h
            case hy176 => exact Or.inr ⟨by rfl, rfl⟩
            simp only [List.setIfInBounds_toArray, List.set_cons_zero, List.set_cons_succ]
            refine anyE_tk 32 47 (oi := ?oi177) (v := undef) ?hi177 ?hd177 (by kernel_rfl) (by kernel_rfl) (by kernel_rfl) ?hQ177 ?hy177 hS ?rest177
            case hi177 => simp only [List.getElem?_toArray, List.getElem?_cons_zero, List.getElem?_cons_succ]; rfl
            case hd177 => rfl
            case hQ177 => exact fun _ _ _ h => h
            case hy177 => exact Or.inr ⟨by rfl, rfl⟩
            simp only [List.setIfInBounds_toArray, List.set_cons_zero, List.set_cons_succ]
            refine anyE_tk 33 48 (oi := ?oi178) (v := undef) ?hi178 ?hd178 (by kernel_rfl) (by kernel_rfl) (by kernel_rfl) ?hQ178 ?hy178 hS ?rest178
            case hi178 => simp only [List.getElem?_toArray, List.getElem?_cons_zero, List.getElem?_cons_succ]; rfl
            case hd178 => rfl
            case hQ178 => exact fun _ _ _ h => h
            case hy178 => exact Or.inr ⟨by rfl, rfl⟩
            simp only [List.setIfInBounds_toArray, List.set_cons_zero, List.set_cons_succ]
            refine anyE_tk 34 49 (oi := ?oi179) (v := undef) ?hi179 ?hd179 (by kernel_rfl) (by kernel_rfl) (by kernel_rfl) ?hQ179 ?hy179 hS ?rest179
            case hi179 => simp only [List.getElem?_toArray, List.getElem?_cons_zero, List.getElem?_cons_succ]; rfl
            case hd179 => rfl
            case hQ179 => exact fun _ _ _ h => h
            case hy179 => exact Or.inr ⟨by rfl, rfl⟩
            simp only [List.setIfInBounds_toArray, List.set_cons_zero, List.set_cons_succ]
            refine anyE_tk 35 50 (oi := ?oi180) (v := ?v180) ?hi180 ?hd180 (by kernel_rfl) (by kernel_rfl) (by kernel_rfl) ?hQ180 ?hy180 hS ?rest180
            case hi180 => simp only [List.getElem?_toArray, List.getElem?_cons_zero, List.getElem?_cons_succ]; rfl
            case hd180 => rfl
            case hQ180 => exact fun _ _ _ h => h
            case hy180 => (refine Or.inl ⟨by rfl, ?_⟩; intro w hSw; (try dsimp only at hSw); go_simp; try with_reducible rfl)
            simp only [List.setIfInBounds_toArray, List.set_cons_zero, List.set_cons_succ]
            clear hS
            refine anyE_done (by kernel_rfl) ?_ _
            go_wp2_with fail
            go_ret
            exact ⟨by rw [HR.out]; rfl, Hw.out.trans (Hb2.out.mono Hw.out.size)⟩
      · obtain rfl : i = ss.length := by omega
        have HR := Lib.hid (Hg.out fun s hs => HO.out s (by rw [List.take_of_length_le (Nat.le_refl _)]; exact hs))
        have Hb1 := Lib.hid hb
        clear hb HO Hbd Hg
        go_wp2_with fail
        go_ret
        exact ⟨by rw [HR.out]; rfl, Hw.out.trans (Hb1.out.mono Hw.out.size)⟩
  · have hd : decide ((8 : Int) < (ss.length : Int)) = true := by simp; omega
    have HR := Lib.hid (sw_long (n := n) h8)
    have hw0 := Lib.hid (show Below w.heap.size w (w.alloc (.cells #[.int .i64 b.p, .slice AI n cI, .slice AR b.rus.length cR] 25)) from balloc (Below.refl _ _) _)
    clear h8 hT hB
    go_enter Tryd.func96, Tryd.ntmps96
    go_wp2_with fail
    go_ret
    exact ⟨by rw [HR.out]; rfl, hw0.out⟩
end Go.Proofs.YtgoojcjfhghmgaaDoor


set_option linter.unusedSimpArgs false
namespace Go.Proofs.YtgoojcjfhghmgaaDoor
open Go.RowKit

set_option maxRecDepth 100000 in
set_option maxHeartbeats 4000000 in
theorem Copy_apart (AI AR : Option Addr) (cI cR B : Nat) (b : Bk) (w : World) (hB : B ≤ w.heap.size) (h : ItsAt B w AI b.its) (h' : RusAt B w AR b.rus) (hs : Short b) :
    Calls Tryd.prog 19 #[.agg #[.int .i64 b.p, .slice AI b.its.length cI, .slice AR b.rus.length cR]] w fun e w' => ∃ AI' AR' cI' cR' ps lo, e = .returned (.agg #[.int .i64 b.p, .slice AI' b.its.length cI', .slice AR' b.rus.length cR']) ∧ w.heap.size < lo ∧ ItC lo (.slice AI' b.its.length cI') w' ps b.its b.its.length ∧ RusN (fun x => w.heap.size < x ∧ x < lo) w' AR' b.rus ∧ Below w.heap.size w w' := by
  obtain ⟨j0, hj, hy0, hy1, hy2⟩ := info_parts info84
  obtain ⟨W0, hW0⟩ : ∃ W0, W0 = (w.alloc (.cells #[.int .i64 b.p, .slice AI b.its.length cI, .slice AR b.rus.length cR] 25)).alloc (.cells #[.int .i64 0, .slice none 0 0, .slice none 0 0] 25) := ⟨_, rfl⟩
  have hw0 : Below w.heap.size w W0 := by rw [hW0]; exact balloc (balloc (Below.refl _ _) _) _
  have hb0 : Blk W0 w.heap.size 25 #[.int .i64 b.p, .slice AI b.its.length cI, .slice AR b.rus.length cR] := by rw [hW0]; exact (Blk.new w 25 _).alloc _
  have hb1 : Blk W0 (w.heap.size + 1) 25 #[.int .i64 0, .slice none 0 0, .slice none 0 0] := by rw [hW0]; exact blk_new' (by simp only [World.size_alloc])
  have hsz : W0.heap.size = w.heap.size + 1 + 1 := by rw [hW0]; simp only [World.size_alloc]
  have hlt : w.heap.size < W0.heap.size := hb0.lt
  have hR := (h'.below (Below.refl _ _) hB).below hw0 (Nat.le_of_lt hlt)
  have H := Lib.hid (h.below (Below.refl _ _) hB)
  have c57 := Lib.hid (fun W (hW : Below W0.heap.size W0 W) => CopyRules_own AR cR W0.heap.size b.rus W hW.size (hR.below hW (Nat.le_refl _)) hs.2.1 hs.2.2.2)
  have HB0 := Lib.hid hb0
  have HB1 := Lib.hid hb1
  have Hw := Lib.hid hw0
  have Hs3 := Lib.hid hs.2.2.1
  have ni := hs.1
  clear h h' hs hR hb0 hb1 hw0 hB hsz
  have tok := Lib.hid (Nat.le_refl 0)
  go_enter Tryd.func19, Tryd.ntmps19
  go_wp2_with fail
  rw [← hW0]
  clear hW0
  have z0 := HB0.out.cell 0
  have z1 := HB0.out.cell 1
  have z2 := HB0.out.cell 2
  have za := fun (V : World) (o : Obj) (i : Nat) (hV : w.heap.size < V.heap.size) => (show (V.alloc o).cell? ⟨w.heap.size, i, none⟩ = V.cell? ⟨w.heap.size, i, none⟩ from (Below.alloc (Below.refl V.heap.size V) (Nat.le_refl _) o).cell (p := ⟨w.heap.size, i, none⟩) hV)
  have a1 := fun (V : World) (i : Nat) => cell_newN (V := V) (n := V.heap.size) (i := i) (cs := #[.int .i64 0, .slice none 0 0, .slice none 0 0]) (t := 25) rfl
  have a2 := fun (V : World) (i : Nat) => show (V.alloc (.cells #[.int .i64 0, .slice none 0 0, .slice none 0 0] 25)).drew.cell? ⟨V.heap.size, i, none⟩ = #[Value.int .i64 0, .slice none 0 0, .slice none 0 0][i]? from a1 V i
  have a3 := fun (V : World) (i : Nat) => cell_newN (V := V.drew) (n := V.heap.size) (i := i) (cs := #[.int .i64 0, .slice none 0 0, .slice none 0 0]) (t := 25) rfl
  have a4 := fun (V : World) (i : Nat) => show (V.drew.alloc (.cells #[.int .i64 0, .slice none 0 0, .slice none 0 0] 25)).drew.cell? ⟨V.heap.size, i, none⟩ = #[Value.int .i64 0, .slice none 0 0, .slice none 0 0][i]? from a3 V i
  have g1 := fun (V : World) (i : Nat) => frozen_newN (V := V) (n := V.heap.size) (i := i) (cs := #[.int .i64 0, .slice none 0 0, .slice none 0 0]) (t := 25) rfl
  have g2 := fun (V : World) (i : Nat) => show (V.alloc (.cells #[.int .i64 0, .slice none 0 0, .slice none 0 0] 25)).drew.frozen? ⟨V.heap.size, i, none⟩ = false from g1 V i
  have g3 := fun (V : World) (i : Nat) => frozen_newN (V := V.drew) (n := V.heap.size) (i := i) (cs := #[.int .i64 0, .slice none 0 0, .slice none 0 0]) (t := 25) rfl
  have g4 := fun (V : World) (i : Nat) => show (V.drew.alloc (.cells #[.int .i64 0, .slice none 0 0, .slice none 0 0] 25)).drew.frozen? ⟨V.heap.size, i, none⟩ = false from g3 V i
  have HBB := Lib.hid (fun W (hW : Below W0.heap.size W0 W) => blk3 (HB0.out.below hW hlt))
  have hlt1 := Lib.hid HB1.out.lt
  go_cut [3] (fun s3 wx => ∃ G A5 c5, s3 = .pointer (some ⟨G, 0, none⟩) ∧ Aside (Cut2 (w.heap.size + 1) G b A5 c5 wx) ∧ Below W0.heap.size W0 wx)
  case first =>
    go_region_with (first
      | (go_at_call 57; have tk := tok; clear tok; refine (c57.out _ (by repeat (first | exact Below.refl _ _ | assumption | refine Below.drew ?_ | refine balloc ?_ _))).mono ?_; rintro e w5 ⟨A5, c5, rfl, hr5, hd5⟩; have tok2 := tk; have q0 := below_if hd5 W0.heap.size 0; have q1 := below_if hd5 W0.heap.size 1; have q2 := below_if hd5 W0.heap.size 2; have f0 := below_iff hd5 W0.heap.size 0; have f1 := below_iff hd5 W0.heap.size 1; have f2 := below_iff hd5 W0.heap.size 2; (try simp [World.size_alloc, World.size_drew, cell_newN, frozen_newN] at q0 q1 q2 f0 f1 f2); have hb5 : Below W0.heap.size W0 w5 := Below.trans (by repeat (first | exact Below.refl _ _ | assumption | refine Below.drew ?_ | refine balloc ?_ _)) (hd5.mono (Below.size (w := W0) (B := W0.heap.size) (by repeat (first | exact Below.refl _ _ | assumption | refine Below.drew ?_ | refine balloc ?_ _)))); have hl5 := Nat.lt_of_lt_of_le hlt hb5.size; clear z0 z1 z2; obtain ⟨z0, z1, z2, _⟩ := HBB.out _ hb5))
    all_goals
      have hx5 := Lib.hid hb5
      go_wp2_with fail
      go_meet
      first
        | exact ⟨w5.heap.size, A5, c5, rfl, cutA2 hr5 hlt1.out hx5.out.size, balloc hx5.out _⟩
        | exact ⟨W0.heap.size, A5, c5, rfl, cutB2 hd5 (Blk.new W0 25 _) hr5 hlt1.out, below_put' (below_put' (below_put' hx5.out (Nat.le_refl _) _ _) (Nat.le_refl _) _ _) (Nat.le_refl _) _ _⟩
  case rest =>
    obtain ⟨G, A5, c5, rfl, hc1, hbc⟩ := hcut
    obtain ⟨hG, hbG, hRN⟩ := hc1.out
    have HRN := Lib.hid hRN
    have HbG := Lib.hid hbG
    have Hbc := Lib.hid hbc
    have hGc : G < wc.heap.size := hbG.lt
    have HC := Lib.hid (HB0.out.below hbc hlt)
    clear hc1 hRN hbG hbc z0 z1 z2 za a1 a2 a3 a4 g1 g2 g3 g4 HBB c57 tok
    go_wp2_with fail
    go_loopw [4] (fun s4 wr => ∃ (k : Nat) (AIx : Option Addr) (cIx : Nat) (ps : List (Value × Value)), k ≤ b.its.length ∧ s4 = .int .i64 k ∧ Aside (ItC wc.heap.size (.slice AIx k cIx) wr ps b.its k) ∧ Aside (Only G wc wr) ∧ Aside (Blk wr G 25 #[.int .i64 b.p, .slice AIx k cIx, .slice A5 b.rus.length c5])) (fun s4 _ => b.its.length - (intOf s4).toNat)
    case atStart => exact ⟨0, none, 0, [], Nat.zero_le _, rfl, ⟨rfl, World.ownsRow_nil _ _ _ _, LstN.nil _ _, LstN.nil _ _, LoV.nil _, LoV.nil _⟩, Only.refl _ _, HbG.out⟩
    case round =>
      obtain ⟨k, AIx, cIx, ps, hk, rfl, hit, hon, hbl⟩ := hrel
      have HIt := Lib.hid hit.out
      have HOn := Lib.hid hon.out
      have HBl := Lib.hid hbl.out
      have hnG : w.heap.size < wc.heap.size ∧ w.heap.size ≠ G := ⟨by have := hG; omega, by omega⟩
      have HCr := Lib.hid (And.intro ((hon.out.cell (p := ⟨w.heap.size, 0, none⟩) hnG.1 hnG.2).trans (HC.out.cell 0)) (And.intro ((hon.out.cell (p := ⟨w.heap.size, 1, none⟩) hnG.1 hnG.2).trans (HC.out.cell 1)) ((hon.out.cell (p := ⟨w.heap.size, 2, none⟩) hnG.1 hnG.2).trans (HC.out.cell 2))))
      have hlow : Below w.heap.size w wr := (Hw.out.trans (Hbc.out.mono Hw.out.size)).trans (hon.out.below (by omega) (by omega))
      have hGr : G < wr.heap.size := hbl.out.lt
      have HNE := Lib.hid (own_ne hit.out.2.1 hGc)
      have hcr : wc.heap.size ≤ wr.heap.size := hon.out.size
      clear hit hon hbl
      by_cases hlt2 : k < b.its.length
      · obtain ⟨bb, off, A1, c1, A2, c2, rfl, hbB, e0, e1, i1, i2⟩ := H.out k hlt2
        obtain ⟨m1, m2⟩ := Hs3.out b.its[k] (List.getElem_mem hlt2)
        obtain ⟨x0, x1, x2⟩ := HCr.out
        obtain ⟨y0, y1, y2, f0, f1, f2⟩ := blk3 HBl.out
        have CellF := Lib.hid (fun W (hW : Below wr.heap.size wr W) => show W.cell? ⟨w.heap.size, 1, none⟩ = some (.slice (some ⟨bb, off, none⟩) b.its.length cI) ∧ W.cell? ⟨bb, off + k * 2, none⟩ = some (.slice A1 b.its[k].1.length c1) ∧ W.cell? ⟨bb, off + k * 2 + 1, none⟩ = some (.slice A2 b.its[k].2.length c2) ∧ W.cell? ⟨G, 1, none⟩ = some (.slice AIx k cIx) ∧ W.frozen? ⟨G, 1, none⟩ = false from
          ⟨(hW.cell (p := ⟨w.heap.size, 1, none⟩) (show w.heap.size < wr.heap.size by have := hnG.1; omega)).trans x1, (hW.cell (p := ⟨bb, off + k * 2, none⟩) (Nat.lt_of_lt_of_le hbB hlow.size)).trans ((hlow.cell (p := ⟨bb, off + k * 2, none⟩) hbB).trans e0), (hW.cell (p := ⟨bb, off + k * 2 + 1, none⟩) (Nat.lt_of_lt_of_le hbB hlow.size)).trans ((hlow.cell (p := ⟨bb, off + k * 2 + 1, none⟩) hbB).trans e1), (hW.cell (p := ⟨G, 1, none⟩) hGr).trans y1, (hW.frozen (p := ⟨G, 1, none⟩) hGr).trans f1⟩)
        have cc1 := Lib.hid (fun W (hW : Below wr.heap.size wr W) => CopyInts_ref A1 c1 w.heap.size b.its[k].1 W (Nat.le_trans hlow.size hW.size) (i1.below (hlow.trans (hW.mono hlow.size)) (Nat.le_refl _)) (by omega))
        have cc2 := Lib.hid (fun W (hW : Below wr.heap.size wr W) => CopyInts_ref A2 c2 w.heap.size b.its[k].2 W (Nat.le_trans hlow.size hW.size) (i2.below (hlow.trans (hW.mono hlow.size)) (Nat.le_refl _)) (by omega))
        have HSn := Lib.hid (fun n1 n2 c6 c7 W w8 A6 A7 A8 c8 (hn1 : n1 = b.its[k].1.length) (hn2 : n2 = b.its[k].2.length) hW => ItC.snoc (n1 := n1) (n2 := n2) (c6 := c6) (c7 := c7) (W := W) (w8 := w8) (A6 := A6) (A7 := A7) (A8 := A8) (c8 := c8) HIt.out hlt2 hn1 hn2 hW hcr)
        obtain ⟨n1, hn1⟩ : ∃ n1, n1 = b.its[k].1.length := ⟨_, rfl⟩
        obtain ⟨n2, hn2⟩ : ∃ n2, n2 = b.its[k].2.length := ⟨_, rfl⟩
        rw [← hn1] at cc1 CellF
        rw [← hn2] at cc2 CellF
        have Hn1 := Lib.hid hn1
        have Hn2 := Lib.hid hn2
        have k0 : (0 : Int) ≤ (k : Int) := by omega
        have k1 : (k : Int) < (b.its.length : Int) := by omega
        generalize b.its[k].1.map (Value.int .i64) = o1 at cc1 HSn
        generalize b.its[k].2.map (Value.int .i64) = o2 at cc2 HSn
        clear e0 e1 i1 i2 m1 m2 x0 x1 x2 y0 y1 y2 f0 f1 f2 hn1 hn2 H Hs3
        have Keep := Lib.hid (fun W (hW : Below (w.heap.size + 1) wr W) (hg : W.cell? ⟨G, 1, none⟩ = some (.slice AIx k cIx)) => show W.cell? ⟨w.heap.size, 1, none⟩ = some (.slice (some ⟨bb, off, none⟩) b.its.length cI) ∧ W.cell? ⟨bb, off + k * 2, none⟩ = some (.slice A1 n1 c1) ∧ W.cell? ⟨bb, off + k * 2 + 1, none⟩ = some (.slice A2 n2 c2) ∧ W.cell? ⟨G, 1, none⟩ = some (.slice AIx k cIx) ∧ Below (w.heap.size + 1) wr W from by
          obtain ⟨z1, z2, z3, _, _⟩ := CellF.out wr (Below.refl _ _)
          exact ⟨(hW.cell (p := ⟨w.heap.size, 1, none⟩) (Nat.lt_succ_self _)).trans z1, (hW.cell (p := ⟨bb, off + k * 2, none⟩) (Nat.lt_succ_of_lt hbB)).trans z2, (hW.cell (p := ⟨bb, off + k * 2 + 1, none⟩) (Nat.lt_succ_of_lt hbB)).trans z3, hg, hW⟩)
        have hle : w.heap.size + 1 ≤ wr.heap.size := by have := hnG.1; omega
        have hle2 : w.heap.size + 1 ≤ wc.heap.size := by have := hnG.1; omega
        have tok := Lib.hid (Nat.le_refl 0)
        have z1 := (CellF.out wr (Below.refl _ _)).1
        go_wp2_with fail
        clear z1
        have hS0 := Keep.out wr.drew (Below.mono (Below.refl wr.heap.size wr) hle).drew (CellF.out wr (Below.refl _ _)).2.2.2.1
        refine wp_region_E (S := fun W => W.cell? ⟨w.heap.size, 1, none⟩ = some (.slice (some ⟨bb, off, none⟩) b.its.length cI) ∧ W.cell? ⟨bb, off + k * 2, none⟩ = some (.slice A1 n1 c1) ∧ W.cell? ⟨bb, off + k * 2 + 1, none⟩ = some (.slice A2 n2 c2) ∧ W.cell? ⟨G, 1, none⟩ = some (.slice AIx k cIx) ∧ Below (w.heap.size + 1) wr W) (E := fun j => [20].contains j) (by kernel_rfl) ?_
        refine anyE_take [1, 18, 20] (i := 0) (v := ?_) rfl (by kernel_rfl) (by kernel_rfl) (by kernel_rfl) (by kernel_rfl) (fun _ _ _ h => h) (Or.inl ⟨by rfl, ?_⟩) hS0 ?_
        rotate_left
        · (intro w hSw; (try dsimp only at hSw); go_simp; try with_reducible rfl)
        try simp only [Act.put, List.setIfInBounds_toArray, List.set_cons_zero, List.set_cons_succ]
        refine anyE_take [18, 20] (i := 1) (v := ?_) rfl (by kernel_rfl) (by kernel_rfl) (by kernel_rfl) (by kernel_rfl) (fun _ _ _ h => h) (Or.inl ⟨by rfl, ?_⟩) hS0 ?_
        rotate_left
        · (intro w hSw; (try dsimp only at hSw); go_simp; try with_reducible rfl)
        try simp only [Act.put, List.setIfInBounds_toArray, List.set_cons_zero, List.set_cons_succ]
        refine anyE_take [3, 5, 6, 7, 8, 16, 17, 18, 20] (i := 2) (v := ?_) rfl (by kernel_rfl) (by kernel_rfl) (by kernel_rfl) (by kernel_rfl) (fun _ _ _ h => h) (Or.inl ⟨by rfl, ?_⟩) hS0 ?_
        rotate_left
        · (intro w hSw; (try dsimp only at hSw); go_simp; try with_reducible rfl)
        try simp only [Act.put, List.setIfInBounds_toArray, List.set_cons_zero, List.set_cons_succ]
        refine anyE_take [5, 6, 7, 8, 16, 17, 18, 20] (i := 3) (v := ?_) rfl (by kernel_rfl) (by kernel_rfl) (by kernel_rfl) (by kernel_rfl) (fun _ _ _ h => h) (Or.inl ⟨by rfl, ?_⟩) hS0 ?_
        rotate_left
        · (intro w hSw; (try dsimp only at hSw); go_simp; try with_reducible rfl)
        try simp only [Act.put, List.setIfInBounds_toArray, List.set_cons_zero, List.set_cons_succ]
        refine anyE_take [5, 6, 7, 8, 16, 17, 18, 20] (i := 4) (v := ?_) rfl (by kernel_rfl) (by kernel_rfl) (by kernel_rfl) (by kernel_rfl) (fun _ _ _ h => h) (Or.inl ⟨by rfl, ?_⟩) hS0 ?_
        rotate_left
        · (intro w hSw; (try dsimp only at hSw); go_simp; try with_reducible rfl)
        try simp only [Act.put, List.setIfInBounds_toArray, List.set_cons_zero, List.set_cons_succ]
        refine anyE_take [6, 7, 8, 16, 17, 18, 20] (i := 5) (v := ?_) rfl (by kernel_rfl) (by kernel_rfl) (by kernel_rfl) (by kernel_rfl) (fun _ _ _ h => h) (Or.inl ⟨by rfl, ?_⟩) hS0 ?_
        rotate_left
        · (intro w hSw; (try dsimp only at hSw); go_simp; try with_reducible rfl)
        try simp only [Act.put, List.setIfInBounds_toArray, List.set_cons_zero, List.set_cons_succ]
        refine anyE_take [7, 8, 16, 17, 18, 20] (i := 6) (v := ?_) rfl (by kernel_rfl) (by kernel_rfl) (by kernel_rfl) (by kernel_rfl) (fun _ _ _ h => h) (Or.inl ⟨by rfl, ?_⟩) hS0 ?_
        rotate_left
        · (intro w hSw; (try dsimp only at hSw); go_simp; try with_reducible rfl)
        try simp only [Act.put, List.setIfInBounds_toArray, List.set_cons_zero, List.set_cons_succ]
        refine anyE_take [8, 16, 17, 18, 20] (i := 7) (v := ?_) rfl (by kernel_rfl) (by kernel_rfl) (by kernel_rfl) (by kernel_rfl) (fun _ _ _ h => h) (Or.inl ⟨by rfl, ?_⟩) hS0 ?_
        rotate_left
        · (intro w hSw; (try dsimp only at hSw); go_simp; try with_reducible rfl)
        try simp only [Act.put, List.setIfInBounds_toArray, List.set_cons_zero, List.set_cons_succ]
        refine anyE_take [10, 12, 13, 14, 15, 16, 17, 18, 20] (i := 9) (v := ?_) rfl (by kernel_rfl) (by kernel_rfl) (by kernel_rfl) (by kernel_rfl) (fun _ _ _ h => h) (Or.inl ⟨by rfl, ?_⟩) hS0 ?_
        rotate_left
        · (intro w hSw; (try dsimp only at hSw); go_simp; try with_reducible rfl)
        try simp only [Act.put, List.setIfInBounds_toArray, List.set_cons_zero, List.set_cons_succ]
        refine anyE_take [12, 13, 14, 15, 16, 17, 18, 20] (i := 10) (v := ?_) rfl (by kernel_rfl) (by kernel_rfl) (by kernel_rfl) (by kernel_rfl) (fun _ _ _ h => h) (Or.inl ⟨by rfl, ?_⟩) hS0 ?_
        rotate_left
        · (intro w hSw; (try dsimp only at hSw); go_simp; try with_reducible rfl)
        try simp only [Act.put, List.setIfInBounds_toArray, List.set_cons_zero, List.set_cons_succ]
        refine anyE_take [12, 13, 14, 15, 16, 17, 18, 20] (i := 11) (v := ?_) rfl (by kernel_rfl) (by kernel_rfl) (by kernel_rfl) (by kernel_rfl) (fun _ _ _ h => h) (Or.inl ⟨by rfl, ?_⟩) hS0 ?_
        rotate_left
        · (intro w hSw; (try dsimp only at hSw); go_simp; try with_reducible rfl)
        try simp only [Act.put, List.setIfInBounds_toArray, List.set_cons_zero, List.set_cons_succ]
        refine anyE_take [13, 14, 15, 16, 17, 18, 20] (i := 12) (v := ?_) rfl (by kernel_rfl) (by kernel_rfl) (by kernel_rfl) (by kernel_rfl) (fun _ _ _ h => h) (Or.inl ⟨by rfl, ?_⟩) hS0 ?_
        rotate_left
        · (intro w hSw; (try dsimp only at hSw); go_simp; try with_reducible rfl)
        try simp only [Act.put, List.setIfInBounds_toArray, List.set_cons_zero, List.set_cons_succ]
        refine anyE_take [14, 15, 16, 17, 18, 20] (i := 13) (v := ?_) rfl (by kernel_rfl) (by kernel_rfl) (by kernel_rfl) (by kernel_rfl) (fun _ _ _ h => h) (Or.inl ⟨by rfl, ?_⟩) hS0 ?_
        rotate_left
        · (intro w hSw; (try dsimp only at hSw); go_simp; try with_reducible rfl)
        try simp only [Act.put, List.setIfInBounds_toArray, List.set_cons_zero, List.set_cons_succ]
        refine anyE_take [15, 16, 17, 18, 20] (i := 14) (v := ?_) rfl (by kernel_rfl) (by kernel_rfl) (by kernel_rfl) (by kernel_rfl) (fun _ _ _ h => h) (Or.inl ⟨by rfl, ?_⟩) hS0 ?_
        rotate_left
        · (intro w hSw; (try dsimp only at hSw); go_simp; try with_reducible rfl)
        try simp only [Act.put, List.setIfInBounds_toArray, List.set_cons_zero, List.set_cons_succ]
        refine anyE_one (i := 8) (by kernel_rfl) rfl (fun K hK => ?_)
        go_simp
        refine (cc1.out _ (by repeat (first | exact Below.refl _ _ | assumption | refine Below.drew ?_ | refine balloc ?_ _))).mono ?_
        rintro e w5 ⟨A6, c6, rfl, hown6, hd6⟩
        have hb6 : Below wr.heap.size wr w5 := Below.trans (by repeat (first | exact Below.refl _ _ | assumption | refine Below.drew ?_ | refine balloc ?_ _)) (hd6.mono (Below.size (w := wr) (B := wr.heap.size) (by repeat (first | exact Below.refl _ _ | assumption | refine Below.drew ?_ | refine balloc ?_ _))))
        have ho6 := own_base hown6 (Below.size (w := wr) (B := wr.heap.size) (by repeat (first | exact Below.refl _ _ | assumption | refine Below.drew ?_ | refine balloc ?_ _)))
        clear hown6
        go_wp2_with fail
        refine hK.out _ _ (fun _ => Keep.out _ (Below.mono hb6 hle) (CellF.out _ hb6).2.2.2.1) ?_
        clear hK K
        try simp only [Act.put, List.setIfInBounds_toArray, List.set_cons_zero, List.set_cons_succ]
        refine anyE_one (i := 15) (by kernel_rfl) rfl (fun K hK => ?_)
        go_simp
        refine (cc2.out _ (by repeat (first | exact Below.refl _ _ | assumption | refine Below.drew ?_ | refine balloc ?_ _))).mono ?_
        rintro e w6 ⟨A7, c7, rfl, hown7, hd7⟩
        have hb7 : Below wr.heap.size wr w6 := Below.trans (by repeat (first | exact Below.refl _ _ | assumption | refine Below.drew ?_ | refine balloc ?_ _)) (hd7.mono (Below.size (w := wr) (B := wr.heap.size) (by repeat (first | exact Below.refl _ _ | assumption | refine Below.drew ?_ | refine balloc ?_ _))))
        have ho7 := own_base hown7 (Below.size (w := wr) (B := wr.heap.size) (by repeat (first | exact Below.refl _ _ | assumption | refine Below.drew ?_ | refine balloc ?_ _)))
        have ho6b := own_below (by repeat (first | exact ho6 | refine World.ownsRow.drew ?_)) hd7
        clear hown7 ho6
        go_wp2_with fail
        have hS2 := Keep.out _ (Below.mono hb7 hle) (CellF.out _ hb7).2.2.2.1
        refine hK.out _ _ (fun _ => hS2) ?_
        clear hK K
        try simp only [Act.put, List.setIfInBounds_toArray, List.set_cons_zero, List.set_cons_succ]
        refine anyE_take [17, 18, 20] (i := 16) (v := ?_) rfl (by kernel_rfl) (by kernel_rfl) (by kernel_rfl) (by kernel_rfl) (fun _ _ _ h => h) (Or.inl ⟨by rfl, ?_⟩) hS2 ?_
        rotate_left
        · (intro w hSw; (try dsimp only at hSw); go_simp; try with_reducible rfl)
        try simp only [Act.put, List.setIfInBounds_toArray, List.set_cons_zero, List.set_cons_succ]
        refine anyE_one (i := 17) (by kernel_rfl) rfl (fun K hK => ?_)
        go_simp
        refine hK.out _ _ (fun _ => Keep.out _ (Below.mono (by repeat (first | exact Below.refl _ _ | assumption | refine Below.drew ?_ | refine balloc ?_ _)) hle) (CellF.out _ (by repeat (first | exact Below.refl _ _ | assumption | refine Below.drew ?_ | refine balloc ?_ _))).2.2.2.1) ?_
        clear hK K
        try simp only [Act.put, List.setIfInBounds_toArray, List.set_cons_zero, List.set_cons_succ]
        refine anyE_one (i := 18) (by kernel_rfl) rfl (fun K hK => ?_)
        refine step_app2 _ (by rfl) (.tmp 19) (.tmp 35) 22 (by rfl) wc.heap.size 84 j0 _ 2 48 Tryd.underlying22 hj hy0 hy1 hy2 (by rfl) (by decide) (.slice AIx k cIx) k (flatV ps) (by rfl)
          (own_below HIt.out.2.1 (by repeat (first | exact Below.refl _ _ | assumption | refine Below.drew ?_ | refine balloc ?_ _)))
          ⟨_, 0, none⟩ 1 1 [.slice A6 n1 c6, .slice A7 n2 c7] (by rfl) (by rfl)
          (news_blk (t := 84) (cs := #[.slice A6 n1 c6, .slice A7 n2 c7]) (by repeat (first | with_reducible exact blk_new' (by simp) | with_reducible refine Blk.drew ?_ | with_reducible refine Blk.alloc ?_ _)) _ rfl)
          (by simp [Value.oneCell']) (by omega) (by decide) (Nat.le_trans hcr (Below.size (w := wr) (B := wr.heap.size) (by repeat (first | exact Below.refl _ _ | assumption | refine Below.drew ?_ | refine balloc ?_ _)))) (k + 1) (by omega) (flatV (ps ++ [(.slice A6 n1 c6, .slice A7 n2 c7)])) (flatV_snoc _ _ _).symm ?_
        intro A8 c8 w8 hown8 hg8 hlow8 hat8
        have HB8 := Blk.grown (HBl.out.below (by repeat (first | exact Below.refl _ _ | assumption | refine Below.drew ?_ | refine balloc ?_ _)) hGr) hg8 HNE.out
        have q8 := HB8.cell 1
        have q9 := HB8.frozen 1
        have hb8 : Below (w.heap.size + 1) wr w8 := (Below.mono (by repeat (first | exact Below.refl _ _ | assumption | refine Below.drew ?_ | refine balloc ?_ _)) hle).grown hg8 (Nat.le_trans hle (Below.size (w := wr) (B := wr.heap.size) (by repeat (first | exact Below.refl _ _ | assumption | refine Below.drew ?_ | refine balloc ?_ _)))) (fun j hj => Nat.le_trans hle2 (hlow8 j hj))
        have hbw : Below wc.heap.size wr w8 := (Below.mono (by repeat (first | exact Below.refl _ _ | assumption | refine Below.drew ?_ | refine balloc ?_ _)) hcr).grown hg8 (Nat.le_trans hcr (Below.size (w := wr) (B := wr.heap.size) (by repeat (first | exact Below.refl _ _ | assumption | refine Below.drew ?_ | refine balloc ?_ _)))) (fun j hj => hlow8 j hj)
        have hO8 : Only G wc w8 := ⟨hbw.os.trans HOn.out.os, hbw.tape.trans HOn.out.tape, hbw.output.trans HOn.out.output, Nat.le_trans HOn.out.size hbw.size, fun i hi hne => (hbw.block i hi).trans (HOn.out.block i hi hne)⟩
        have hI8 := Lib.hid (HSn.out n1 n2 c6 c7 _ w8 A6 A7 A8 c8 Hn1.out Hn2.out (by repeat (first | exact Below.refl _ _ | assumption | refine Below.drew ?_ | refine balloc ?_ _)) (by repeat (first | exact ho6b | refine World.ownsRow.drew ?_ | refine World.ownsRow.alloc ?_ _)) (by repeat (first | exact ho7 | refine World.ownsRow.drew ?_ | refine World.ownsRow.alloc ?_ _)) hown8 hg8 hat8)
        clear hown8
        have hS3 := Keep.out _ hb8 q8
        refine hK.out _ _ (fun _ => hS3) ?_
        clear hK K
        try simp only [Act.put, List.setIfInBounds_toArray, List.set_cons_zero, List.set_cons_succ]
        refine anyE_take [20] (i := 19) (v := ?_) rfl (by kernel_rfl) (by kernel_rfl) (by kernel_rfl) (by kernel_rfl) (fun _ _ _ h => h) (Or.inl ⟨by rfl, ?_⟩) hS3 ?_
        rotate_left
        · (intro w hSw; (try dsimp only at hSw); go_simp; try with_reducible rfl)
        try simp only [Act.put, List.setIfInBounds_toArray, List.set_cons_zero, List.set_cons_succ]
        refine anyE_one (i := 20) (by kernel_rfl) rfl (fun K hK => ?_)
        go_simp
        refine hK.out _ _ (fun h => absurd h (by decide)) ?_
        clear hK K
        refine anyE_done (by kernel_rfl) ?_ _
        try simp only [Act.put, List.setIfInBounds_toArray, List.set_cons_zero, List.set_cons_succ]
        have HI9 := Lib.hid (hI8.out.put hGc 1 (.slice A8 (k + 1) c8))
        have HO9 := Lib.hid (hO8.put 1 (.slice A8 (k + 1) c8))
        have HB9 := Lib.hid (HB8.put 1 (.slice A8 (k + 1) c8))
        go_wp2_with fail
        go_roundw
        case rel => exact ⟨k + 1, A8, c8, _, by omega, by go_num, HI9.out, HO9.out, HB9.out⟩
        case measure => simp [intOf]; omega
      · obtain rfl : k = b.its.length := by omega
        obtain ⟨y0, y1, y2, f0, f1, f2⟩ := blk3 HBl.out
        obtain ⟨x0, x1, x2⟩ := HCr.out
        have hn1 : w.heap.size + 1 < wc.heap.size := by omega
        have HR1 := Lib.hid (show Blk wr (w.heap.size + 1) 25 #[.int .i64 0, .slice none 0 0, .slice none 0 0] from ((HOn.out.block (w.heap.size + 1) hn1 (fun e => by injection e with e; omega))).trans (HB1.out.below Hbc.out HB1.out.lt))
        obtain ⟨t0, t1, t2, g0, g1, g2⟩ := blk3 HR1.out
        go_wp2_with fail
        have hn2 : w.heap.size + 1 < wr.heap.size := HR1.out.lt
        have HP := Lib.hid (fun u0 u1 u2 => (((Only.refl (w.heap.size + 1) wr).put 0 u0).put 1 u1).put 2 u2)
        have HI := Lib.hid (((HIt.out.put hn1 0 (.int .i64 b.p)).put hn1 1 (.slice AIx b.its.length cIx)).put hn1 2 (.slice A5 b.rus.length c5))
        have HR := Lib.hid (((HRN.out.1.lt.keep (fun _ h => h.1.1) HOn.out).keep (fun _ h => by have := h.1.2; omega) (HP.out (.int .i64 b.p) (.slice AIx b.its.length cIx) (.slice A5 b.rus.length c5))).imp (N' := fun x => w.heap.size < x ∧ x < wc.heap.size) (fun x h => by have := h.1.2; have := h.2; exact ⟨by omega, by omega⟩))
        have hlw : w.heap.size < wc.heap.size := by omega
        have HB2 := Lib.hid (((HR1.out.put 0 (.int .i64 b.p)).put 1 (.slice AIx b.its.length cIx)).put 2 (.slice A5 b.rus.length c5))
        have HD := Lib.hid (below_put' (below_put' (below_put' hlow (Nat.le_succ w.heap.size) 0 (.int .i64 b.p)) (Nat.le_succ w.heap.size) 1 (.slice AIx b.its.length cIx)) (Nat.le_succ w.heap.size) 2 (.slice A5 b.rus.length c5))
        refine bodyPost_ret (results_cell_row rfl _ _ (w.heap.size + 1) 25 _ (0, 0) _ rfl HB2.out Tryd.underlying25 rfl (by kernel_rfl)) rfl ⟨AIx, A5, cIx, c5, _, wc.heap.size, rfl, hlw, HI.out, HR.out, HD.out⟩
end Go.Proofs.YtgoojcjfhghmgaaDoor


set_option linter.unusedSimpArgs false
set_option linter.unusedVariables false
namespace Go.Proofs.YtgoojcjfhghmgaaDoor
open Go Go.RowKit

theorem flatV_set0 : ∀ (ps : List (Value × Value)) (k : Nat) (hk : k < ps.length) (v : Value), (flatV ps).set (k * 2) v = flatV (ps.set k (v, ps[k].2))
  | p :: ps, 0, _, v => by simp [flatV]
  | p :: ps, k + 1, hk, v => by
    have := flatV_set0 ps k (by simpa using hk) v
    simp only [flatV, List.flatMap_cons, List.set_cons_succ, List.getElem_cons_succ] at this ⊢
    rw [List.set_append_right _ _ (by simp; omega)]
    simp only [List.length_cons, List.length_nil]
    rw [show (k + 1) * 2 - (0 + 1 + 1) = k * 2 by omega, this]
theorem flI_set : ∀ (l : List It) (k : Nat) (hk : k < l.length) (o : List Int), (flI l).set (k * 2) o = flI (l.set k (o, l[k].2))
  | p :: ps, 0, _, o => by simp [flI]
  | p :: ps, k + 1, hk, o => by
    have := flI_set ps k (by simpa using hk) o
    simp only [flI, List.flatMap_cons, List.set_cons_succ, List.getElem_cons_succ] at this ⊢
    rw [List.set_append_right _ _ (by simp; omega)]
    simp only [List.length_cons, List.length_nil]
    rw [show (k + 1) * 2 - (0 + 1 + 1) = k * 2 by omega, this]
/-- A row is replaced by a new one. -/
theorem RowsOwn.repl {base lo n c i : Nat} {gx : Option Nat} {w : World} {vs : List Value} {rows : List (List Int)} {A : Option Addr} {o : List Int} (h : RowsOwn base gx w vs rows) (hi : i < rows.length) (hn : o.length = n) (hown : w.ownsRow lo 3 1 (.slice A n c) n (o.map (Value.int .i64))) (hlo : base ≤ lo)
    (hgx : ∀ k, gx = some k → k < lo) (hvs : ∀ (j : Nat) (v : Value), vs[j]? = some v → ∀ b, v.ownBlock = some b → b < lo) : RowsOwn base gx w (vs.set i (.slice A n c)) (rows.set i o) := by
  subst hn
  have hl := h.1
  refine ⟨by simp [hl], fun j hj => ?_, fun j k v v' hjk hv hv' b hb => ?_⟩
  · have hj' : j < rows.length := by simpa using hj
    by_cases e : j = i
    · subst e
      rw [List.getElem_set_self]
      refine ⟨A, c, ?_, own_base hown hlo, fun k hk e => ?_⟩
      · rw [List.getElem?_set_self (by rw [hl]; exact hi)]
      · have h1 := hgx k e
        have h2 := (hown.lt k hk).1
        omega
    · rw [List.getElem_set_ne (fun h => e h.symm), List.getElem?_set_ne (fun h => e h.symm)]
      exact h.2.1 j hj'
  · have hnew : ∀ b, (Value.slice A o.length c).ownBlock = some b → lo ≤ b := fun b hb => (hown.lt b hb).1
    by_cases e1 : j = i
    · subst e1
      rw [List.getElem?_set_self (by rw [hl]; exact hi)] at hv
      injection hv with hv
      subst hv
      rw [List.getElem?_set_ne (by omega)] at hv'
      intro e
      have h1 := hvs k v' hv' b e
      have h2 := hnew b hb
      omega
    · rw [List.getElem?_set_ne (fun h => e1 h.symm)] at hv
      by_cases e2 : k = i
      · subst e2
        rw [List.getElem?_set_self (by rw [hl]; exact hi)] at hv'
        injection hv' with hv'
        subst hv'
        intro e
        have h1 := hvs j v hv b hb
        have h2 := hnew b e
        omega
      · rw [List.getElem?_set_ne (fun h => e2 h.symm)] at hv'
        exact h.2.2 j k v v' hjk hv hv' b hb
section
variable {lo n c g : Nat} {w w' : World} {ps : List (Value × Value)} {l : List It}
theorem ItP.len (h : ItP lo (.slice (some ⟨g, 0, none⟩) n c) w ps l) : n = l.length := by
  rcases h.2.1.2 with ⟨e, _⟩ | ⟨_, _, _, e, _⟩
  · cases e
  · injection e
/-- The cells of an item. -/
theorem ItP.cell {A : Option Addr} (h : ItP lo (.slice A n c) w ps l) {k : Nat} (hk : k < l.length) : ∃ g A1 c1 A2 c2, A = some ⟨g, 0, none⟩ ∧ ps[k]? = some (.slice A1 l[k].1.length c1, .slice A2 l[k].2.length c2) ∧ w.cell? ⟨g, k * 2, none⟩ = some (.slice A1 l[k].1.length c1) ∧ w.frozen? ⟨g, k * 2, none⟩ = false ∧ lo ≤ g ∧ g < w.heap.size ∧ IntsAt w.heap.size w A1 l[k].1 := by
  have hkp : k < ps.length := by rw [h.1]; exact hk
  have hn : n = l.length := by
    rcases h.2.1.2 with ⟨e, e2⟩ | ⟨_, _, _, e, _⟩
    · injection e with _ e _; omega
    · injection e
  subst hn
  obtain ⟨g, rfl, hg, q0, q1⟩ := own_cell2 h.2.1 h.1 hkp
  obtain ⟨f0, f1⟩ := flatV_get ps k hkp
  obtain ⟨g0, g1⟩ := flI_get l k hk
  have hl := flI_length l
  obtain ⟨A1, c1, e1, o1, _⟩ := h.2.2.2.1 (k * 2) (by omega)
  obtain ⟨A2, c2, e2, o2, _⟩ := h.2.2.2.1 (k * 2 + 1) (by omega)
  have x1 : (flI l)[k * 2]'(by omega) = l[k].1 := by rw [List.getElem?_eq_getElem (by omega)] at g0; injection g0
  have x2 : (flI l)[k * 2 + 1]'(by omega) = l[k].2 := by rw [List.getElem?_eq_getElem (by omega)] at g1; injection g1
  rw [x1] at e1 o1
  rw [x2] at e2 o2
  rw [f0] at e1
  rw [f1] at e2
  injection e1 with e1
  injection e2 with e2
  obtain ⟨g', cs, e3, hlo, hbl, _⟩ := own_blk h.2.1 (by omega)
  injection e3 with e3
  injection e3 with e3
  subst e3
  exact ⟨g, A1, c1, A2, c2, rfl, by rw [List.getElem?_eq_getElem hkp, ← e1, ← e2], by rw [q0, e1], hbl.frozen _, hlo, hg, IntsAt.of_own o1⟩
/-- A part is written over. -/
theorem ItP.put (h : ItP lo (.slice (some ⟨g, 0, none⟩) n c) w ps l) {k r : Nat} (hk : k < l.length) (hr : r < l[k].1.length) : ∃ q c1 v2, ps[k]? = some (.slice (some ⟨q, 0, none⟩) l[k].1.length c1, v2) ∧ lo ≤ q ∧ q < w.heap.size ∧ q ≠ g ∧ w.cell? ⟨q, r, none⟩ = some (.int .i64 l[k].1[r]) ∧ w.frozen? ⟨q, r, none⟩ = false ∧
    ∀ v, ItP lo (.slice (some ⟨g, 0, none⟩) n c) (w.setCell ⟨q, r, none⟩ (.int .i64 v)) ps (l.set k (l[k].1.set r v, l[k].2)) := by
  have hkp : k < ps.length := by rw [h.1]; exact hk
  have hl := flI_length l
  obtain ⟨g0, g1⟩ := flI_get l k hk
  have hk' : k * 2 < (flI l).length := by omega
  have x1 : (flI l)[k * 2]'hk' = l[k].1 := by rw [List.getElem?_eq_getElem hk'] at g0; injection g0
  obtain ⟨q, c1, e, hq, hlo, hgx, hc, hf, hv⟩ := h.2.2.put hk' (k := r) (by rw [x1]; exact hr)
  simp only [x1] at e hc hv
  have hne : q ≠ g := fun e => hgx (by rw [e]; rfl)
  obtain ⟨f0, f1⟩ := flatV_get ps k hkp
  rw [f0] at e
  injection e with e
  refine ⟨q, c1, ps[k].2, by rw [List.getElem?_eq_getElem hkp, ← e], hlo, hq, hne, hc, hf, fun v => ⟨by simp [h.1], ?_, ?_⟩⟩
  · have := ownsRow_setCell_other h.2.1 (a := ⟨q, r, none⟩) (fun e => hgx e) (.int .i64 v)
    simpa using this
  · have := hv v
    rw [flI_set l k hk] at this
    exact this
/-- A list of parts is replaced by a new one. -/
theorem ItP.repl (h : ItP lo (.slice (some ⟨g, 0, none⟩) n c) w ps l) {k m c' : Nat} {A : Option Addr} {o : List Int} (hk : k < l.length) (hlo : lo ≤ w.heap.size) (hb : Below w.heap.size w w') (hown : w'.ownsRow w.heap.size 3 1 (.slice A m c') m (o.map (Value.int .i64))) (hm : o.length = m) :
    ∃ v2, ItP lo (.slice (some ⟨g, 0, none⟩) n c) (w'.setCell ⟨g, k * 2, none⟩ (.slice A m c')) (ps.set k (.slice A m c', v2)) (l.set k (o, l[k].2)) ∧ ∃ v1, ps[k]? = some (v1, v2) := by
  have hkp : k < ps.length := by rw [h.1]; exact hk
  have h' := h.below hb
  have hn := h.len
  subst hn
  have hl := flI_length l
  have hg : g < w.heap.size := (h.2.1.lt g rfl).2
  have hgx : ∀ j, (Value.slice (some ⟨g, 0, none⟩ : Option Addr) l.length c).ownBlock = some j → j < w.heap.size := fun j hj => (h.2.1.lt j hj).2
  have r1 := h'.2.2.repl (i := k * 2) (o := o) (by omega) hm hown hlo hgx (fun j v hv b hb => h.2.2.lt hv hb)
  rw [flI_set l k hk, flatV_set0 ps k hkp] at r1
  have hst := h'.2.1.stored (k * 2) (.slice A m c')
  refine ⟨ps[k].2, ⟨by simp [h.1], ?_, ?_⟩, ps[k].1, by rw [List.getElem?_eq_getElem hkp]⟩
  · have := hst.1
    rw [flatV_set0 ps k hkp] at this
    simpa using this
  · exact r1.grown (gx' := some g) hst.2 (fun j hj => .inl hj)
end
/-- All blocks of a list of items are such. -/
def InB (NB : Nat → Prop) (out : Value) (ps : List (Value × Value)) : Prop := (∀ b, out.ownBlock = some b → NB b) ∧ ∀ (k : Nat) (v1 v2 : Value), ps[k]? = some (v1, v2) → (∀ b, v1.ownBlock = some b → NB b) ∧ ∀ b, v2.ownBlock = some b → NB b
theorem InB.imp {NB NB' : Nat → Prop} {out : Value} {ps : List (Value × Value)} (h : InB NB out ps) (hi : ∀ b, NB b → NB' b) : InB NB' out ps :=
  ⟨fun b hb => hi b (h.1 b hb), fun k v1 v2 e => ⟨fun b hb => hi b ((h.2 k v1 v2 e).1 b hb), fun b hb => hi b ((h.2 k v1 v2 e).2 b hb)⟩⟩
theorem InB.set {NB : Nat → Prop} {out : Value} {ps : List (Value × Value)} (h : InB NB out ps) {k : Nat} {v0 v1 v2 : Value} (he : ps[k]? = some (v0, v2)) (hv : ∀ b, v1.ownBlock = some b → NB b) : InB NB out (ps.set k (v1, v2)) := by
  refine ⟨h.1, fun j u1 u2 e => ?_⟩
  have hk : k < ps.length := (List.getElem?_eq_some_iff.1 he).1
  by_cases hj : k = j
  · subst hj
    rw [List.getElem?_set_self hk] at e
    injection e with e
    injection e with e1 e2
    subst e1 e2
    exact ⟨hv, (h.2 k v0 v2 he).2⟩
  · rw [List.getElem?_set_ne hj] at e
    exact h.2 j u1 u2 e
theorem InB.of_upTo {mid : Nat} {out : Value} {ps : List (Value × Value)} (h : UpTo mid out (flatV ps)) : InB (fun b => b < mid) out ps :=
  ⟨h.1, fun k v1 v2 e => by
    have hk : k < ps.length := (List.getElem?_eq_some_iff.1 e).1
    obtain ⟨f0, f1⟩ := flatV_get ps k hk
    rw [List.getElem?_eq_getElem hk] at e
    injection e with e
    rw [e] at f0 f1
    exact ⟨h.2 _ _ f0, h.2 _ _ f1⟩⟩
/-- Rules of a call's own lie from lo on. -/
theorem RuP.toN {lo n c : Nat} {A : Option Addr} {w : World} {ps : List (Value × Value)} {l : List Ru} (h : RuP lo (.slice A n c) w ps l) (hn : n = l.length) {N : Nat → Prop} (hN : ∀ b, lo ≤ b → b < w.heap.size → N b) : RusN N w A l := by
  subst hn
  intro k hk
  have hkp : k < ps.length := by rw [h.1]; exact hk
  obtain ⟨g, rfl, hg, q0, q1⟩ := own_cell2 h.2.1 h.1 hkp
  obtain ⟨A1, c1, e1, o1, _⟩ := h.2.2.1.2.1 k (by simpa [flR] using hk)
  have x1 : (flR l)[k]'(by simpa [flR] using hk) = l[k].1 := by simp [flR]
  rw [x1] at e1 o1
  rw [List.getElem?_map, List.getElem?_eq_getElem hkp] at e1
  have e1' : ps[k].1 = .slice A1 l[k].1.length c1 := by simpa using e1
  have e2 : ps[k].2 = .int .i64 l[k].2 := by
    have := congrArg (fun l => l[k]?) h.2.2.2
    simpa [hkp, hk] using this
  refine ⟨g, 0, A1, c1, rfl, hN g (h.2.1.lt g rfl).1 hg, hg, ?_, ?_, (IntsAt.of_own o1).ne fun a ha hlt => hN _ ((own_caps o1).2.2 a ha).1 hlt⟩
  · rw [Nat.zero_add, q0, e1']
  · rw [Nat.zero_add, q1, e2]
/-- What lies apart from the items while they are exchanged: the rules, the new book, the exchange. -/
def Rst (w : World) (mid hi G Gs : Nat) (AR : Option Addr) (rus : List Ru) (c1 c2 : Array Value) (wx : World) : Prop := RusN (fun b => mid ≤ b ∧ b < hi) wx AR rus ∧ Blk wx G 25 c1 ∧ Blk wx Gs 79 c2 ∧ Below w.heap.size w wx
theorem Rst.below {w wx wy : World} {mid hi G Gs : Nat} {AR : Option Addr} {rus : List Ru} {c1 c2 : Array Value} (h : Rst w mid hi G Gs AR rus c1 c2 wx) (hb : Below wx.heap.size wx wy) : Rst w mid hi G Gs AR rus c1 c2 wy :=
  ⟨h.1.below hb, h.2.1.below hb h.2.1.lt, h.2.2.1.below hb h.2.2.1.lt, h.2.2.2.trans (hb.mono h.2.2.2.size)⟩
theorem Rst.put {w wx : World} {mid hi G Gs q : Nat} {AR : Option Addr} {rus : List Ru} {c1 c2 : Array Value} (h : Rst w mid hi G Gs AR rus c1 c2 wx) (hG : mid ≤ G ∧ G < hi) (hq : (q < mid ∨ hi ≤ q) ∧ q ≠ Gs) (hw : w.heap.size ≤ q) (i : Nat) (u : Value) : Rst w mid hi G Gs AR rus c1 c2 (wx.setCell ⟨q, i, none⟩ u) := by
  have ho : Only q wx (wx.setCell ⟨q, i, none⟩ u) := (Only.refl _ _).put i u
  have hne : G ≠ q := fun e => by omega
  exact ⟨h.1.keep (fun b hb e => by omega) ho, h.2.1.far hne u, h.2.2.1.far (fun e => hq.2 e.symm) u, h.2.2.2.trans (ho.below hw h.2.2.2.size)⟩
end Go.Proofs.YtgoojcjfhghmgaaDoor


set_option linter.unusedSimpArgs false
set_option linter.unusedVariables false
namespace Go.Proofs.YtgoojcjfhghmgaaDoor
open Go Go.RowKit

theorem own_lt2 {w : World} {base e s n c : Nat} {A : Option Addr} {xs : List Value} (h : w.ownsRow base e s (.slice A n c) n xs) : ∀ a, A = some a → base ≤ a.block ∧ a.block < w.heap.size := fun a ha => by
  rcases h.2 with ⟨e1, e2⟩ | ⟨g, cap, cur, e1, hb, hg, _⟩
  · injection e1 with e1
    rw [e1] at ha; cases ha
  · injection e1 with e1
    have := h.lt a.block (by rw [ha]; rfl)
    exact this
/-- Items in a row of a call's own; the lists lie apart from it, from lo on. -/
def ItM (lo : Nat) (out : Value) (w : World) (ps : List (Value × Value)) (l : List It) : Prop := ps.length = l.length ∧ w.ownsRow lo 84 2 out l.length (flatV ps) ∧
  ∀ k (hk : k < l.length), ∃ A1 c1 A2 c2, ps[k]? = some (.slice A1 l[k].1.length c1, .slice A2 l[k].2.length c2) ∧ IntsN (fun q => lo ≤ q ∧ out.ownBlock ≠ some q) w.heap.size w A1 l[k].1 ∧ IntsN (fun q => lo ≤ q ∧ out.ownBlock ≠ some q) w.heap.size w A2 l[k].2
section
variable {lo n c g : Nat} {out : Value} {w w' : World} {ps : List (Value × Value)} {l : List It}
theorem ItC.itM (h : ItC lo out w ps l l.length) : ItM lo out w ps l := by
  obtain ⟨h1, h2, h3, h4, h5, h6⟩ := h
  rw [List.take_length] at h3 h4
  refine ⟨h1, h2, fun k hk => ?_⟩
  have hkp : k < ps.length := by omega
  obtain ⟨A1, c1, e1, i1, q1, _⟩ := h3.2 k (by simpa using hk)
  obtain ⟨A2, c2, e2, i2, q2, _⟩ := h4.2 k (by simpa using hk)
  simp only [List.getElem_map] at e1 i1 e2 i2
  have m1 := List.mem_of_getElem? e1
  have m2 := List.mem_of_getElem? e2
  rw [List.getElem?_map, List.getElem?_eq_getElem hkp] at e1 e2
  have e1' : ps[k].1 = .slice A1 l[k].1.length c1 := by simpa using e1
  have e2' : ps[k].2 = .slice A2 l[k].2.length c2 := by simpa using e2
  refine ⟨A1, c1, A2, c2, by rw [List.getElem?_eq_getElem hkp, ← e1', ← e2'], i1.ne fun a ha _ => ?_, i2.ne fun a ha _ => ?_⟩
  · subst ha
    exact ⟨h5 _ m1 a _ _ rfl, fun e => (q1 a rfl).2.1 e.symm⟩
  · subst ha
    exact ⟨h6 _ m2 a _ _ rfl, fun e => (q2 a rfl).2.1 e.symm⟩
theorem ItM.below (h : ItM lo out w ps l) (hb : Below w.heap.size w w') : ItM lo out w' ps l := ⟨h.1, own_below h.2.1 hb, fun k hk => by
  obtain ⟨A1, c1, A2, c2, e, i1, i2⟩ := h.2.2 k hk
  exact ⟨A1, c1, A2, c2, e, i1.below hb, i2.below hb⟩⟩
theorem ItM.only {G : Nat} (h : ItM lo out w ps l) (o : Only G w w') (hG : G < lo) : ItM lo out w' ps l := ⟨h.1, o.own h.2.1 (own_ne h.2.1 hG), fun k hk => by
  obtain ⟨A1, c1, A2, c2, e, i1, i2⟩ := h.2.2 k hk
  exact ⟨A1, c1, A2, c2, e, i1.keep (fun b hb e => by have := hb.1; omega) o, i2.keep (fun b hb e => by have := hb.1; omega) o⟩⟩
theorem ItM.cell {A : Option Addr} (h : ItM lo (.slice A n c) w ps l) {k : Nat} (hk : k < l.length) : ∃ g A1 c1 v2, A = some ⟨g, 0, none⟩ ∧ ps[k]? = some (.slice A1 l[k].1.length c1, v2) ∧ w.cell? ⟨g, k * 2, none⟩ = some (.slice A1 l[k].1.length c1) ∧ w.frozen? ⟨g, k * 2, none⟩ = false ∧ lo ≤ g ∧ g < w.heap.size ∧ IntsAt w.heap.size w A1 l[k].1 := by
  have hkp : k < ps.length := by rw [h.1]; exact hk
  have hn : n = l.length := by
    rcases h.2.1.2 with ⟨e, e2⟩ | ⟨_, _, _, e, _⟩
    · injection e with _ e _; omega
    · injection e
  subst hn
  obtain ⟨g, rfl, hg, q0, q1⟩ := own_cell2 h.2.1 h.1 hkp
  obtain ⟨A1, c1, A2, c2, e, i1, i2⟩ := h.2.2 k hk
  rw [List.getElem?_eq_getElem hkp] at e
  injection e with e
  rw [e] at q0
  obtain ⟨g', cs, e3, hlo, hbl, _⟩ := own_blk h.2.1 (by omega)
  injection e3 with e3
  injection e3 with e3
  subst e3
  exact ⟨g, A1, c1, _, rfl, by rw [List.getElem?_eq_getElem hkp, e], q0, hbl.frozen _, hlo, hg, i1.at⟩
theorem ItM.at {A : Option Addr} (h : ItM lo (.slice A n c) w ps l) (hn : n = l.length) : ItsAt w.heap.size w A l := by
  subst hn
  intro k hk
  have hkp : k < ps.length := by rw [h.1]; exact hk
  obtain ⟨g, rfl, hg, q0, q1⟩ := own_cell2 h.2.1 h.1 hkp
  obtain ⟨A1, c1, A2, c2, e, i1, i2⟩ := h.2.2 k hk
  rw [List.getElem?_eq_getElem hkp] at e
  injection e with e
  rw [e] at q0 q1
  exact ⟨g, 0, A1, c1, A2, c2, rfl, hg, by rw [Nat.zero_add]; exact q0, by rw [Nat.zero_add]; exact q1, i1.at, i2.at⟩
/-- A list of parts is replaced by one that lies elsewhere. -/
theorem ItM.repl (h : ItM lo (.slice (some ⟨g, 0, none⟩) n c) w ps l) {k m c' : Nat} {A : Option Addr} {o : List Int} (hk : k < l.length) (hi : IntsN (fun q => lo ≤ q ∧ (Value.slice (some ⟨g, 0, none⟩ : Option Addr) n c).ownBlock ≠ some q) w.heap.size w A o) (hm : o.length = m) :
    ∃ v2, ItM lo (.slice (some ⟨g, 0, none⟩) n c) (w.setCell ⟨g, k * 2, none⟩ (.slice A m c')) (ps.set k (.slice A m c', v2)) (l.set k (o, l[k].2)) := by
  subst hm
  have hkp : k < ps.length := by rw [h.1]; exact hk
  have hn : n = l.length := by
    rcases h.2.1.2 with ⟨e, _⟩ | ⟨_, _, _, e, _⟩
    · cases e
    · injection e
  subst hn
  have ho : Only g w (w.setCell ⟨g, k * 2, none⟩ (.slice A o.length c')) := (Only.refl _ _).put _ _
  have hne : ∀ q, (lo ≤ q ∧ (Value.slice (some ⟨g, 0, none⟩ : Option Addr) l.length c).ownBlock ≠ some q) → q ≠ g := fun q hq e => hq.2 (by rw [e]; rfl)
  have hst := (h.2.1.stored (k * 2) (.slice A o.length c')).1
  rw [flatV_set0 ps k hkp] at hst
  refine ⟨ps[k].2, by simp [h.1], by simpa using hst, fun j hj => ?_⟩
  have hj' : j < l.length := by simpa using hj
  have key : IntsN (fun q => lo ≤ q ∧ (Value.slice (some ⟨g, 0, none⟩ : Option Addr) l.length c).ownBlock ≠ some q) (w.setCell ⟨g, k * 2, none⟩ (.slice A o.length c')).heap.size (w.setCell ⟨g, k * 2, none⟩ (.slice A o.length c')) A o := hi.keep hne ho
  by_cases e : k = j
  · subst e
    obtain ⟨A1, c1, A2, c2, e1, i1, i2⟩ := h.2.2 k hk
    rw [List.getElem?_eq_getElem hkp] at e1
    injection e1 with e1
    have e2 : ps[k].2 = .slice A2 l[k].2.length c2 := by rw [e1]
    refine ⟨A, c', A2, c2, ?_, ?_, ?_⟩
    · rw [List.getElem?_set_self hkp, e2]; simp
    · simpa using key
    · simpa using i2.keep hne ho
  · obtain ⟨A1, c1, A2, c2, e1, i1, i2⟩ := h.2.2 j hj'
    refine ⟨A1, c1, A2, c2, ?_, ?_, ?_⟩
    · rw [List.getElem?_set_ne e, e1]; simp [List.getElem_set_ne e]
    · simpa [List.getElem_set_ne e] using i1.keep hne ho
    · simpa [List.getElem_set_ne e] using i2.keep hne ho
end
/-- Items in blocks of which N holds. -/
def ItsN (N : Nat → Prop) (w : World) (A : Option Addr) (l : List It) : Prop := ∀ k (hk : k < l.length), ∃ b off A1 c1 A2 c2, A = some ⟨b, off, none⟩ ∧ N b ∧ b < w.heap.size ∧ w.cell? ⟨b, off + k * 2, none⟩ = some (.slice A1 l[k].1.length c1) ∧ w.cell? ⟨b, off + k * 2 + 1, none⟩ = some (.slice A2 l[k].2.length c2) ∧ IntsN N w.heap.size w A1 l[k].1 ∧ IntsN N w.heap.size w A2 l[k].2
section
variable {N N' : Nat → Prop} {w w' : World} {A : Option Addr} {l : List It}
theorem ItsN.at (h : ItsN N w A l) : ItsAt w.heap.size w A l := fun k hk => by
  obtain ⟨b, off, A1, c1, A2, c2, e, hn, h1, h2, h3, h4, h5⟩ := h k hk
  exact ⟨b, off, A1, c1, A2, c2, e, h1, h2, h3, h4.at, h5.at⟩
theorem ItsN.keep {g : Nat} (h : ItsN N w A l) (hN : ∀ b, N b → b ≠ g) (o : Only g w w') : ItsN N w' A l := fun k hk => by
  obtain ⟨b, off, A1, c1, A2, c2, e, hn, h1, h2, h3, h4, h5⟩ := h k hk
  exact ⟨b, off, A1, c1, A2, c2, e, hn, Nat.lt_of_lt_of_le h1 o.size, (o.cell (p := ⟨b, off + k * 2, none⟩) h1 (hN b hn)).trans h2, (o.cell (p := ⟨b, off + k * 2 + 1, none⟩) h1 (hN b hn)).trans h3, h4.keep hN o, h5.keep hN o⟩
theorem ItsN.below (h : ItsN N w A l) (hb : Below w.heap.size w w') : ItsN N w' A l := fun k hk => by
  obtain ⟨b, off, A1, c1, A2, c2, e, hn, h1, h2, h3, h4, h5⟩ := h k hk
  exact ⟨b, off, A1, c1, A2, c2, e, hn, Nat.lt_of_lt_of_le h1 hb.size, (hb.cell (p := ⟨b, off + k * 2, none⟩) h1).trans h2, (hb.cell (p := ⟨b, off + k * 2 + 1, none⟩) h1).trans h3, h4.below hb, h5.below hb⟩
theorem ItsN.imp (h : ItsN N w A l) (hN : ∀ b, N b → b < w.heap.size → N' b) : ItsN N' w A l := fun k hk => by
  obtain ⟨b, off, A1, c1, A2, c2, e, hn, h1, h2, h3, h4, h5⟩ := h k hk
  exact ⟨b, off, A1, c1, A2, c2, e, hN b hn h1, h1, h2, h3, h4.lt.imp fun x hx => hN x hx.1 hx.2, h5.lt.imp fun x hx => hN x hx.1 hx.2⟩
theorem ItM.itsN {lo n c : Nat} {ps : List (Value × Value)} (h : ItM lo (.slice A n c) w ps l) (hn : n = l.length) (hN : ∀ q, lo ≤ q → N q) : ItsN N w A l := fun k hk => by
  subst hn
  have hkp : k < ps.length := by rw [h.1]; exact hk
  obtain ⟨g, rfl, hg, q0, q1⟩ := own_cell2 h.2.1 h.1 hkp
  obtain ⟨A1, c1, A2, c2, e, i1, i2⟩ := h.2.2 k hk
  rw [List.getElem?_eq_getElem hkp] at e
  injection e with e
  rw [e] at q0 q1
  exact ⟨g, 0, A1, c1, A2, c2, rfl, hN g (h.2.1.lt g rfl).1, hg, by rw [Nat.zero_add]; exact q0, by rw [Nat.zero_add]; exact q1, i1.imp fun x hx => hN x hx.1, i2.imp fun x hx => hN x hx.1⟩
end
theorem intL_asc {l : List Nat} (h : l.Pairwise (· < ·)) : (intL l).Pairwise (· < ·) := by
  unfold intL
  rw [List.pairwise_map]
  exact h.imp fun h => by omega
theorem mem_intL2 {l : List Nat} {x : Int} : x ∈ intL l ↔ 0 ≤ x ∧ x.toNat ∈ l := by
  unfold intL
  rw [List.mem_map]
  constructor
  · rintro ⟨y, hy, rfl⟩
    exact ⟨by omega, by simpa using hy⟩
  · rintro ⟨h0, h1⟩
    exact ⟨x.toNat, h1, Int.toNat_of_nonneg h0⟩
/-- What is marked, in order. -/
theorem places_marks {l : List Int} {n : Nat} (h : l.Pairwise (· < ·)) (hn : n ≤ 60) (hx : ∀ x ∈ l, 0 ≤ x ∧ x < (n : Int)) : intL (bl (mk (natL l))) = l := by
  have hlt := mk_lt (natL_lt hx)
  have h64 : mk (natL l) < 18446744073709551616 := Nat.lt_of_lt_of_le hlt (Nat.le_trans (Nat.pow_le_pow_right (by decide) hn) (by decide))
  refine asc_extI (intL_asc (bl_asc _ h64)) h fun x => ?_
  rw [mem_intL2, bl_filter hlt hn, List.mem_filter, List.mem_range, mk_bit]
  constructor
  · rintro ⟨h0, h1, h2⟩
    have h3 : x.toNat ∈ natL l := by simpa using h2
    obtain ⟨y, hy, e⟩ := List.mem_map.1 h3
    have := (hx y hy).1
    have e2 : y = x := by omega
    subst e2; exact hy
  · intro h0
    obtain ⟨h1, h2⟩ := hx x h0
    refine ⟨h1, by omega, ?_⟩
    have h9 : x.toNat ∈ natL l := List.mem_map.2 ⟨x, h0, rfl⟩
    rw [List.contains_iff_mem]; exact h9
/-- The marks after an exchange. -/
theorem marks_bit {P : List Int} {x y n i : Nat} (h : P.Pairwise (· < ·)) (hP : ∀ z ∈ P, 0 ≤ z) (hx : (x : Int) ∈ P) (hne : x ≠ y) : (mk (natL (exM P ((x : Int), (y : Int))))).testBit i = if i = y then true else if i = x then false else (mk (natL P)).testBit i := by
  rw [mk_bit, mk_bit]
  have hm : ∀ l : List Int, (∀ z ∈ l, 0 ≤ z) → ((natL l).contains i = true ↔ (i : Int) ∈ l) := fun l hl => by
    rw [List.contains_iff_mem]
    unfold natL
    rw [List.mem_map]
    constructor
    · rintro ⟨z, hz, e⟩
      have := hl z hz
      have e2 : z = (i : Int) := by omega
      rw [← e2]; exact hz
    · intro hz
      exact ⟨(i : Int), hz, by simp⟩
  have hQ : ∀ z ∈ exM P ((x : Int), (y : Int)), 0 ≤ z := fun z hz => by
    rcases (mem_exM (s := ((x : Int), (y : Int))) hx).1 hz with ⟨h1, _⟩ | h1
    · exact hP z h1
    · rw [h1]; omega
  have key : (natL (exM P ((x : Int), (y : Int)))).contains i = true ↔ ((i : Int) ∈ P ∧ i ≠ x) ∨ i = y := by
    rw [hm _ hQ, mem_exM (s := ((x : Int), (y : Int))) hx]
    constructor
    · rintro (⟨h1, h2⟩ | h1)
      · exact .inl ⟨h1, fun e => h2 (by rw [e])⟩
      · exact .inr (by have h9 : (i : Int) = (y : Int) := h1; omega)
    · rintro (⟨h1, h2⟩ | h1)
      · exact .inl ⟨h1, fun e => h2 (by have h9 : (i : Int) = (x : Int) := e; omega)⟩
      · exact .inr (by rw [h1])
  by_cases e1 : i = y
  · rw [if_pos e1]
    exact key.2 (.inr e1)
  · rw [if_neg e1]
    by_cases e2 : i = x
    · rw [if_pos e2]
      rw [Bool.eq_false_iff]
      intro h1
      rcases key.1 h1 with ⟨_, h2⟩ | h2
      · exact h2 e2
      · exact e1 h2
    · rw [if_neg e2]
      have h2 := hm P hP
      cases hc : (natL P).contains i with
      | true => exact key.2 (.inl ⟨h2.1 hc, e2⟩)
      | false =>
        rw [Bool.eq_false_iff]
        intro h1
        rcases key.1 h1 with ⟨h3, _⟩ | h3
        · rw [h2.2 h3] at hc; cases hc
        · exact e1 h3
end Go.Proofs.YtgoojcjfhghmgaaDoor
