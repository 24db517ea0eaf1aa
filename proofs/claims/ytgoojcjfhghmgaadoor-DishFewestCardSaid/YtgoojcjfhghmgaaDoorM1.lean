/- The reference's swapsOK f96. Written by mkHn.py. -/
import Derived.Test.YtgoojcjfhghmgaaDoorDisHc
import Derived.Test.YtgoojcjfhghmgaaDoorDisH
import Derived.Test.YtgoojcjfhghmgaaDoorDisIa
import Derived.Test.YtgoojcjfhghmgaaDoorDisEe
import Derived.Test.YtgoojcjfhghmgaaDoorDisY
import Derived.Test.YtgoojcjfhghmgaaDoorDisFe

set_option linter.unusedSimpArgs false
set_option linter.unusedVariables false
namespace Go.Proofs.YtgoojcjfhghmgaaDoor
open Go Go.RowKit Go.Sort

theorem own_take {w : World} {base e s n c : Nat} {A : Option Addr} {xs : List Value} (h : w.ownsRow base e s (.slice A n c) n xs) {m : Nat} (hm : m ≤ n) (hn : 0 < n) : w.ownsRow base e s (.slice A m c) m (xs.take (m * s)) := by
  obtain ⟨g, cs, rfl, hb, hk, h1, h2, h3, rfl⟩ := own_blk h hn
  refine blk_own hb hk (by omega) h2 h3 ?_
  rw [List.take_take, Nat.min_eq_left (Nat.mul_le_mul_right s hm)]
theorem compact_own2 (base c : Nat) (A : Option Addr) (zs : List Int) (w : World) (hz : zs.length ≤ 1000000) (hown : w.ownsRow base 3 1 (.slice A zs.length c) zs.length (zs.map (Value.int .i64))) :
    Calls Tryd.prog 118 #[.slice A zs.length c] w fun e w' => e = .returned (.slice A (Lib.compact zs).length c) ∧ w'.ownsRow base 3 1 (.slice A (Lib.compact zs).length c) (Lib.compact zs).length ((Lib.compact zs).map (Value.int .i64)) ∧ w.grownBy w' (Value.slice A zs.length c).ownBlock := by
  by_cases h0 : zs.length = 0
  · obtain rfl : zs = [] := List.eq_nil_of_length_eq_zero h0
    refine (Tryd.slices_Compact_int_empty A c w).mono ?_
    rintro e w' ⟨rfl, rfl⟩
    exact ⟨rfl, hown, World.grownBy.refl _ _⟩
  · rcases hown.2 with ⟨_, h1⟩ | ⟨gb, cap, cur, hv, hbase, hgb, r1, r2, r3, r4⟩
    · exact absurd h1 h0
    · injection hv with e1 e2 e3
      subst e1 e3
      have hH : Holds (Value.int .i64) w gb 0 zs.toArray := holds_of_block_i hgb (by simpa using r4)
      have hcl := Lib.compact_length_le zs
      refine (Tryd.slices_Compact_int gb 0 c zs w hH (by omega) r1).mono ?_
      rintro e w' ⟨rfl, q, rfl⟩
      have hts : (Lib.compact zs ++ List.replicate (zs.length - (Lib.compact zs).length) 0).length = zs.length := by simp; omega
      have ho := ownsRow_sorted_i (os := #[]) (n := q) hts hbase hgb r1 r2 r3
      have hg := grownBy_sorted_i (w := w) (g := gb) (n := q) (os := #[]) (Lib.compact zs ++ List.replicate (zs.length - (Lib.compact zs).length) 0).toArray
      have e0 : ∀ W : World, grow W #[] = W := fun W => by simp [grow]
      rw [e0] at ho hg
      have ht := own_take ho (m := (Lib.compact zs).length) hcl (by omega)
      rw [Nat.mul_one, List.map_append, List.take_left' (by simp)] at ht
      exact ⟨rfl, ht, hg⟩
theorem sorted_own (A : Option Addr) (c B : Nat) (l : List Int) (w : World) (hz : l.length ≤ 1000000) (h : IntsAt B w A l) :
    Calls Tryd.prog 105 #[.slice A l.length c] w fun e w' => ∃ A' c', e = .returned (.slice A' (srt l).length c') ∧ w'.ownsRow w.heap.size 3 1 (.slice A' (srt l).length c') (srt l).length ((srt l).map (Value.int .i64)) ∧ Below w.heap.size w w' := by
  have cc := Lib.hid (clone_any A c B l w hz h)
  have hlen : (l.mergeSort fun x y => decide (x ≤ y)).length = l.length := by simp
  clear h
  go_enter Tryd.func105, Tryd.ntmps105
  go_wp2_with (first
    | (go_at_call 112; refine cc.out.mono ?_; rintro e w1 ⟨v, rfl, hrow, hb⟩; obtain ⟨A1, c1, hv⟩ := own_form hrow; subst hv)
    | (go_at_call 117; refine (sort_own w.heap.size _ l _ hz hrow).mono ?_; rintro e w2 ⟨rfl, hrow2, hg⟩; have hb2 : Below w.heap.size w w2 := hb.grown hg hb.size fun k hk => (hrow.lt k hk).1; rw [← hlen] at hrow2)
    | (go_at_call 118; rw [← hlen]; refine (compact_own2 w.heap.size c1 A1 _ _ (by rw [hlen]; exact hz) hrow2).mono ?_; rintro e w3 ⟨rfl, hI3, hg3⟩))
  go_ret
  exact ⟨A1, c1, rfl, hI3, hb2.grown hg3 hb2.size fun k hk => (hrow2.lt k hk).1⟩

theorem index_any (A : Option Addr) (c B : Nat) (zs : List Int) (x : Int) (w : World) (hz : zs.length ≤ 1000000) (h : IntsAt B w A zs) :
    Calls Tryd.prog 111 #[.slice A zs.length c, .int .i64 x] w fun e w' => e = .returned (.int .i64 (Lib.idxOf zs x)) ∧ w' = w := by
  by_cases h0 : zs.length = 0
  · obtain rfl : zs = [] := List.eq_nil_of_length_eq_zero h0
    exact Tryd.slices_Index_int_empty A c x w
  · obtain ⟨b, off, rfl, _, _⟩ := h.at (k := 0) (by omega)
    refine (Tryd.slices_Index_int b off zs.length c zs x w (Nat.le_refl _) (by omega) (fun j hj => ?_)).mono fun e w' ⟨he, hw⟩ => ⟨by rw [he, List.take_length], hw⟩
    rw [(h.cells hj).2]; simp [hj]
theorem idx_in {l : List Int} (hA : l.Pairwise (· < ·)) {x : Int} (h : x ∈ l) : ∃ k, ∃ hk : k < l.length, Lib.idxOf l x = (k : Nat) ∧ l[k] = x := by
  obtain ⟨k, hk, rfl⟩ := List.getElem_of_mem h
  refine ⟨k, hk, ?_, rfl⟩
  have := Lib.idxOf_hit l l.length k l[k] hk (Nat.le_refl _) (by simp [hk]) (fun j hj => by
    have := List.pairwise_iff_getElem.1 hA j k (by omega) hk hj
    rw [List.getD_eq_getElem?_getD, List.getElem?_eq_getElem (by omega)]
    simp only [Option.getD_some]
    omega)
  rwa [List.take_length] at this
theorem idx_out {l : List Int} {x : Int} (h : x ∉ l) : Lib.idxOf l x = -1 := by
  have := Lib.idxOf_miss l l.length x (fun j hj e => by
    rw [List.getD_eq_getElem?_getD, List.getElem?_eq_getElem hj] at e
    simp only [Option.getD_some] at e
    exact h (by rw [← e]; exact List.getElem_mem hj))
  rwa [List.take_length] at this
theorem compactUpTo_in (d : Array Int) : ∀ (m : Nat), m ≤ d.size → ∀ j (hj : j < d.size), j < m → d[j] ∈ Lib.compactUpTo d m
  | 0, _, j, hj, h => by omega
  | m + 1, hm, j, hj, h => by
    rw [Lib.compactUpTo_succ, List.mem_append]
    by_cases hjm : j < m
    · exact .inl (compactUpTo_in d m (by omega) j hj hjm)
    · obtain rfl : j = m := by omega
      by_cases hk : Lib.keeps d j = true
      · rw [if_pos hk]; exact .inr (by simp [getElem!_pos d j hj])
      · have h0 : ¬ (j = 0 ∨ d[j]! ≠ d[j - 1]!) := fun e => hk (by unfold Lib.keeps; simpa using e)
        have hj0 : j ≠ 0 := fun e => h0 (.inl e)
        have he : d[j]! = d[j - 1]! := Classical.byContradiction fun e => h0 (.inr e)
        rw [getElem!_pos d j hj, getElem!_pos d (j - 1) (by omega)] at he
        rw [he]
        exact .inl (compactUpTo_in d j (by omega) (j - 1) (by omega) (by omega))
theorem mem_srt {l : List Int} {x : Int} : x ∈ srt l ↔ x ∈ l := by
  unfold srt Lib.compact
  rw [← (List.mergeSort_perm l fun x y => decide (x ≤ y)).mem_iff]
  generalize l.mergeSort (fun x y => decide (x ≤ y)) = s
  constructor
  · intro h
    obtain ⟨j, hj, _, rfl⟩ := compactUpTo_mem s.toArray _ (by simp) x h
    exact List.getElem_mem (by simpa using hj)
  · intro h
    obtain ⟨k, hk, rfl⟩ := List.getElem_of_mem h
    exact compactUpTo_in s.toArray _ (by simp) k (by simpa using hk) hk
end Go.Proofs.YtgoojcjfhghmgaaDoor


set_option linter.unusedSimpArgs false
set_option linter.unusedVariables false
namespace Go.Proofs.YtgoojcjfhghmgaaDoor
open Go Go.RowKit

theorem asc_extI : ∀ {a b : List Int}, a.Pairwise (· < ·) → b.Pairwise (· < ·) → (∀ i, i ∈ a ↔ i ∈ b) → a = b
  | [], [], _, _, _ => rfl
  | [], y :: b, _, _, h => by have := (h y).2 (by simp); simp at this
  | x :: a, [], _, _, h => by have := (h x).1 (by simp); simp at this
  | x :: a, y :: b, ha, hb, h => by
    rw [List.pairwise_cons] at ha hb
    have e : x = y := by
      have h1 := (h x).1 (by simp)
      have h2 := (h y).2 (by simp)
      rcases List.mem_cons.1 h1 with rfl | h1
      · rfl
      · rcases List.mem_cons.1 h2 with rfl | h2
        · rfl
        · have := ha.1 y h2; have := hb.1 x h1; omega
    subst e
    rw [asc_extI ha.2 hb.2 fun i => ?_]
    constructor
    · intro hi
      have := ha.1 i hi
      rcases List.mem_cons.1 ((h i).1 (List.mem_cons_of_mem _ hi)) with rfl | h2
      · omega
      · exact h2
    · intro hi
      have := hb.1 i hi
      rcases List.mem_cons.1 ((h i).2 (List.mem_cons_of_mem _ hi)) with rfl | h2
      · omega
      · exact h2
/-- Parts of an item after an exchange. -/
def exM (P : List Int) (s : Int × Int) : List Int := if s.1 ∈ P then srt (P.map fun y => if y = s.1 then s.2 else y) else P
theorem exM_out {P : List Int} {s : Int × Int} (h : s.1 ∉ P) : exM P s = P := if_neg h
theorem exM_asc {P : List Int} {s : Int × Int} (h : P.Pairwise (· < ·)) : (exM P s).Pairwise (· < ·) := by
  unfold exM
  split
  · exact srt_asc _
  · exact h
theorem exM_length (P : List Int) (s : Int × Int) : (exM P s).length ≤ P.length := by
  unfold exM
  split
  · exact Nat.le_trans (srt_length _) (by simp)
  · exact Nat.le_refl _
theorem mem_exM {P : List Int} {s : Int × Int} {x : Int} (hs : s.1 ∈ P) : x ∈ exM P s ↔ (x ∈ P ∧ x ≠ s.1) ∨ x = s.2 := by
  unfold exM
  rw [if_pos hs, mem_srt, List.mem_map]
  constructor
  · rintro ⟨y, hy, rfl⟩
    by_cases e : y = s.1
    · rw [if_pos e]; exact .inr rfl
    · rw [if_neg e]; exact .inl ⟨hy, e⟩
  · rintro (⟨h1, h2⟩ | rfl)
    · exact ⟨x, h1, if_neg h2⟩
    · exact ⟨s.1, hs, if_pos rfl⟩
theorem exM_set {P : List Int} {s : Int × Int} (h : P.Pairwise (· < ·)) {k : Nat} (hk : k < P.length) (he : P[k] = s.1) : srt (P.set k s.2) = exM P s := by
  have hs : s.1 ∈ P := by rw [← he]; exact List.getElem_mem hk
  unfold exM
  rw [if_pos hs]
  congr 1
  apply List.ext_getElem (by simp)
  intro i h1 h2
  have hi : i < P.length := by simpa using h1
  rw [List.getElem_set, List.getElem_map]
  by_cases e : k = i
  · subst e; rw [if_pos rfl, if_pos he]
  · rw [if_neg e, if_neg]
    intro e2
    have e3 : P[i] = P[k] := e2.trans he.symm
    rcases Nat.lt_or_gt_of_ne e with hl | hl
    · have := List.pairwise_iff_getElem.1 h k i hk hi hl; omega
    · have := List.pairwise_iff_getElem.1 h i k hi hk hl; omega
theorem exM_same {P : List Int} {s : Int × Int} (h : P.Pairwise (· < ·)) (he : s.1 = s.2) : exM P s = P := by
  unfold exM
  split
  · rw [show (P.map fun y => if y = s.1 then s.2 else y) = P from ?_]
    · exact srt_self h
    · conv => rhs; rw [← List.map_id P]
      exact List.map_congr_left fun y _ => by
        by_cases e : y = s.1
        · rw [if_pos e, ← he, e]; rfl
        · rw [if_neg e]; rfl
  · rfl
/-- The items after an exchange, as far as item k. -/
def exK (l : List It) (s : Int × Int) (k : Nat) : List It := l.mapIdx fun i x => if i < k then (exM x.1 s, x.2) else x
theorem exK_length (l : List It) (s : Int × Int) (k : Nat) : (exK l s k).length = l.length := by simp [exK]
theorem exK_get (l : List It) (s : Int × Int) (k : Nat) {i : Nat} (hi : i < l.length) : (exK l s k)[i]'(by rw [exK_length]; exact hi) = if i < k then (exM l[i].1 s, l[i].2) else l[i] := by simp [exK]
theorem exK_zero (l : List It) (s : Int × Int) : exK l s 0 = l := by
  apply List.ext_getElem (by simp [exK])
  intro i h1 h2
  rw [exK_get l s 0 h2, if_neg (by omega)]
theorem exK_set (l : List It) (s : Int × Int) {k : Nat} (hk : k < l.length) : (exK l s k).set k (exM l[k].1 s, l[k].2) = exK l s (k + 1) := by
  apply List.ext_getElem (by simp [exK])
  intro i h1 h2
  have hi : i < l.length := by simpa [exK] using h2
  rw [List.getElem_set, exK_get l s (k + 1) hi]
  by_cases e : k = i
  · subst e; rw [if_pos rfl, if_pos (by omega)]
  · rw [if_neg e, exK_get l s k hi]
    by_cases h : i < k
    · rw [if_pos h, if_pos (by omega)]
    · rw [if_neg h, if_neg (by omega)]
theorem exK_skip (l : List It) (s : Int × Int) {k : Nat} (hk : k < l.length) (h : exM l[k].1 s = l[k].1) : exK l s k = exK l s (k + 1) := by
  rw [← exK_set l s hk, h]
  apply List.ext_getElem (by simp)
  intro i h1 h2
  rw [List.getElem_set]
  by_cases e : k = i
  · subst e; rw [if_pos rfl, exK_get l s k hk, if_neg (by omega)]
  · rw [if_neg e]
/-- No part would come after its item. -/
def exOk (l : List It) (s : Int × Int) : Prop := ∀ k (hk : k < l.length), s.1 ∈ l[k].1 → s.2 < k
/-- Ordered parts, each before its item. -/
def Ord (l : List It) : Prop := ∀ k (hk : k < l.length), l[k].1.Pairwise (· < ·) ∧ ∀ x ∈ l[k].1, 0 ≤ x ∧ x < (k : Int)
theorem Ord.next {l : List It} {s : Int × Int} (h : Ord l) (ho : exOk l s) (h0 : 0 ≤ s.2) : Ord (exK l s l.length) := fun k hk => by
  have hk' : k < l.length := by rwa [exK_length] at hk
  rw [exK_get l s l.length hk', if_pos hk']
  refine ⟨exM_asc (h k hk').1, fun x hx => ?_⟩
  by_cases hs : s.1 ∈ l[k].1
  · rcases (mem_exM hs).1 hx with ⟨h1, _⟩ | rfl
    · exact (h k hk').2 x h1
    · exact ⟨h0, ho k hk' hs⟩
  · rw [exM_out hs] at hx; exact (h k hk').2 x hx
open Classical in
/-- The items after exchanges, if none fails. -/
noncomputable def exN (l : List It) (ss : List (Int × Int)) : Option (List It) := ss.foldl (fun o s => o.bind fun l => if exOk l s then some (exK l s l.length) else none) (some l)
theorem exN_nil (l : List It) : exN l [] = some l := rfl
theorem exN_good {l m : List It} {ss : List (Int × Int)} {j : Nat} (hj : j < ss.length) (h : exN l (ss.take j) = some m) (ho : exOk m ss[j]) : exN l (ss.take (j + 1)) = some (exK m ss[j] m.length) := by
  unfold exN at h ⊢
  rw [List.take_succ_eq_append_getElem hj, List.foldl_append, h]
  simp [ho]
theorem exN_none : ∀ (ss : List (Int × Int)), (ss.foldl (fun o s => o.bind fun l => open Classical in if exOk l s then some (exK l s l.length) else none) none) = none
  | [] => rfl
  | s :: ss => by rw [List.foldl_cons]; exact exN_none ss
theorem exN_bad {l m : List It} {ss : List (Int × Int)} {j : Nat} (hj : j < ss.length) (h : exN l (ss.take j) = some m) (ho : ¬ exOk m ss[j]) : exN l ss = none := by
  unfold exN at h ⊢
  conv => lhs; rw [← List.take_append_drop j ss]
  rw [List.foldl_append, h, List.drop_eq_getElem_cons hj, List.foldl_cons]
  simp only [Option.bind_some, ho, if_false]
  exact exN_none _
theorem exN_facts {l : List It} (hl : Ord l) : ∀ {ss : List (Int × Int)}, (∀ s ∈ ss, 0 ≤ s.2) → ∀ (j : Nat) {m : List It}, j ≤ ss.length → exN l (ss.take j) = some m → Ord m ∧ m.length = l.length ∧ ∀ (M : Nat), (∀ x ∈ l, x.1.length ≤ M ∧ x.2.length ≤ M) → ∀ x ∈ m, x.1.length ≤ M ∧ x.2.length ≤ M
  | ss, h0, 0, m, _, h => by
    have : l = m := by simpa [exN] using h
    subst this
    exact ⟨hl, rfl, fun M hM => hM⟩
  | ss, h0, j + 1, m, hj, h => by
    have hjl : j < ss.length := hj
    unfold exN at h
    rw [List.take_succ_eq_append_getElem hjl, List.foldl_append, List.foldl_cons, List.foldl_nil] at h
    obtain ⟨m0, e0, h⟩ := Option.bind_eq_some_iff.1 h
    obtain ⟨g1, g2, g3⟩ := exN_facts hl h0 j (by omega) (show exN l (ss.take j) = some m0 from e0)
    split at h
    · rename_i ho
      injection h with h
      subst h
      refine ⟨g1.next ho (h0 _ (List.getElem_mem hjl)), by rw [exK_length, g2], fun M hM x hx => ?_⟩
      obtain ⟨i, hi, rfl⟩ := List.getElem_of_mem hx
      have hi' : i < m0.length := by rwa [exK_length] at hi
      rw [exK_get m0 _ _ hi', if_pos hi']
      have := g3 M hM _ (List.getElem_mem hi')
      have h2 := exM_length m0[i].1 ss[j]
      exact ⟨by simp only; omega, this.2⟩
    · cases h
/-- What is wrong with exchanges. -/
def swE (n : Nat) (ss : List (Int × Int)) : Int := if 8 < ss.length then 4 else if (ss.all fun s => decide (0 ≤ s.1 ∧ s.1 < (n : Int) ∧ 0 ≤ s.2 ∧ s.2 < (n : Int))) = true then 0 else 5
theorem sw_zero {n : Nat} {ss : List (Int × Int)} (h : swE n ss = 0) : ss.length ≤ 8 ∧ ∀ s ∈ ss, 0 ≤ s.1 ∧ s.1 < (n : Int) ∧ 0 ≤ s.2 ∧ s.2 < (n : Int) := by
  unfold swE at h
  split at h
  · cases h
  · split at h
    · rename_i h1 h2
      exact ⟨by omega, fun s hs => by simpa using List.all_eq_true.1 h2 s hs⟩
    · cases h
theorem vl_ord {b : Bk} (h : VBk b) : Ord b.its := fun k hk => by
  have := (h.parts k hk).2.1
  unfold isS at this
  rw [Bool.and_eq_true, decide_eq_true_eq, List.all_eq_true] at this
  exact ⟨this.1, fun x hx => by simpa using this.2 x hx⟩
end Go.Proofs.YtgoojcjfhghmgaaDoor


set_option linter.unusedSimpArgs false
set_option linter.unusedVariables false
namespace Go.Proofs.YtgoojcjfhghmgaaDoor
open Go Go.RowKit

theorem exN_cons (l : List It) (s : Int × Int) (ss : List (Int × Int)) : exN l (s :: ss) = open Classical in if exOk l s then exN (exK l s l.length) ss else none := by
  unfold exN
  rw [List.foldl_cons]
  simp only [Option.bind_some]
  split
  · rfl
  · exact exN_none ss
/-- What each exchange keeps. -/
theorem exN_inv {P : Nat → It → Prop} : ∀ {ss : List (Int × Int)} {l m : List It}, (∀ s ∈ ss, ∀ k x, P k x → (s.1 ∈ x.1 → s.2 < (k : Int)) → P k (exM x.1 s, x.2)) → (∀ k (hk : k < l.length), P k l[k]) → exN l ss = some m → m.length = l.length ∧ ∀ k (hk : k < m.length), P k m[k]
  | [], l, m, _, h, e => by
    have : l = m := by simpa [exN_nil] using e
    subst this
    exact ⟨rfl, h⟩
  | s :: ss, l, m, hs, h, e => by
    rw [exN_cons] at e
    split at e
    · rename_i ho
      have := exN_inv (P := P) (fun t ht => hs t (List.mem_cons_of_mem _ ht)) (fun k hk => by
        have hk' : k < l.length := by rwa [exK_length] at hk
        rw [exK_get l s l.length hk', if_pos hk']
        exact hs s (by simp) k _ (h k hk') (ho k hk')) e
      rwa [exK_length] at this
    · cases e
theorem isS_exM {P : List Int} {s : Int × Int} {k : Nat} (h : isS P k = true) (h0 : 0 ≤ s.2) (ho : s.1 ∈ P → s.2 < (k : Int)) : isS (exM P s) k = true := by
  unfold isS at h ⊢
  rw [Bool.and_eq_true, decide_eq_true_eq, List.all_eq_true] at h ⊢
  refine ⟨exM_asc h.1, fun x hx => ?_⟩
  by_cases hs : s.1 ∈ P
  · rcases (mem_exM hs).1 hx with ⟨h1, _⟩ | rfl
    · exact h.2 x h1
    · simpa using ⟨h0, ho hs⟩
  · rw [exM_out hs] at hx; exact h.2 x hx
/-- A valid book stays valid. -/
theorem exN_vbk {b : Bk} (hv : VBk b) {ss : List (Int × Int)} (h0 : ∀ s ∈ ss, 0 ≤ s.2) {m : List It} (h : exN b.its ss = some m) : VBk ⟨b.p, m, b.rus⟩ ∧ m.length = b.its.length := by
  have := exN_inv (P := fun k x => x.1.length ≤ 6 ∧ isS x.1 (k : Int) = true ∧ isS x.2 b.p = true) (fun s hs k x hx ho => ⟨Nat.le_trans (exM_length _ _) hx.1, isS_exM hx.2.1 (h0 s hs) ho, hx.2.2⟩) hv.parts h
  exact ⟨⟨hv.p0, hv.p1, by show m.length ≤ 20; rw [this.1]; exact hv.ni, hv.nr, this.2, hv.rules⟩, this.1⟩
theorem vbk_short {b : Bk} (hv : VBk b) : Short b := by
  have hlen : ∀ {l : List Int} {n : Int}, n ≤ 20 → isS l n = true → l.length ≤ 20 := by
    intro l n hn h
    have h2 := isS_mem h
    unfold isS at h
    rw [Bool.and_eq_true, decide_eq_true_eq] at h
    have h3 : (natL l).Nodup := by
      unfold natL
      refine List.Pairwise.map _ ?_ (List.Pairwise.and_mem.1 h.1)
      rintro a b' ⟨ha, hb, hab⟩
      have := h2 a ha; have := h2 b' hb
      omega
    have := nodup_len 20 (natL l) h3 (fun i hi => by
      obtain ⟨a, ha, rfl⟩ := List.mem_map.1 hi
      have := h2 a ha
      omega)
    rwa [natL_length] at this
  refine ⟨by have := hv.ni; omega, by have := hv.nr; omega, fun x hx => ?_, fun x hx => ?_⟩
  · obtain ⟨k, hk, rfl⟩ := List.getElem_of_mem hx
    have := hv.parts k hk
    have h2 := hlen (by have := hv.p1; omega) this.2.2
    exact ⟨by omega, by omega⟩
  · have := hlen (by have := hv.p1; omega) (ruOk_mem (hv.rules x hx)).1
    omega
/-- The exchanges of a set. -/
def chS (ss : List (Int × Int)) (n : Nat) : List (Int × Int) := (bl n).map fun i => ss[i]?.getD (0, 0)
theorem chS_length (ss : List (Int × Int)) (n : Nat) : (chS ss n).length = (bl n).length := by simp [chS]
theorem set_small {ss : List (Int × Int)} (h8 : ss.length ≤ 8) {n : Nat} (hn : n < 2 ^ ss.length) : n < 2 ^ 8 := Nat.lt_of_lt_of_le hn (Nat.pow_le_pow_right (by decide) h8)
theorem chS_facts {ss : List (Int × Int)} (h8 : ss.length ≤ 8) {n : Nat} (hn : n < 2 ^ ss.length) : (∀ i ∈ bl n, i < ss.length) ∧ (bl n).length ≤ 8 ∧ ∀ s ∈ chS ss n, s ∈ ss := by
  have h1 : ∀ i ∈ bl n, i < ss.length := fun i hi => bl_lt hn (by omega) hi
  refine ⟨h1, Nat.le_trans (bl_length hn (by omega)) h8, fun s hs => ?_⟩
  obtain ⟨i, hi, rfl⟩ := List.mem_map.1 hs
  rw [List.getElem?_eq_getElem (h1 i hi)]
  exact List.getElem_mem _
/-- The exchanges of a set, as far as its k-th. -/
def chTo (ss : List (Int × Int)) (n k : Nat) : List (Int × Int) := (chS ss n).take k
theorem chTo_zero (ss : List (Int × Int)) (n : Nat) : chTo ss n 0 = [] := rfl
theorem chTo_all (ss : List (Int × Int)) (n : Nat) : chTo ss n (bl n).length = chS ss n := by rw [chTo, ← chS_length ss n, List.take_length]
theorem chTo_succ {ss : List (Int × Int)} {n k : Nat} (hk : k < (bl n).length) (hi : (bl n)[k] < ss.length) : chTo ss n (k + 1) = chTo ss n k ++ [ss[(bl n)[k]]] := by
  have hk' : k < (chS ss n).length := by rw [chS_length]; exact hk
  rw [chTo, List.take_succ_eq_append_getElem hk']
  congr 2
  simp [chS, List.getElem?_eq_getElem hi]
theorem chTo_length {ss : List (Int × Int)} {n k : Nat} (hk : k ≤ (bl n).length) : (chTo ss n k).length = k := by
  rw [chTo, List.length_take, chS_length]; omega
/-- With the exchanges of the set the label has none of the properties. -/
def feG (b : Bk) (item : Nat) (av : List Nat) (ss : List (Int × Int)) (n : Nat) : Prop := ∃ m x, exN b.its (chS ss n) = some m ∧ Lbl ⟨b.p, m, b.rus⟩ item x ∧ ∀ q ∈ av, x.testBit q = false
theorem feG_iff {b : Bk} {item : Nat} {av : List Nat} {ss : List (Int × Int)} {n x : Nat} {m : List It} (h : exN b.its (chS ss n) = some m) (hx : Lbl ⟨b.p, m, b.rus⟩ item x) : feG b item av ss n ↔ ∀ q ∈ av, x.testBit q = false := by
  constructor
  · rintro ⟨m', x', h1, h2, h3⟩
    rw [h] at h1
    injection h1 with h1
    subst h1
    rwa [← Cl.unique h2.1 hx.1]
  · intro h3
    exact ⟨m, x, h, hx, h3⟩
theorem feG_none {b : Bk} {item : Nat} {av : List Nat} {ss : List (Int × Int)} {n : Nat} (h : exN b.its (chS ss n) = none) : ¬ feG b item av ss n := by
  rintro ⟨m', x', h1, _⟩
  rw [h] at h1
  cases h1
open Classical in
/-- The best of the first sets. -/
noncomputable def feN (b : Bk) (item : Nat) (av : List Nat) (ss : List (Int × Int)) : Nat → Option (List Nat)
  | 0 => none
  | n + 1 => if (∀ l, feN b item av ss n = some l → frB (intL (bl n)) (intL l) = true) ∧ feG b item av ss n then some (bl n) else feN b item av ss n
theorem feN_take {b : Bk} {item : Nat} {av : List Nat} {ss : List (Int × Int)} {n : Nat} (h1 : ∀ l, feN b item av ss n = some l → frB (intL (bl n)) (intL l) = true) (h2 : feG b item av ss n) : feN b item av ss (n + 1) = some (bl n) := if_pos ⟨h1, h2⟩
theorem feN_late {b : Bk} {item : Nat} {av : List Nat} {ss : List (Int × Int)} {n : Nat} {l : List Nat} (h1 : feN b item av ss n = some l) (h2 : frB (intL (bl n)) (intL l) = false) : feN b item av ss (n + 1) = some l := by
  rw [← h1]
  exact if_neg fun h => by rw [h.1 l h1] at h2; cases h2
theorem feN_bad {b : Bk} {item : Nat} {av : List Nat} {ss : List (Int × Int)} {n : Nat} (h2 : ¬ feG b item av ss n) : feN b item av ss (n + 1) = feN b item av ss n := if_neg fun h => h2 h.2
theorem feN_some {b : Bk} {item : Nat} {av : List Nat} {ss : List (Int × Int)} : ∀ {n : Nat} {l : List Nat}, feN b item av ss n = some l → ∃ k, k < n ∧ l = bl k ∧ feG b item av ss k
  | 0, l, h => by cases h
  | n + 1, l, h => by
    unfold feN at h
    split at h
    · rename_i hc
      injection h with h
      exact ⟨n, Nat.lt_succ_self n, h.symm, hc.2⟩
    · obtain ⟨k, h1, h2⟩ := feN_some h
      exact ⟨k, Nat.lt_succ_of_lt h1, h2⟩
/-- What is wrong with the question. -/
def feE (b : Bk) (item : Int) (av : List Int) (ss : List (Int × Int)) : Int := if nmR b item = 0 then (if isS av b.p = true then swE b.its.length ss else 1) else nmR b item
open Classical in
/-- The answer. -/
noncomputable def feV (b : Bk) (item : Int) (av : List Int) (ss : List (Int × Int)) : Option (List Nat) := if feE b item av ss = 0 then feN b item.toNat (natL av) ss (2 ^ ss.length) else none
theorem feE_zero {b : Bk} {item : Int} {av : List Int} {ss : List (Int × Int)} (h : feE b item av ss = 0) : nmR b item = 0 ∧ isS av b.p = true ∧ swE b.its.length ss = 0 := by
  unfold feE at h
  split at h
  · rename_i h1
    split at h
    · rename_i h2; exact ⟨h1, h2, h⟩
    · cases h
  · rename_i h1; exact absurd h h1
theorem feV_some {b : Bk} {item : Int} {av : List Int} {ss : List (Int × Int)} {l : List Nat} (h : feV b item av ss = some l) : feE b item av ss = 0 ∧ ∃ k, k < 2 ^ ss.length ∧ l = bl k ∧ feG b item.toNat (natL av) ss k := by
  unfold feV at h
  split at h
  · rename_i h0; exact ⟨h0, feN_some h⟩
  · cases h
theorem and_mask {x : Nat} {av : List Nat} : x &&& mk av = 0 ↔ ∀ q ∈ av, x.testBit q = false := by
  constructor
  · intro h q hq
    have := congrArg (fun y => y.testBit q) h
    simp only [Nat.testBit_and, mk_bit, Nat.zero_testBit, List.contains_eq_mem, hq, decide_true, Bool.and_true] at this
    exact this
  · intro h
    apply Nat.eq_of_testBit_eq
    intro q
    rw [Nat.testBit_and, mk_bit, Nat.zero_testBit]
    by_cases hq : q ∈ av
    · rw [h q hq]; rfl
    · simp [hq]
end Go.Proofs.YtgoojcjfhghmgaaDoor


set_option linter.unusedSimpArgs false
set_option linter.unusedVariables false
namespace Go.Proofs.YtgoojcjfhghmgaaDoor
open Go Go.RowKit

def swB (n : Nat) (s : Int × Int) : Prop := 0 ≤ s.1 ∧ s.1 < (n : Int) ∧ 0 ≤ s.2 ∧ s.2 < (n : Int)
theorem sw_good {n : Nat} {ss : List (Int × Int)} (h8 : ss.length ≤ 8) (h : ∀ s ∈ ss, swB n s) : swE n ss = 0 := by
  unfold swE
  rw [if_neg (by omega), if_pos (List.all_eq_true.2 fun s hs => by simpa [swB] using h s hs)]
theorem sw_bad {n : Nat} {ss : List (Int × Int)} (h8 : ss.length ≤ 8) {j : Nat} (hj : j < ss.length) (h : ¬ swB n ss[j]) : swE n ss = 5 := by
  unfold swE
  rw [if_neg (by omega), if_neg]
  intro e
  have := List.all_eq_true.1 e _ (List.getElem_mem hj)
  exact h (by simpa [swB] using this)
theorem sw_long {n : Nat} {ss : List (Int × Int)} (h8 : ¬ ss.length ≤ 8) : swE n ss = 4 := by
  unfold swE
  rw [if_pos (by omega)]

set_option maxRecDepth 100000 in
set_option maxHeartbeats 4000000 in
theorem swappable_any (AI AR : Option Addr) (cI cR : Nat) (A : Option Addr) (c B : Nat) (b : Bk) (ss : List (Int × Int)) (w : World) (hB : B ≤ w.heap.size) (h : PairsAt B w A ss) (hn : b.its.length ≤ 60) (hm : ss.length ≤ 1000) :
    Calls Tryd.prog 94 #[.agg #[.int .i64 b.p, .slice AI b.its.length cI, .slice AR b.rus.length cR], .slice A ss.length c] w fun e w' => e = .returned (.int .i64 (swE b.its.length ss)) ∧ Below w.heap.size w w' := by
  have hT := h.below (Below.refl _ _) hB
  clear h
  generalize b.its.length = n at *
  by_cases h8 : ss.length ≤ 8
  · have hd : decide ((8 : Int) < (ss.length : Int)) = false := by simp; omega
    have Hg := Lib.hid (fun h => sw_good (n := n) h8 h)
    have Hbd := Lib.hid (fun j (hj : j < ss.length) h => sw_bad (n := n) h8 hj h)
    generalize swE n ss = r at Hg Hbd ⊢
    obtain ⟨W0, hW0⟩ : ∃ W0, W0 = w.alloc (.cells #[.int .i64 b.p, .slice AI n cI, .slice AR b.rus.length cR] 25) := ⟨_, rfl⟩
    have hb0 : Blk W0 w.heap.size 25 #[.int .i64 b.p, .slice AI n cI, .slice AR b.rus.length cR] := by rw [hW0]; exact Blk.new w 25 _
    have hw0 : Below w.heap.size w W0 := by rw [hW0]; exact balloc (Below.refl _ _) _
    have hlt := hb0.lt
    have HX := Lib.hid (fun W (hW : Below W0.heap.size W0 W) => blk3 (hb0.below hW hlt))
    have HT := Lib.hid (fun W (hW : Below W0.heap.size W0 W) => (hT.below hw0 hw0.size).below hW (Nat.le_refl _))
    have Hw := Lib.hid hw0
    clear hT hb0 hw0 h8 hB
    go_enter Tryd.func94, Tryd.ntmps94
    go_wp2_with fail
    rw [← hW0]
    clear hW0
    have Hrefl := Lib.hid (Below.refl W0.heap.size W0)
    go_loopw [12] (fun vi wx => ∃ i : Nat, i ≤ ss.length ∧ vi = .int .i64 i ∧ Aside (∀ s ∈ ss.take i, swB n s) ∧ Below W0.heap.size W0 wx) (fun vi _ => ss.length - (intOf vi).toNat)
    case atStart => exact ⟨0, Nat.zero_le _, rfl, (fun x hx => by simp at hx), Hrefl.out⟩
    case round =>
      clear Hrefl
      obtain ⟨i, hi, rfl, hok, hb⟩ := hrel
      have HO := Lib.hid hok.out
      clear hok
      by_cases hlt2 : i < ss.length
      · obtain ⟨g, off, rfl, hgB, q0, q1⟩ := (HT.out _ hb).at hlt2
        obtain ⟨z0, z1, z2, _⟩ := HX.out (wr.alloc (.cells #[.int .i64 ss[i].1, .int .i64 ss[i].2] 79)) (balloc hb _)
        have hb1 : Below W0.heap.size W0 (wr.alloc (.cells #[.int .i64 ss[i].1, .int .i64 ss[i].2] 79)) := balloc hb _
        have Hb1 := Lib.hid hb1
        have hiI : (i : Int) < (ss.length : Int) := by omega
        clear hb hb1
        by_cases hs : swB n ss[i]
        · have HO2 := Lib.hid (show ∀ s ∈ ss.take (i + 1), swB n s from fun s hs' => by
            rw [List.take_succ_eq_append_getElem hlt2, List.mem_append] at hs'
            rcases hs' with h1 | h1
            · exact HO.out s h1
            · rw [List.mem_singleton] at h1; subst h1; exact hs)
          obtain ⟨s1, s2, s3, s4⟩ := hs
          generalize ss[i] = s at *
          obtain ⟨x, y⟩ := s
          simp only at s1 s2 s3 s4 q0 q1 z0 z1 z2 Hb1 ⊢
          go_wp2_with fail
          go_roundw
          case rel => exact ⟨i + 1, by omega, by go_num, HO2.out, Hb1.out⟩
          case measure => simp [intOf]; omega
        · have HR := Lib.hid (Hbd.out i hlt2 hs)
          unfold swB at hs
          have hs2 := Lib.hid hs
          clear hs HO Hbd Hg
          generalize ss[i] = s at *
          obtain ⟨x, y⟩ := s
          simp only at q0 q1 z0 z1 z2 Hb1 hs2 ⊢
          by_cases s1 : 0 ≤ x
          · by_cases s2 : x < (n : Int)
            · by_cases s3 : 0 ≤ y
              · have s4 : (n : Int) ≤ y := by have := hs2.out; omega
                clear hs2
                go_wp2_with fail
                go_ret
                exact ⟨by rw [HR.out]; rfl, Hw.out.trans (Hb1.out.mono Hw.out.size)⟩
              · have s4 : y < 0 := by omega
                clear hs2 s3
                go_wp2_with fail
                go_ret
                exact ⟨by rw [HR.out]; rfl, Hw.out.trans (Hb1.out.mono Hw.out.size)⟩
            · have s4 : (n : Int) ≤ x := by omega
              clear hs2 s2
              go_wp2_with fail
              go_ret
              exact ⟨by rw [HR.out]; rfl, Hw.out.trans (Hb1.out.mono Hw.out.size)⟩
          · have s4 : x < 0 := by omega
            clear hs2 s1
            go_wp2_with fail
            go_ret
            exact ⟨by rw [HR.out]; rfl, Hw.out.trans (Hb1.out.mono Hw.out.size)⟩
      · obtain rfl : i = ss.length := by omega
        have HR := Lib.hid (Hg.out fun s hs => HO.out s (by rw [List.take_of_length_le (Nat.le_refl _)]; exact hs))
        have Hb1 := Lib.hid hb
        clear hb HO Hbd Hg
        go_wp2_with fail
        go_ret
        exact ⟨by rw [HR.out]; rfl, Hw.out.trans (Hb1.out.mono Hw.out.size)⟩
  · have hd : decide ((8 : Int) < (ss.length : Int)) = true := by simp; omega
    have HR := Lib.hid (sw_long (n := n) h8)
    have hw0 := Lib.hid (show Below w.heap.size w (w.alloc (.cells #[.int .i64 b.p, .slice AI n cI, .slice AR b.rus.length cR] 25)) from balloc (Below.refl _ _) _)
    clear h8 hT hB
    go_enter Tryd.func94, Tryd.ntmps94
    go_wp2_with fail
    go_ret
    exact ⟨by rw [HR.out]; rfl, hw0.out⟩
end Go.Proofs.YtgoojcjfhghmgaaDoor


namespace Go.Proofs.YtgoojcjfhghmgaaDoor
open Go Go.RowKit
section
variable {P : Program} {md : Region.Mode} {ops : Array Oper} {Q : Exit → Act → World → Prop} {S S' : World → Prop} {E : Nat → Bool}
theorem anyE_mono (h : ∀ w, S' w → S w) : ∀ (n : Nat) (listed : Array Bool) (a : Act) (w : World), anyE P md ops Q S' E n listed a w → anyE P md ops Q S E n listed a w
  | 0, _, _, _, H => H
  | n + 1, _, _, _, H => ⟨H.1, fun i hi => wpOp_mono (fun a' w' h' => ⟨fun e => h w' (h'.1 e), anyE_mono h n _ a' w' h'.2⟩) (H.2 i hi)⟩
/-- More holds from here on. -/
theorem anyE_more (T : World → Prop) {n : Nat} {listed : Array Bool} {a : Act} {w : World} (H : anyE P md ops Q (fun w => S w ∧ T w) E n listed a w) : anyE P md ops Q S E n listed a w :=
  anyE_mono (fun _ h => h.1) n listed a w H
/-- Number i is taken first; none is exempt; its place is written out. -/
theorem anyE_tk (i d : Nat) {oi : Oper} {v : Value} {n : Nat} {listed : Array Bool} {a : Act} {w : World} (hi : ops[i]? = some oi) (hd : oi.dst = some d)
    (hs : Region.noSelect ops = true) (hf : Region.free md ops listed i = true) (hr : (Region.ready md ops listed).contains i = true)
    (hQ : ∀ c a w, Q (.panic c) (a.put oi.dst v) w → Q (.panic c) a w) (hy : YieldsIf P ops S oi v a) (hS : S w)
    (h : anyE P md ops Q S (fun _ => false) n (listed.setIfInBounds i true) { a with tmps := a.tmps.setIfInBounds d v } w) : anyE P md ops Q S (fun _ => false) (n + 1) listed a w := by
  refine anyE_first hi (Region.noSelect_spec hs) hQ (N := []) (fun j hj => by cases hj) (fun j hj => by cases hj) n listed a w (Region.free_spec hi hf) (by simpa using hr) (fun k hk => by cases hk) hy hS ?_
  rw [hd]; exact h
end
end Go.Proofs.YtgoojcjfhghmgaaDoor


set_option linter.unusedSimpArgs false
set_option linter.unusedVariables false
namespace Go.Proofs.YtgoojcjfhghmgaaDoor
open Go Go.RowKit

set_option maxRecDepth 100000 in
set_option maxHeartbeats 4000000 in
theorem swapsOK_ref (AI AR : Option Addr) (cI cR : Nat) (A : Option Addr) (c B : Nat) (b : Bk) (ss : List (Int × Int)) (w : World) (hB : B ≤ w.heap.size) (h : PairsAt B w A ss) (hn : b.its.length ≤ 60) (hm : ss.length ≤ 1000) :
    Calls Tryd.prog 96 #[.agg #[.int .i64 b.p, .slice AI b.its.length cI, .slice AR b.rus.length cR], .slice A ss.length c] w fun e w' => e = .returned (.int .i64 (swE b.its.length ss)) ∧ Below w.heap.size w w' := by
  have hT := h.below (Below.refl _ _) hB
  clear h
  generalize b.its.length = n at *
  by_cases h8 : ss.length ≤ 8
  · have hd : decide ((8 : Int) < (ss.length : Int)) = false := by simp; omega
    have Hg := Lib.hid (fun h => sw_good (n := n) h8 h)
    have Hbd := Lib.hid (fun j (hj : j < ss.length) h => sw_bad (n := n) h8 hj h)
    generalize swE n ss = r at Hg Hbd ⊢
    obtain ⟨W0, hW0⟩ : ∃ W0, W0 = w.alloc (.cells #[.int .i64 b.p, .slice AI n cI, .slice AR b.rus.length cR] 25) := ⟨_, rfl⟩
    have hb0 : Blk W0 w.heap.size 25 #[.int .i64 b.p, .slice AI n cI, .slice AR b.rus.length cR] := by rw [hW0]; exact Blk.new w 25 _
    have hw0 : Below w.heap.size w W0 := by rw [hW0]; exact balloc (Below.refl _ _) _
    have hlt := hb0.lt
    have HX := Lib.hid (fun W (hW : Below W0.heap.size W0 W) => blk3 (hb0.below hW hlt))
    have HT := Lib.hid (fun W (hW : Below W0.heap.size W0 W) => (hT.below hw0 hw0.size).below hW (Nat.le_refl _))
    have Hw := Lib.hid hw0
    clear hT hb0 hw0 h8 hB
    go_enter Tryd.func96, Tryd.ntmps96
    go_wp2_with fail
    rw [← hW0]
    clear hW0
    have Hrefl := Lib.hid (Below.refl W0.heap.size W0)
    go_loopw [5] (fun vi wx => ∃ i : Nat, i ≤ ss.length ∧ vi = .int .i64 i ∧ Aside (∀ s ∈ ss.take i, swB n s) ∧ Below W0.heap.size W0 wx) (fun vi _ => ss.length - (intOf vi).toNat)
    case atStart => exact ⟨0, Nat.zero_le _, rfl, (fun x hx => by simp at hx), Hrefl.out⟩
    case round =>
      clear Hrefl
      obtain ⟨i, hi, rfl, hok, hb⟩ := hrel
      have HO := Lib.hid hok.out
      clear hok
      by_cases hlt2 : i < ss.length
      · obtain ⟨g, off, rfl, hgB, q0, q1⟩ := (HT.out _ hb).at hlt2
        obtain ⟨z0, z1, z2, _⟩ := HX.out wr hb
        have Hb1 := Lib.hid hb
        have hiI : (i : Int) < (ss.length : Int) := by omega
        clear hb
        by_cases hs : swB n ss[i]
        · have HO2 := Lib.hid (show ∀ s ∈ ss.take (i + 1), swB n s from fun s hs' => by
            rw [List.take_succ_eq_append_getElem hlt2, List.mem_append] at hs'
            rcases hs' with h1 | h1
            · exact HO.out s h1
            · rw [List.mem_singleton] at h1; subst h1; exact hs)
          obtain ⟨s1, s2, s3, s4⟩ := hs
          generalize ss[i] = s at *
          obtain ⟨x, y⟩ := s
          simp only at s1 s2 s3 s4 q0 q1 z0 z1 z2 Hb1 ⊢
          have c1 : decide (x < 0) = false := by simp; omega
          have c2 : decide ((n : Int) ≤ x) = false := by simp; omega
          have c3 : decide (y < 0) = false := by simp; omega
          have c4 : decide ((n : Int) ≤ y) = false := by simp; omega
          go_wp2_with fail
          refine wp_region_E (S := fun W => W.cell? ⟨g, off + i * 2, none⟩ = some (.int .i64 x) ∧ W.cell? ⟨g, off + i * 2 + 1, none⟩ = some (.int .i64 y) ∧ W.cell? ⟨w.heap.size, 1, none⟩ = some (.slice AI n cI)) (E := fun _ => false) (by kernel_rfl) ?_
          have hbi : Below wr.heap.size wr wr.drew := (Below.refl _ _).drew
          have hS : wr.drew.cell? ⟨g, off + i * 2, none⟩ = some (.int .i64 x) ∧ wr.drew.cell? ⟨g, off + i * 2 + 1, none⟩ = some (.int .i64 y) ∧ wr.drew.cell? ⟨w.heap.size, 1, none⟩ = some (.slice AI n cI) := ⟨q0, q1, z1⟩
          have Hb2 := Lib.hid (Hb1.out.trans (hbi.mono Hb1.out.size))
          generalize wr.drew = wi0 at hS Hb2 ⊢
          clear hbi q0 q1 z0 z1 z2
          refine anyE_tk 0 15 (oi := ?oi1) (v := ?v1) ?hi1 ?hd1 (by kernel_rfl) (by kernel_rfl) (by kernel_rfl) ?hQ1 ?hy1 hS ?rest1
          case hi1 => simp only [List.getElem?_toArray, List.getElem?_cons_zero, List.getElem?_cons_succ]; rfl
          case hd1 => rfl
          case hQ1 => exact fun _ _ _ h => h
          case hy1 => (refine Or.inl ⟨by rfl, ?_⟩; intro w hSw; (try dsimp only at hSw); go_simp; try with_reducible rfl)
          simp only [List.setIfInBounds_toArray, List.set_cons_zero, List.set_cons_succ]
          refine anyE_tk 1 16 (oi := ?oi2) (v := ?v2) ?hi2 ?hd2 (by kernel_rfl) (by kernel_rfl) (by kernel_rfl) ?hQ2 ?hy2 hS ?rest2
          case hi2 => simp only [List.getElem?_toArray, List.getElem?_cons_zero, List.getElem?_cons_succ]; rfl
          case hd2 => rfl
          case hQ2 => exact fun _ _ _ h => h
          case hy2 => (refine Or.inl ⟨by rfl, ?_⟩; intro w hSw; (try dsimp only at hSw); go_simp; try with_reducible rfl)
          simp only [List.setIfInBounds_toArray, List.set_cons_zero, List.set_cons_succ]
          refine anyE_tk 2 17 (oi := ?oi3) (v := ?v3) ?hi3 ?hd3 (by kernel_rfl) (by kernel_rfl) (by kernel_rfl) ?hQ3 ?hy3 hS ?rest3
          case hi3 => simp only [List.getElem?_toArray, List.getElem?_cons_zero, List.getElem?_cons_succ]; rfl
          case hd3 => rfl
          case hQ3 => exact fun _ _ _ h => h
          case hy3 => (refine Or.inl ⟨by rfl, ?_⟩; intro w hSw; (try dsimp only at hSw); go_simp; try with_reducible rfl)
          simp only [List.setIfInBounds_toArray, List.set_cons_zero, List.set_cons_succ]
          refine anyE_tk 3 18 (oi := ?oi4) (v := ?v4) ?hi4 ?hd4 (by kernel_rfl) (by kernel_rfl) (by kernel_rfl) ?hQ4 ?hy4 hS ?rest4
          case hi4 => simp only [List.getElem?_toArray, List.getElem?_cons_zero, List.getElem?_cons_succ]; rfl
          case hd4 => rfl
          case hQ4 => exact fun _ _ _ h => h
          case hy4 => (refine Or.inl ⟨by rfl, ?_⟩; intro w hSw; (try dsimp only at hSw); go_simp; try with_reducible rfl)
          simp only [List.setIfInBounds_toArray, List.set_cons_zero, List.set_cons_succ]
          refine anyE_tk 4 19 (oi := ?oi5) (v := ?v5) ?hi5 ?hd5 (by kernel_rfl) (by kernel_rfl) (by kernel_rfl) ?hQ5 ?hy5 hS ?rest5
          case hi5 => simp only [List.getElem?_toArray, List.getElem?_cons_zero, List.getElem?_cons_succ]; rfl
          case hd5 => rfl
          case hQ5 => exact fun _ _ _ h => h
          case hy5 => (refine Or.inl ⟨by rfl, ?_⟩; intro w hSw; (try dsimp only at hSw); go_simp; try with_reducible rfl)
          simp only [List.setIfInBounds_toArray, List.set_cons_zero, List.set_cons_succ]
          refine anyE_tk 5 20 (oi := ?oi6) (v := ?v6) ?hi6 ?hd6 (by kernel_rfl) (by kernel_rfl) (by kernel_rfl) ?hQ6 ?hy6 hS ?rest6
          case hi6 => simp only [List.getElem?_toArray, List.getElem?_cons_zero, List.getElem?_cons_succ]; rfl
          case hd6 => rfl
          case hQ6 => exact fun _ _ _ h => h
          case hy6 => (refine Or.inl ⟨by rfl, ?_⟩; intro w hSw; (try dsimp only at hSw); go_simp; try with_reducible rfl)
          simp only [List.setIfInBounds_toArray, List.set_cons_zero, List.set_cons_succ]
          refine anyE_tk 6 21 (oi := ?oi7) (v := ?v7) ?hi7 ?hd7 (by kernel_rfl) (by kernel_rfl) (by kernel_rfl) ?hQ7 ?hy7 hS ?rest7
          case hi7 => simp only [List.getElem?_toArray, List.getElem?_cons_zero, List.getElem?_cons_succ]; rfl
          case hd7 => rfl
          case hQ7 => exact fun _ _ _ h => h
          case hy7 => (refine Or.inl ⟨by rfl, ?_⟩; intro w hSw; (try dsimp only at hSw); go_simp; try with_reducible rfl)
          simp only [List.setIfInBounds_toArray, List.set_cons_zero, List.set_cons_succ]
          refine anyE_tk 7 22 (oi := ?oi8) (v := ?v8) ?hi8 ?hd8 (by kernel_rfl) (by kernel_rfl) (by kernel_rfl) ?hQ8 ?hy8 hS ?rest8
          case hi8 => simp only [List.getElem?_toArray, List.getElem?_cons_zero, List.getElem?_cons_succ]; rfl
          case hd8 => rfl
          case hQ8 => exact fun _ _ _ h => h
          case hy8 => (refine Or.inl ⟨by rfl, ?_⟩; intro w hSw; (try dsimp only at hSw); go_simp; try with_reducible rfl)
          simp only [List.setIfInBounds_toArray, List.set_cons_zero, List.set_cons_succ]
          refine anyE_tk 8 23 (oi := ?oi9) (v := ?v9) ?hi9 ?hd9 (by kernel_rfl) (by kernel_rfl) (by kernel_rfl) ?hQ9 ?hy9 hS ?rest9
          case hi9 => simp only [List.getElem?_toArray, List.getElem?_cons_zero, List.getElem?_cons_succ]; rfl
          case hd9 => rfl
          case hQ9 => exact fun _ _ _ h => h
          case hy9 => (refine Or.inl ⟨by rfl, ?_⟩; intro w hSw; (try dsimp only at hSw); go_simp; try with_reducible rfl)
          simp only [List.setIfInBounds_toArray, List.set_cons_zero, List.set_cons_succ]
          refine anyE_tk 9 24 (oi := ?oi10) (v := ?v10) ?hi10 ?hd10 (by kernel_rfl) (by kernel_rfl) (by kernel_rfl) ?hQ10 ?hy10 hS ?rest10
          case hi10 => simp only [List.getElem?_toArray, List.getElem?_cons_zero, List.getElem?_cons_succ]; rfl
          case hd10 => rfl
          case hQ10 => exact fun _ _ _ h => h
          case hy10 => (refine Or.inl ⟨by rfl, ?_⟩; intro w hSw; (try dsimp only at hSw); go_simp; try with_reducible rfl)
          simp only [List.setIfInBounds_toArray, List.set_cons_zero, List.set_cons_succ]
          refine anyE_tk 10 25 (oi := ?oi11) (v := ?v11) ?hi11 ?hd11 (by kernel_rfl) (by kernel_rfl) (by kernel_rfl) ?hQ11 ?hy11 hS ?rest11
          case hi11 => simp only [List.getElem?_toArray, List.getElem?_cons_zero, List.getElem?_cons_succ]; rfl
          case hd11 => rfl
          case hQ11 => exact fun _ _ _ h => h
          case hy11 => (refine Or.inl ⟨by rfl, ?_⟩; intro w hSw; (try dsimp only at hSw); go_simp; try with_reducible rfl)
          simp only [List.setIfInBounds_toArray, List.set_cons_zero, List.set_cons_succ]
          refine anyE_tk 11 26 (oi := ?oi12) (v := ?v12) ?hi12 ?hd12 (by kernel_rfl) (by kernel_rfl) (by kernel_rfl) ?hQ12 ?hy12 hS ?rest12
          case hi12 => simp only [List.getElem?_toArray, List.getElem?_cons_zero, List.getElem?_cons_succ]; rfl
          case hd12 => rfl
          case hQ12 => exact fun _ _ _ h => h
          case hy12 => (refine Or.inl ⟨by rfl, ?_⟩; intro w hSw; (try dsimp only at hSw); go_simp; try with_reducible rfl)
          simp only [List.setIfInBounds_toArray, List.set_cons_zero, List.set_cons_succ]
          refine anyE_tk 12 27 (oi := ?oi13) (v := ?v13) ?hi13 ?hd13 (by kernel_rfl) (by kernel_rfl) (by kernel_rfl) ?hQ13 ?hy13 hS ?rest13
          case hi13 => simp only [List.getElem?_toArray, List.getElem?_cons_zero, List.getElem?_cons_succ]; rfl
          case hd13 => rfl
          case hQ13 => exact fun _ _ _ h => h
          case hy13 => (refine Or.inl ⟨by rfl, ?_⟩; intro w hSw; (try dsimp only at hSw); go_simp; try with_reducible rfl)
          simp only [List.setIfInBounds_toArray, List.set_cons_zero, List.set_cons_succ]
          refine anyE_tk 13 28 (oi := ?oi14) (v := ?v14) ?hi14 ?hd14 (by kernel_rfl) (by kernel_rfl) (by kernel_rfl) ?hQ14 ?hy14 hS ?rest14
          case hi14 => simp only [List.getElem?_toArray, List.getElem?_cons_zero, List.getElem?_cons_succ]; rfl
          case hd14 => rfl
          case hQ14 => exact fun _ _ _ h => h
          case hy14 => (refine Or.inl ⟨by rfl, ?_⟩; intro w hSw; (try dsimp only at hSw); go_simp; try with_reducible rfl)
          simp only [List.setIfInBounds_toArray, List.set_cons_zero, List.set_cons_succ]
          refine anyE_tk 14 29 (oi := ?oi15) (v := ?v15) ?hi15 ?hd15 (by kernel_rfl) (by kernel_rfl) (by kernel_rfl) ?hQ15 ?hy15 hS ?rest15
          case hi15 => simp only [List.getElem?_toArray, List.getElem?_cons_zero, List.getElem?_cons_succ]; rfl
          case hd15 => rfl
          case hQ15 => exact fun _ _ _ h => h
          case hy15 => (refine Or.inl ⟨by rfl, ?_⟩; intro w hSw; (try dsimp only at hSw); go_simp; try with_reducible rfl)
          simp only [List.setIfInBounds_toArray, List.set_cons_zero, List.set_cons_succ]
          refine anyE_tk 15 30 (oi := ?oi16) (v := ?v16) ?hi16 ?hd16 (by kernel_rfl) (by kernel_rfl) (by kernel_rfl) ?hQ16 ?hy16 hS ?rest16
          case hi16 => simp only [List.getElem?_toArray, List.getElem?_cons_zero, List.getElem?_cons_succ]; rfl
          case hd16 => rfl
          case hQ16 => exact fun _ _ _ h => h
          case hy16 => (refine Or.inl ⟨by rfl, ?_⟩; intro w hSw; (try dsimp only at hSw); go_simp; try with_reducible rfl)
          simp only [List.setIfInBounds_toArray, List.set_cons_zero, List.set_cons_succ]
          refine anyE_tk 16 31 (oi := ?oi17) (v := ?v17) ?hi17 ?hd17 (by kernel_rfl) (by kernel_rfl) (by kernel_rfl) ?hQ17 ?hy17 hS ?rest17
          case hi17 => simp only [List.getElem?_toArray, List.getElem?_cons_zero, List.getElem?_cons_succ]; rfl
          case hd17 => rfl
          case hQ17 => exact fun _ _ _ h => h
          case hy17 => (refine Or.inl ⟨by rfl, ?_⟩; intro w hSw; (try dsimp only at hSw); go_simp; try with_reducible rfl)
          simp only [List.setIfInBounds_toArray, List.set_cons_zero, List.set_cons_succ]
          refine anyE_tk 17 32 (oi := ?oi18) (v := ?v18) ?hi18 ?hd18 (by kernel_rfl) (by kernel_rfl) (by kernel_rfl) ?hQ18 ?hy18 hS ?rest18
          case hi18 => simp only [List.getElem?_toArray, List.getElem?_cons_zero, List.getElem?_cons_succ]; rfl
          case hd18 => rfl
          case hQ18 => exact fun _ _ _ h => h
          case hy18 => (refine Or.inl ⟨by rfl, ?_⟩; intro w hSw; (try dsimp only at hSw); go_simp; try with_reducible rfl)
          simp only [List.setIfInBounds_toArray, List.set_cons_zero, List.set_cons_succ]
          refine anyE_tk 18 33 (oi := ?oi19) (v := ?v19) ?hi19 ?hd19 (by kernel_rfl) (by kernel_rfl) (by kernel_rfl) ?hQ19 ?hy19 hS ?rest19
          case hi19 => simp only [List.getElem?_toArray, List.getElem?_cons_zero, List.getElem?_cons_succ]; rfl
          case hd19 => rfl
          case hQ19 => exact fun _ _ _ h => h
          case hy19 => (refine Or.inl ⟨by rfl, ?_⟩; intro w hSw; (try dsimp only at hSw); go_simp; try with_reducible rfl)
          simp only [List.setIfInBounds_toArray, List.set_cons_zero, List.set_cons_succ]
          refine anyE_tk 19 34 (oi := ?oi20) (v := ?v20) ?hi20 ?hd20 (by kernel_rfl) (by kernel_rfl) (by kernel_rfl) ?hQ20 ?hy20 hS ?rest20
          case hi20 => simp only [List.getElem?_toArray, List.getElem?_cons_zero, List.getElem?_cons_succ]; rfl
          case hd20 => rfl
          case hQ20 => exact fun _ _ _ h => h
          case hy20 => (refine Or.inl ⟨by rfl, ?_⟩; intro w hSw; (try dsimp only at hSw); go_simp; try with_reducible rfl)
          simp only [List.setIfInBounds_toArray, List.set_cons_zero, List.set_cons_succ]
          refine anyE_tk 20 35 (oi := ?oi21) (v := ?v21) ?hi21 ?hd21 (by kernel_rfl) (by kernel_rfl) (by kernel_rfl) ?hQ21 ?hy21 hS ?rest21
          case hi21 => simp only [List.getElem?_toArray, List.getElem?_cons_zero, List.getElem?_cons_succ]; rfl
          case hd21 => rfl
          case hQ21 => exact fun _ _ _ h => h
          case hy21 => (refine Or.inl ⟨by rfl, ?_⟩; intro w hSw; (try dsimp only at hSw); go_simp; try with_reducible rfl)
          simp only [List.setIfInBounds_toArray, List.set_cons_zero, List.set_cons_succ]
          refine anyE_tk 21 36 (oi := ?oi22) (v := ?v22) ?hi22 ?hd22 (by kernel_rfl) (by kernel_rfl) (by kernel_rfl) ?hQ22 ?hy22 hS ?rest22
          case hi22 => simp only [List.getElem?_toArray, List.getElem?_cons_zero, List.getElem?_cons_succ]; rfl
          case hd22 => rfl
          case hQ22 => exact fun _ _ _ h => h
          case hy22 => (refine Or.inl ⟨by rfl, ?_⟩; intro w hSw; (try dsimp only at hSw); go_simp; try with_reducible rfl)
          simp only [List.setIfInBounds_toArray, List.set_cons_zero, List.set_cons_succ]
          refine anyE_tk 22 37 (oi := ?oi23) (v := ?v23) ?hi23 ?hd23 (by kernel_rfl) (by kernel_rfl) (by kernel_rfl) ?hQ23 ?hy23 hS ?rest23
          case hi23 => simp only [List.getElem?_toArray, List.getElem?_cons_zero, List.getElem?_cons_succ]; rfl
          case hd23 => rfl
          case hQ23 => exact fun _ _ _ h => h
          case hy23 => (refine Or.inl ⟨by rfl, ?_⟩; intro w hSw; (try dsimp only at hSw); go_simp; try with_reducible rfl)
          simp only [List.setIfInBounds_toArray, List.set_cons_zero, List.set_cons_succ]
          refine anyE_tk 23 38 (oi := ?oi24) (v := ?v24) ?hi24 ?hd24 (by kernel_rfl) (by kernel_rfl) (by kernel_rfl) ?hQ24 ?hy24 hS ?rest24
          case hi24 => simp only [List.getElem?_toArray, List.getElem?_cons_zero, List.getElem?_cons_succ]; rfl
          case hd24 => rfl
          case hQ24 => exact fun _ _ _ h => h
          case hy24 => (refine Or.inl ⟨by rfl, ?_⟩; intro w hSw; (try dsimp only at hSw); go_simp; try with_reducible rfl)
          simp only [List.setIfInBounds_toArray, List.set_cons_zero, List.set_cons_succ]
          refine anyE_tk 24 39 (oi := ?oi25) (v := ?v25) ?hi25 ?hd25 (by kernel_rfl) (by kernel_rfl) (by kernel_rfl) ?hQ25 ?hy25 hS ?rest25
          case hi25 => simp only [List.getElem?_toArray, List.getElem?_cons_zero, List.getElem?_cons_succ]; rfl
          case hd25 => rfl
          case hQ25 => exact fun _ _ _ h => h
          case hy25 => (refine Or.inl ⟨by rfl, ?_⟩; intro w hSw; (try dsimp only at hSw); go_simp; try with_reducible rfl)
          simp only [List.setIfInBounds_toArray, List.set_cons_zero, List.set_cons_succ]
          refine anyE_tk 25 40 (oi := ?oi26) (v := ?v26) ?hi26 ?hd26 (by kernel_rfl) (by kernel_rfl) (by kernel_rfl) ?hQ26 ?hy26 hS ?rest26
          case hi26 => simp only [List.getElem?_toArray, List.getElem?_cons_zero, List.getElem?_cons_succ]; rfl
          case hd26 => rfl
          case hQ26 => exact fun _ _ _ h => h
          case hy26 => (refine Or.inl ⟨by rfl, ?_⟩; intro w hSw; (try dsimp only at hSw); go_simp; try with_reducible rfl)
          simp only [List.setIfInBounds_toArray, List.set_cons_zero, List.set_cons_succ]
          refine anyE_tk 26 41 (oi := ?oi27) (v := ?v27) ?hi27 ?hd27 (by kernel_rfl) (by kernel_rfl) (by kernel_rfl) ?hQ27 ?hy27 hS ?rest27
          case hi27 => simp only [List.getElem?_toArray, List.getElem?_cons_zero, List.getElem?_cons_succ]; rfl
          case hd27 => rfl
          case hQ27 => exact fun _ _ _ h => h
          case hy27 => (refine Or.inl ⟨by rfl, ?_⟩; intro w hSw; (try dsimp only at hSw); go_simp; try with_reducible rfl)
          simp only [List.setIfInBounds_toArray, List.set_cons_zero, List.set_cons_succ]
          refine anyE_tk 27 42 (oi := ?oi28) (v := ?v28) ?hi28 ?hd28 (by kernel_rfl) (by kernel_rfl) (by kernel_rfl) ?hQ28 ?hy28 hS ?rest28
          case hi28 => simp only [List.getElem?_toArray, List.getElem?_cons_zero, List.getElem?_cons_succ]; rfl
          case hd28 => rfl
          case hQ28 => exact fun _ _ _ h => h
          case hy28 => (refine Or.inl ⟨by rfl, ?_⟩; intro w hSw; (try dsimp only at hSw); go_simp; try with_reducible rfl)
          simp only [List.setIfInBounds_toArray, List.set_cons_zero, List.set_cons_succ]
          refine anyE_tk 28 43 (oi := ?oi29) (v := ?v29) ?hi29 ?hd29 (by kernel_rfl) (by kernel_rfl) (by kernel_rfl) ?hQ29 ?hy29 hS ?rest29
          case hi29 => simp only [List.getElem?_toArray, List.getElem?_cons_zero, List.getElem?_cons_succ]; rfl
          case hd29 => rfl
          case hQ29 => exact fun _ _ _ h => h
          case hy29 => (refine Or.inl ⟨by rfl, ?_⟩; intro w hSw; (try dsimp only at hSw); go_simp; try with_reducible rfl)
          simp only [List.setIfInBounds_toArray, List.set_cons_zero, List.set_cons_succ]
          refine anyE_tk 29 44 (oi := ?oi30) (v := ?v30) ?hi30 ?hd30 (by kernel_rfl) (by kernel_rfl) (by kernel_rfl) ?hQ30 ?hy30 hS ?rest30
          case hi30 => simp only [List.getElem?_toArray, List.getElem?_cons_zero, List.getElem?_cons_succ]; rfl
          case hd30 => rfl
          case hQ30 => exact fun _ _ _ h => h
          case hy30 => (refine Or.inl ⟨by rfl, ?_⟩; intro w hSw; (try dsimp only at hSw); go_simp; try with_reducible rfl)
          simp only [List.setIfInBounds_toArray, List.set_cons_zero, List.set_cons_succ]
          refine anyE_tk 30 45 (oi := ?oi31) (v := ?v31) ?hi31 ?hd31 (by kernel_rfl) (by kernel_rfl) (by kernel_rfl) ?hQ31 ?hy31 hS ?rest31
          case hi31 => simp only [List.getElem?_toArray, List.getElem?_cons_zero, List.getElem?_cons_succ]; rfl
          case hd31 => rfl
          case hQ31 => exact fun _ _ _ h => h
          case hy31 => (refine Or.inl ⟨by rfl, ?_⟩; intro w hSw; (try dsimp only at hSw); go_simp; try with_reducible rfl)
          simp only [List.setIfInBounds_toArray, List.set_cons_zero, List.set_cons_succ]
          refine anyE_tk 31 46 (oi := ?oi32) (v := ?v32) ?hi32 ?hd32 (by kernel_rfl) (by kernel_rfl) (by kernel_rfl) ?hQ32 ?hy32 hS ?rest32
          case hi32 => simp only [List.getElem?_toArray, List.getElem?_cons_zero, List.getElem?_cons_succ]; rfl
          case hd32 => rfl
          case hQ32 => exact fun _ _ _ h => h
          case hy32 => (refine Or.inl ⟨by rfl, ?_⟩; intro w hSw; (try dsimp only at hSw); go_simp; try with_reducible rfl)
          simp only [List.setIfInBounds_toArray, List.set_cons_zero, List.set_cons_succ]
          refine anyE_tk 32 47 (oi := ?oi33) (v := ?v33) ?hi33 ?hd33 (by kernel_rfl) (by kernel_rfl) (by kernel_rfl) ?hQ33 ?hy33 hS ?rest33
          case hi33 => simp only [List.getElem?_toArray, List.getElem?_cons_zero, List.getElem?_cons_succ]; rfl
          case hd33 => rfl
          case hQ33 => exact fun _ _ _ h => h
          case hy33 => (refine Or.inl ⟨by rfl, ?_⟩; intro w hSw; (try dsimp only at hSw); go_simp; try with_reducible rfl)
          simp only [List.setIfInBounds_toArray, List.set_cons_zero, List.set_cons_succ]
          refine anyE_tk 33 48 (oi := ?oi34) (v := ?v34) ?hi34 ?hd34 (by kernel_rfl) (by kernel_rfl) (by kernel_rfl) ?hQ34 ?hy34 hS ?rest34
          case hi34 => simp only [List.getElem?_toArray, List.getElem?_cons_zero, List.getElem?_cons_succ]; rfl
          case hd34 => rfl
          case hQ34 => exact fun _ _ _ h => h
          case hy34 => (refine Or.inl ⟨by rfl, ?_⟩; intro w hSw; (try dsimp only at hSw); go_simp; try with_reducible rfl)
          simp only [List.setIfInBounds_toArray, List.set_cons_zero, List.set_cons_succ]
          refine anyE_tk 34 49 (oi := ?oi35) (v := ?v35) ?hi35 ?hd35 (by kernel_rfl) (by kernel_rfl) (by kernel_rfl) ?hQ35 ?hy35 hS ?rest35
          case hi35 => simp only [List.getElem?_toArray, List.getElem?_cons_zero, List.getElem?_cons_succ]; rfl
          case hd35 => rfl
          case hQ35 => exact fun _ _ _ h => h
          case hy35 => (refine Or.inl ⟨by rfl, ?_⟩; intro w hSw; (try dsimp only at hSw); go_simp; try with_reducible rfl)
          simp only [List.setIfInBounds_toArray, List.set_cons_zero, List.set_cons_succ]
          refine anyE_tk 35 50 (oi := ?oi36) (v := ?v36) ?hi36 ?hd36 (by kernel_rfl) (by kernel_rfl) (by kernel_rfl) ?hQ36 ?hy36 hS ?rest36
          case hi36 => simp only [List.getElem?_toArray, List.getElem?_cons_zero, List.getElem?_cons_succ]; rfl
          case hd36 => rfl
          case hQ36 => exact fun _ _ _ h => h
          case hy36 => (refine Or.inl ⟨by rfl, ?_⟩; intro w hSw; (try dsimp only at hSw); go_simp; try with_reducible rfl)
          simp only [List.setIfInBounds_toArray, List.set_cons_zero, List.set_cons_succ]
          clear hS
          refine anyE_done (by kernel_rfl) ?_ _
          go_wp2_with fail
          go_roundw
          case rel => exact ⟨i + 1, by omega, by go_num, HO2.out, Hb2.out⟩
          case measure => simp [intOf]; omega
        · have HR := Lib.hid (Hbd.out i hlt2 hs)
          unfold swB at hs
          have hs2 := Lib.hid hs
          clear hs HO Hbd Hg
          generalize ss[i] = s at *
          obtain ⟨x, y⟩ := s
          simp only at q0 q1 z0 z1 z2 Hb1 hs2 ⊢
          by_cases s1 : 0 ≤ x
          · by_cases s2 : x < (n : Int)
            · by_cases s3 : 0 ≤ y
              · have s4 : (n : Int) ≤ y := by have := hs2.out; omega
                clear hs2
                have c1 : decide (x < 0) = false := by simp; omega
                have c2 : decide ((n : Int) ≤ x) = false := by simp; omega
                have c3 : decide (y < 0) = false := by simp; omega
                have c4 : decide ((n : Int) ≤ y) = true := by simp; omega
                go_wp2_with fail
                refine wp_region_E (S := fun W => W.cell? ⟨g, off + i * 2, none⟩ = some (.int .i64 x) ∧ W.cell? ⟨g, off + i * 2 + 1, none⟩ = some (.int .i64 y) ∧ W.cell? ⟨w.heap.size, 1, none⟩ = some (.slice AI n cI)) (E := fun _ => false) (by kernel_rfl) ?_
                have hbi : Below wr.heap.size wr wr.drew := (Below.refl _ _).drew
                have hS : wr.drew.cell? ⟨g, off + i * 2, none⟩ = some (.int .i64 x) ∧ wr.drew.cell? ⟨g, off + i * 2 + 1, none⟩ = some (.int .i64 y) ∧ wr.drew.cell? ⟨w.heap.size, 1, none⟩ = some (.slice AI n cI) := ⟨q0, q1, z1⟩
                have Hb2 := Lib.hid (Hb1.out.trans (hbi.mono Hb1.out.size))
                generalize wr.drew = wi0 at hS Hb2 ⊢
                clear hbi q0 q1 z0 z1 z2
                refine anyE_tk 0 15 (oi := ?oi37) (v := ?v37) ?hi37 ?hd37 (by kernel_rfl) (by kernel_rfl) (by kernel_rfl) ?hQ37 ?hy37 hS ?rest37
                case hi37 => simp only [List.getElem?_toArray, List.getElem?_cons_zero, List.getElem?_cons_succ]; rfl
                case hd37 => rfl
                case hQ37 => exact fun _ _ _ h => h
                case hy37 => (refine Or.inl ⟨by rfl, ?_⟩; intro w hSw; (try dsimp only at hSw); go_simp; try with_reducible rfl)
                simp only [List.setIfInBounds_toArray, List.set_cons_zero, List.set_cons_succ]
                refine anyE_tk 1 16 (oi := ?oi38) (v := ?v38) ?hi38 ?hd38 (by kernel_rfl) (by kernel_rfl) (by kernel_rfl) ?hQ38 ?hy38 hS ?rest38
                case hi38 => simp only [List.getElem?_toArray, List.getElem?_cons_zero, List.getElem?_cons_succ]; rfl
                case hd38 => rfl
                case hQ38 => exact fun _ _ _ h => h
                case hy38 => (refine Or.inl ⟨by rfl, ?_⟩; intro w hSw; (try dsimp only at hSw); go_simp; try with_reducible rfl)
                simp only [List.setIfInBounds_toArray, List.set_cons_zero, List.set_cons_succ]
                refine anyE_tk 2 17 (oi := ?oi39) (v := ?v39) ?hi39 ?hd39 (by kernel_rfl) (by kernel_rfl) (by kernel_rfl) ?hQ39 ?hy39 hS ?rest39
                case hi39 => simp only [List.getElem?_toArray, List.getElem?_cons_zero, List.getElem?_cons_succ]; rfl
                case hd39 => rfl
                case hQ39 => exact fun _ _ _ h => h
                case hy39 => (refine Or.inl ⟨by rfl, ?_⟩; intro w hSw; (try dsimp only at hSw); go_simp; try with_reducible rfl)
                simp only [List.setIfInBounds_toArray, List.set_cons_zero, List.set_cons_succ]
                refine anyE_tk 3 18 (oi := ?oi40) (v := ?v40) ?hi40 ?hd40 (by kernel_rfl) (by kernel_rfl) (by kernel_rfl) ?hQ40 ?hy40 hS ?rest40
                case hi40 => simp only [List.getElem?_toArray, List.getElem?_cons_zero, List.getElem?_cons_succ]; rfl
                case hd40 => rfl
                case hQ40 => exact fun _ _ _ h => h
                case hy40 => (refine Or.inl ⟨by rfl, ?_⟩; intro w hSw; (try dsimp only at hSw); go_simp; try with_reducible rfl)
                simp only [List.setIfInBounds_toArray, List.set_cons_zero, List.set_cons_succ]
                refine anyE_tk 4 19 (oi := ?oi41) (v := ?v41) ?hi41 ?hd41 (by kernel_rfl) (by kernel_rfl) (by kernel_rfl) ?hQ41 ?hy41 hS ?rest41
                case hi41 => simp only [List.getElem?_toArray, List.getElem?_cons_zero, List.getElem?_cons_succ]; rfl
                case hd41 => rfl
                case hQ41 => exact fun _ _ _ h => h
                case hy41 => (refine Or.inl ⟨by rfl, ?_⟩; intro w hSw; (try dsimp only at hSw); go_simp; try with_reducible rfl)
                simp only [List.setIfInBounds_toArray, List.set_cons_zero, List.set_cons_succ]
                refine anyE_tk 5 20 (oi := ?oi42) (v := ?v42) ?hi42 ?hd42 (by kernel_rfl) (by kernel_rfl) (by kernel_rfl) ?hQ42 ?hy42 hS ?rest42
                case hi42 => simp only [List.getElem?_toArray, List.getElem?_cons_zero, List.getElem?_cons_succ]; rfl
                case hd42 => rfl
                case hQ42 => exact fun _ _ _ h => h
                case hy42 => (refine Or.inl ⟨by rfl, ?_⟩; intro w hSw; (try dsimp only at hSw); go_simp; try with_reducible rfl)
                simp only [List.setIfInBounds_toArray, List.set_cons_zero, List.set_cons_succ]
                refine anyE_tk 6 21 (oi := ?oi43) (v := ?v43) ?hi43 ?hd43 (by kernel_rfl) (by kernel_rfl) (by kernel_rfl) ?hQ43 ?hy43 hS ?rest43
                case hi43 => simp only [List.getElem?_toArray, List.getElem?_cons_zero, List.getElem?_cons_succ]; rfl
                case hd43 => rfl
                case hQ43 => exact fun _ _ _ h => h
                case hy43 => (refine Or.inl ⟨by rfl, ?_⟩; intro w hSw; (try dsimp only at hSw); go_simp; try with_reducible rfl)
                simp only [List.setIfInBounds_toArray, List.set_cons_zero, List.set_cons_succ]
                refine anyE_tk 7 22 (oi := ?oi44) (v := ?v44) ?hi44 ?hd44 (by kernel_rfl) (by kernel_rfl) (by kernel_rfl) ?hQ44 ?hy44 hS ?rest44
                case hi44 => simp only [List.getElem?_toArray, List.getElem?_cons_zero, List.getElem?_cons_succ]; rfl
                case hd44 => rfl
                case hQ44 => exact fun _ _ _ h => h
                case hy44 => (refine Or.inl ⟨by rfl, ?_⟩; intro w hSw; (try dsimp only at hSw); go_simp; try with_reducible rfl)
                simp only [List.setIfInBounds_toArray, List.set_cons_zero, List.set_cons_succ]
                refine anyE_tk 8 23 (oi := ?oi45) (v := ?v45) ?hi45 ?hd45 (by kernel_rfl) (by kernel_rfl) (by kernel_rfl) ?hQ45 ?hy45 hS ?rest45
                case hi45 => simp only [List.getElem?_toArray, List.getElem?_cons_zero, List.getElem?_cons_succ]; rfl
                case hd45 => rfl
                case hQ45 => exact fun _ _ _ h => h
                case hy45 => (refine Or.inl ⟨by rfl, ?_⟩; intro w hSw; (try dsimp only at hSw); go_simp; try with_reducible rfl)
                simp only [List.setIfInBounds_toArray, List.set_cons_zero, List.set_cons_succ]
                refine anyE_tk 9 24 (oi := ?oi46) (v := ?v46) ?hi46 ?hd46 (by kernel_rfl) (by kernel_rfl) (by kernel_rfl) ?hQ46 ?hy46 hS ?rest46
                case hi46 => simp only [List.getElem?_toArray, List.getElem?_cons_zero, List.getElem?_cons_succ]; rfl
                case hd46 => rfl
                case hQ46 => exact fun _ _ _ h => h
                case hy46 => (refine Or.inl ⟨by rfl, ?_⟩; intro w hSw; (try dsimp only at hSw); go_simp; try with_reducible rfl)
                simp only [List.setIfInBounds_toArray, List.set_cons_zero, List.set_cons_succ]
                refine anyE_tk 10 25 (oi := ?oi47) (v := ?v47) ?hi47 ?hd47 (by kernel_rfl) (by kernel_rfl) (by kernel_rfl) ?hQ47 ?hy47 hS ?rest47
                case hi47 => simp only [List.getElem?_toArray, List.getElem?_cons_zero, List.getElem?_cons_succ]; rfl
                case hd47 => rfl
                case hQ47 => exact fun _ _ _ h => h
                case hy47 => (refine Or.inl ⟨by rfl, ?_⟩; intro w hSw; (try dsimp only at hSw); go_simp; try with_reducible rfl)
                simp only [List.setIfInBounds_toArray, List.set_cons_zero, List.set_cons_succ]
                refine anyE_tk 11 26 (oi := ?oi48) (v := ?v48) ?hi48 ?hd48 (by kernel_rfl) (by kernel_rfl) (by kernel_rfl) ?hQ48 ?hy48 hS ?rest48
                case hi48 => simp only [List.getElem?_toArray, List.getElem?_cons_zero, List.getElem?_cons_succ]; rfl
                case hd48 => rfl
                case hQ48 => exact fun _ _ _ h => h
                case hy48 => (refine Or.inl ⟨by rfl, ?_⟩; intro w hSw; (try dsimp only at hSw); go_simp; try with_reducible rfl)
                simp only [List.setIfInBounds_toArray, List.set_cons_zero, List.set_cons_succ]
                refine anyE_tk 12 27 (oi := ?oi49) (v := ?v49) ?hi49 ?hd49 (by kernel_rfl) (by kernel_rfl) (by kernel_rfl) ?hQ49 ?hy49 hS ?rest49
                case hi49 => simp only [List.getElem?_toArray, List.getElem?_cons_zero, List.getElem?_cons_succ]; rfl
                case hd49 => rfl
                case hQ49 => exact fun _ _ _ h => h
                case hy49 => (refine Or.inl ⟨by rfl, ?_⟩; intro w hSw; (try dsimp only at hSw); go_simp; try with_reducible rfl)
                simp only [List.setIfInBounds_toArray, List.set_cons_zero, List.set_cons_succ]
                refine anyE_tk 13 28 (oi := ?oi50) (v := ?v50) ?hi50 ?hd50 (by kernel_rfl) (by kernel_rfl) (by kernel_rfl) ?hQ50 ?hy50 hS ?rest50
                case hi50 => simp only [List.getElem?_toArray, List.getElem?_cons_zero, List.getElem?_cons_succ]; rfl
                case hd50 => rfl
                case hQ50 => exact fun _ _ _ h => h
                case hy50 => (refine Or.inl ⟨by rfl, ?_⟩; intro w hSw; (try dsimp only at hSw); go_simp; try with_reducible rfl)
                simp only [List.setIfInBounds_toArray, List.set_cons_zero, List.set_cons_succ]
                refine anyE_tk 14 29 (oi := ?oi51) (v := ?v51) ?hi51 ?hd51 (by kernel_rfl) (by kernel_rfl) (by kernel_rfl) ?hQ51 ?hy51 hS ?rest51
                case hi51 => simp only [List.getElem?_toArray, List.getElem?_cons_zero, List.getElem?_cons_succ]; rfl
                case hd51 => rfl
                case hQ51 => exact fun _ _ _ h => h
                case hy51 => (refine Or.inl ⟨by rfl, ?_⟩; intro w hSw; (try dsimp only at hSw); go_simp; try with_reducible rfl)
                simp only [List.setIfInBounds_toArray, List.set_cons_zero, List.set_cons_succ]
                refine anyE_tk 15 30 (oi := ?oi52) (v := ?v52) ?hi52 ?hd52 (by kernel_rfl) (by kernel_rfl) (by kernel_rfl) ?hQ52 ?hy52 hS ?rest52
                case hi52 => simp only [List.getElem?_toArray, List.getElem?_cons_zero, List.getElem?_cons_succ]; rfl
                case hd52 => rfl
                case hQ52 => exact fun _ _ _ h => h
                case hy52 => (refine Or.inl ⟨by rfl, ?_⟩; intro w hSw; (try dsimp only at hSw); go_simp; try with_reducible rfl)
                simp only [List.setIfInBounds_toArray, List.set_cons_zero, List.set_cons_succ]
                refine anyE_tk 16 31 (oi := ?oi53) (v := ?v53) ?hi53 ?hd53 (by kernel_rfl) (by kernel_rfl) (by kernel_rfl) ?hQ53 ?hy53 hS ?rest53
                case hi53 => simp only [List.getElem?_toArray, List.getElem?_cons_zero, List.getElem?_cons_succ]; rfl
                case hd53 => rfl
                case hQ53 => exact fun _ _ _ h => h
                case hy53 => (refine Or.inl ⟨by rfl, ?_⟩; intro w hSw; (try dsimp only at hSw); go_simp; try with_reducible rfl)
                simp only [List.setIfInBounds_toArray, List.set_cons_zero, List.set_cons_succ]
                refine anyE_tk 17 32 (oi := ?oi54) (v := ?v54) ?hi54 ?hd54 (by kernel_rfl) (by kernel_rfl) (by kernel_rfl) ?hQ54 ?hy54 hS ?rest54
                case hi54 => simp only [List.getElem?_toArray, List.getElem?_cons_zero, List.getElem?_cons_succ]; rfl
                case hd54 => rfl
                case hQ54 => exact fun _ _ _ h => h
                case hy54 => (refine Or.inl ⟨by rfl, ?_⟩; intro w hSw; (try dsimp only at hSw); go_simp; try with_reducible rfl)
                simp only [List.setIfInBounds_toArray, List.set_cons_zero, List.set_cons_succ]
                refine anyE_tk 18 33 (oi := ?oi55) (v := ?v55) ?hi55 ?hd55 (by kernel_rfl) (by kernel_rfl) (by kernel_rfl) ?hQ55 ?hy55 hS ?rest55
                case hi55 => simp only [List.getElem?_toArray, List.getElem?_cons_zero, List.getElem?_cons_succ]; rfl
                case hd55 => rfl
                case hQ55 => exact fun _ _ _ h => h
                case hy55 => (refine Or.inl ⟨by rfl, ?_⟩; intro w hSw; (try dsimp only at hSw); go_simp; try with_reducible rfl)
                simp only [List.setIfInBounds_toArray, List.set_cons_zero, List.set_cons_succ]
                refine anyE_tk 19 34 (oi := ?oi56) (v := ?v56) ?hi56 ?hd56 (by kernel_rfl) (by kernel_rfl) (by kernel_rfl) ?hQ56 ?hy56 hS ?rest56
                case hi56 => simp only [List.getElem?_toArray, List.getElem?_cons_zero, List.getElem?_cons_succ]; rfl
                case hd56 => rfl
                case hQ56 => exact fun _ _ _ h => h
                case hy56 => (refine Or.inl ⟨by rfl, ?_⟩; intro w hSw; (try dsimp only at hSw); go_simp; try with_reducible rfl)
                simp only [List.setIfInBounds_toArray, List.set_cons_zero, List.set_cons_succ]
                refine anyE_tk 20 35 (oi := ?oi57) (v := ?v57) ?hi57 ?hd57 (by kernel_rfl) (by kernel_rfl) (by kernel_rfl) ?hQ57 ?hy57 hS ?rest57
                case hi57 => simp only [List.getElem?_toArray, List.getElem?_cons_zero, List.getElem?_cons_succ]; rfl
                case hd57 => rfl
                case hQ57 => exact fun _ _ _ h => h
                case hy57 => (refine Or.inl ⟨by rfl, ?_⟩; intro w hSw; (try dsimp only at hSw); go_simp; try with_reducible rfl)
                simp only [List.setIfInBounds_toArray, List.set_cons_zero, List.set_cons_succ]
                refine anyE_tk 21 36 (oi := ?oi58) (v := ?v58) ?hi58 ?hd58 (by kernel_rfl) (by kernel_rfl) (by kernel_rfl) ?hQ58 ?hy58 hS ?rest58
                case hi58 => simp only [List.getElem?_toArray, List.getElem?_cons_zero, List.getElem?_cons_succ]; rfl
                case hd58 => rfl
                case hQ58 => exact fun _ _ _ h => h
                case hy58 => (refine Or.inl ⟨by rfl, ?_⟩; intro w hSw; (try dsimp only at hSw); go_simp; try with_reducible rfl)
                simp only [List.setIfInBounds_toArray, List.set_cons_zero, List.set_cons_succ]
                refine anyE_tk 22 37 (oi := ?oi59) (v := ?v59) ?hi59 ?hd59 (by kernel_rfl) (by kernel_rfl) (by kernel_rfl) ?hQ59 ?hy59 hS ?rest59
                case hi59 => simp only [List.getElem?_toArray, List.getElem?_cons_zero, List.getElem?_cons_succ]; rfl
                case hd59 => rfl
                case hQ59 => exact fun _ _ _ h => h
                case hy59 => (refine Or.inl ⟨by rfl, ?_⟩; intro w hSw; (try dsimp only at hSw); go_simp; try with_reducible rfl)
                simp only [List.setIfInBounds_toArray, List.set_cons_zero, List.set_cons_succ]
                refine anyE_tk 23 38 (oi := ?oi60) (v := ?v60) ?hi60 ?hd60 (by kernel_rfl) (by kernel_rfl) (by kernel_rfl) ?hQ60 ?hy60 hS ?rest60
                case hi60 => simp only [List.getElem?_toArray, List.getElem?_cons_zero, List.getElem?_cons_succ]; rfl
                case hd60 => rfl
                case hQ60 => exact fun _ _ _ h => h
                case hy60 => (refine Or.inl ⟨by rfl, ?_⟩; intro w hSw; (try dsimp only at hSw); go_simp; try with_reducible rfl)
                simp only [List.setIfInBounds_toArray, List.set_cons_zero, List.set_cons_succ]
                refine anyE_tk 24 39 (oi := ?oi61) (v := ?v61) ?hi61 ?hd61 (by kernel_rfl) (by kernel_rfl) (by kernel_rfl) ?hQ61 ?hy61 hS ?rest61
                case hi61 => simp only [List.getElem?_toArray, List.getElem?_cons_zero, List.getElem?_cons_succ]; rfl
                case hd61 => rfl
                case hQ61 => exact fun _ _ _ h => h
                case hy61 => (refine Or.inl ⟨by rfl, ?_⟩; intro w hSw; (try dsimp only at hSw); go_simp; try with_reducible rfl)
                simp only [List.setIfInBounds_toArray, List.set_cons_zero, List.set_cons_succ]
                refine anyE_tk 25 40 (oi := ?oi62) (v := ?v62) ?hi62 ?hd62 (by kernel_rfl) (by kernel_rfl) (by kernel_rfl) ?hQ62 ?hy62 hS ?rest62
                case hi62 => simp only [List.getElem?_toArray, List.getElem?_cons_zero, List.getElem?_cons_succ]; rfl
                case hd62 => rfl
                case hQ62 => exact fun _ _ _ h => h
                case hy62 => (refine Or.inl ⟨by rfl, ?_⟩; intro w hSw; (try dsimp only at hSw); go_simp; try with_reducible rfl)
                simp only [List.setIfInBounds_toArray, List.set_cons_zero, List.set_cons_succ]
                refine anyE_tk 26 41 (oi := ?oi63) (v := ?v63) ?hi63 ?hd63 (by kernel_rfl) (by kernel_rfl) (by kernel_rfl) ?hQ63 ?hy63 hS ?rest63
                case hi63 => simp only [List.getElem?_toArray, List.getElem?_cons_zero, List.getElem?_cons_succ]; rfl
                case hd63 => rfl
                case hQ63 => exact fun _ _ _ h => h
                case hy63 => (refine Or.inl ⟨by rfl, ?_⟩; intro w hSw; (try dsimp only at hSw); go_simp; try with_reducible rfl)
                simp only [List.setIfInBounds_toArray, List.set_cons_zero, List.set_cons_succ]
                refine anyE_tk 27 42 (oi := ?oi64) (v := ?v64) ?hi64 ?hd64 (by kernel_rfl) (by kernel_rfl) (by kernel_rfl) ?hQ64 ?hy64 hS ?rest64
                case hi64 => simp only [List.getElem?_toArray, List.getElem?_cons_zero, List.getElem?_cons_succ]; rfl
                case hd64 => rfl
                case hQ64 => exact fun _ _ _ h => h
                case hy64 => (refine Or.inl ⟨by rfl, ?_⟩; intro w hSw; (try dsimp only at hSw); go_simp; try with_reducible rfl)
                simp only [List.setIfInBounds_toArray, List.set_cons_zero, List.set_cons_succ]
                refine anyE_tk 28 43 (oi := ?oi65) (v := ?v65) ?hi65 ?hd65 (by kernel_rfl) (by kernel_rfl) (by kernel_rfl) ?hQ65 ?hy65 hS ?rest65
                case hi65 => simp only [List.getElem?_toArray, List.getElem?_cons_zero, List.getElem?_cons_succ]; rfl
                case hd65 => rfl
                case hQ65 => exact fun _ _ _ h => h
                case hy65 => (refine Or.inl ⟨by rfl, ?_⟩; intro w hSw; (try dsimp only at hSw); go_simp; try with_reducible rfl)
                simp only [List.setIfInBounds_toArray, List.set_cons_zero, List.set_cons_succ]
                refine anyE_tk 29 44 (oi := ?oi66) (v := ?v66) ?hi66 ?hd66 (by kernel_rfl) (by kernel_rfl) (by kernel_rfl) ?hQ66 ?hy66 hS ?rest66
                case hi66 => simp only [List.getElem?_toArray, List.getElem?_cons_zero, List.getElem?_cons_succ]; rfl
                case hd66 => rfl
                case hQ66 => exact fun _ _ _ h => h
                case hy66 => (refine Or.inl ⟨by rfl, ?_⟩; intro w hSw; (try dsimp only at hSw); go_simp; try with_reducible rfl)
                simp only [List.setIfInBounds_toArray, List.set_cons_zero, List.set_cons_succ]
                refine anyE_tk 30 45 (oi := ?oi67) (v := ?v67) ?hi67 ?hd67 (by kernel_rfl) (by kernel_rfl) (by kernel_rfl) ?hQ67 ?hy67 hS ?rest67
                case hi67 => simp only [List.getElem?_toArray, List.getElem?_cons_zero, List.getElem?_cons_succ]; rfl
                case hd67 => rfl
                case hQ67 => exact fun _ _ _ h => h
                case hy67 => (refine Or.inl ⟨by rfl, ?_⟩; intro w hSw; (try dsimp only at hSw); go_simp; try with_reducible rfl)
                simp only [List.setIfInBounds_toArray, List.set_cons_zero, List.set_cons_succ]
                refine anyE_tk 31 46 (oi := ?oi68) (v := ?v68) ?hi68 ?hd68 (by kernel_rfl) (by kernel_rfl) (by kernel_rfl) ?hQ68 ?hy68 hS ?rest68
                case hi68 => simp only [List.getElem?_toArray, List.getElem?_cons_zero, List.getElem?_cons_succ]; rfl
                case hd68 => rfl
                case hQ68 => exact fun _ _ _ h => h
                case hy68 => (refine Or.inl ⟨by rfl, ?_⟩; intro w hSw; (try dsimp only at hSw); go_simp; try with_reducible rfl)
                simp only [List.setIfInBounds_toArray, List.set_cons_zero, List.set_cons_succ]
                refine anyE_tk 32 47 (oi := ?oi69) (v := ?v69) ?hi69 ?hd69 (by kernel_rfl) (by kernel_rfl) (by kernel_rfl) ?hQ69 ?hy69 hS ?rest69
                case hi69 => simp only [List.getElem?_toArray, List.getElem?_cons_zero, List.getElem?_cons_succ]; rfl
                case hd69 => rfl
                case hQ69 => exact fun _ _ _ h => h
                case hy69 => (refine Or.inl ⟨by rfl, ?_⟩; intro w hSw; (try dsimp only at hSw); go_simp; try with_reducible rfl)
                simp only [List.setIfInBounds_toArray, List.set_cons_zero, List.set_cons_succ]
                refine anyE_tk 33 48 (oi := ?oi70) (v := ?v70) ?hi70 ?hd70 (by kernel_rfl) (by kernel_rfl) (by kernel_rfl) ?hQ70 ?hy70 hS ?rest70
                case hi70 => simp only [List.getElem?_toArray, List.getElem?_cons_zero, List.getElem?_cons_succ]; rfl
                case hd70 => rfl
                case hQ70 => exact fun _ _ _ h => h
                case hy70 => (refine Or.inl ⟨by rfl, ?_⟩; intro w hSw; (try dsimp only at hSw); go_simp; try with_reducible rfl)
                simp only [List.setIfInBounds_toArray, List.set_cons_zero, List.set_cons_succ]
                refine anyE_tk 34 49 (oi := ?oi71) (v := ?v71) ?hi71 ?hd71 (by kernel_rfl) (by kernel_rfl) (by kernel_rfl) ?hQ71 ?hy71 hS ?rest71
                case hi71 => simp only [List.getElem?_toArray, List.getElem?_cons_zero, List.getElem?_cons_succ]; rfl
                case hd71 => rfl
                case hQ71 => exact fun _ _ _ h => h
                case hy71 => (refine Or.inl ⟨by rfl, ?_⟩; intro w hSw; (try dsimp only at hSw); go_simp; try with_reducible rfl)
                simp only [List.setIfInBounds_toArray, List.set_cons_zero, List.set_cons_succ]
                refine anyE_tk 35 50 (oi := ?oi72) (v := ?v72) ?hi72 ?hd72 (by kernel_rfl) (by kernel_rfl) (by kernel_rfl) ?hQ72 ?hy72 hS ?rest72
                case hi72 => simp only [List.getElem?_toArray, List.getElem?_cons_zero, List.getElem?_cons_succ]; rfl
                case hd72 => rfl
                case hQ72 => exact fun _ _ _ h => h
                case hy72 => (refine Or.inl ⟨by rfl, ?_⟩; intro w hSw; (try dsimp only at hSw); go_simp; try with_reducible rfl)
                simp only [List.setIfInBounds_toArray, List.set_cons_zero, List.set_cons_succ]
                clear hS
                refine anyE_done (by kernel_rfl) ?_ _
                go_wp2_with fail
                go_ret
                exact ⟨by rw [HR.out]; rfl, Hw.out.trans (Hb2.out.mono Hw.out.size)⟩
              · have s4 : y < 0 := by omega
                clear hs2 s3
                have c1 : decide (x < 0) = false := by simp; omega
                have c2 : decide ((n : Int) ≤ x) = false := by simp; omega
                have c3 : decide (y < 0) = true := by simp; omega
                go_wp2_with fail
                refine wp_region_E (S := fun W => W.cell? ⟨g, off + i * 2, none⟩ = some (.int .i64 x) ∧ W.cell? ⟨g, off + i * 2 + 1, none⟩ = some (.int .i64 y) ∧ W.cell? ⟨w.heap.size, 1, none⟩ = some (.slice AI n cI)) (E := fun _ => false) (by kernel_rfl) ?_
                have hbi : Below wr.heap.size wr wr.drew := (Below.refl _ _).drew
                have hS : wr.drew.cell? ⟨g, off + i * 2, none⟩ = some (.int .i64 x) ∧ wr.drew.cell? ⟨g, off + i * 2 + 1, none⟩ = some (.int .i64 y) ∧ wr.drew.cell? ⟨w.heap.size, 1, none⟩ = some (.slice AI n cI) := ⟨q0, q1, z1⟩
                have Hb2 := Lib.hid (Hb1.out.trans (hbi.mono Hb1.out.size))
                generalize wr.drew = wi0 at hS Hb2 ⊢
                clear hbi q0 q1 z0 z1 z2
                refine anyE_tk 0 15 (oi := ?oi73) (v := ?v73) ?hi73 ?hd73 (by kernel_rfl) (by kernel_rfl) (by kernel_rfl) ?hQ73 ?hy73 hS ?rest73
                case hi73 => simp only [List.getElem?_toArray, List.getElem?_cons_zero, List.getElem?_cons_succ]; rfl
                case hd73 => rfl
                case hQ73 => exact fun _ _ _ h => h
                case hy73 => (refine Or.inl ⟨by rfl, ?_⟩; intro w hSw; (try dsimp only at hSw); go_simp; try with_reducible rfl)
                simp only [List.setIfInBounds_toArray, List.set_cons_zero, List.set_cons_succ]
                refine anyE_tk 1 16 (oi := ?oi74) (v := ?v74) ?hi74 ?hd74 (by kernel_rfl) (by kernel_rfl) (by kernel_rfl) ?hQ74 ?hy74 hS ?rest74
                case hi74 => simp only [List.getElem?_toArray, List.getElem?_cons_zero, List.getElem?_cons_succ]; rfl
                case hd74 => rfl
                case hQ74 => exact fun _ _ _ h => h
                case hy74 => (refine Or.inl ⟨by rfl, ?_⟩; intro w hSw; (try dsimp only at hSw); go_simp; try with_reducible rfl)
                simp only [List.setIfInBounds_toArray, List.set_cons_zero, List.set_cons_succ]
                refine anyE_tk 2 17 (oi := ?oi75) (v := ?v75) ?hi75 ?hd75 (by kernel_rfl) (by kernel_rfl) (by kernel_rfl) ?hQ75 ?hy75 hS ?rest75
                case hi75 => simp only [List.getElem?_toArray, List.getElem?_cons_zero, List.getElem?_cons_succ]; rfl
                case hd75 => rfl
                case hQ75 => exact fun _ _ _ h => h
                case hy75 => (refine Or.inl ⟨by rfl, ?_⟩; intro w hSw; (try dsimp only at hSw); go_simp; try with_reducible rfl)
                simp only [List.setIfInBounds_toArray, List.set_cons_zero, List.set_cons_succ]
                refine anyE_tk 3 18 (oi := ?oi76) (v := ?v76) ?hi76 ?hd76 (by kernel_rfl) (by kernel_rfl) (by kernel_rfl) ?hQ76 ?hy76 hS ?rest76
                case hi76 => simp only [List.getElem?_toArray, List.getElem?_cons_zero, List.getElem?_cons_succ]; rfl
                case hd76 => rfl
                case hQ76 => exact fun _ _ _ h => h
                case hy76 => (refine Or.inl ⟨by rfl, ?_⟩; intro w hSw; (try dsimp only at hSw); go_simp; try with_reducible rfl)
                simp only [List.setIfInBounds_toArray, List.set_cons_zero, List.set_cons_succ]
                refine anyE_tk 4 19 (oi := ?oi77) (v := ?v77) ?hi77 ?hd77 (by kernel_rfl) (by kernel_rfl) (by kernel_rfl) ?hQ77 ?hy77 hS ?rest77
                case hi77 => simp only [List.getElem?_toArray, List.getElem?_cons_zero, List.getElem?_cons_succ]; rfl
                case hd77 => rfl
                case hQ77 => exact fun _ _ _ h => h
                case hy77 => (refine Or.inl ⟨by rfl, ?_⟩; intro w hSw; (try dsimp only at hSw); go_simp; try with_reducible rfl)
                simp only [List.setIfInBounds_toArray, List.set_cons_zero, List.set_cons_succ]
                refine anyE_tk 5 20 (oi := ?oi78) (v := ?v78) ?hi78 ?hd78 (by kernel_rfl) (by kernel_rfl) (by kernel_rfl) ?hQ78 ?hy78 hS ?rest78
                case hi78 => simp only [List.getElem?_toArray, List.getElem?_cons_zero, List.getElem?_cons_succ]; rfl
                case hd78 => rfl
                case hQ78 => exact fun _ _ _ h => h
                case hy78 => (refine Or.inl ⟨by rfl, ?_⟩; intro w hSw; (try dsimp only at hSw); go_simp; try with_reducible rfl)
                simp only [List.setIfInBounds_toArray, List.set_cons_zero, List.set_cons_succ]
                refine anyE_tk 6 21 (oi := ?oi79) (v := ?v79) ?hi79 ?hd79 (by kernel_rfl) (by kernel_rfl) (by kernel_rfl) ?hQ79 ?hy79 hS ?rest79
                case hi79 => simp only [List.getElem?_toArray, List.getElem?_cons_zero, List.getElem?_cons_succ]; rfl
                case hd79 => rfl
                case hQ79 => exact fun _ _ _ h => h
                case hy79 => (refine Or.inl ⟨by rfl, ?_⟩; intro w hSw; (try dsimp only at hSw); go_simp; try with_reducible rfl)
                simp only [List.setIfInBounds_toArray, List.set_cons_zero, List.set_cons_succ]
                refine anyE_tk 7 22 (oi := ?oi80) (v := ?v80) ?hi80 ?hd80 (by kernel_rfl) (by kernel_rfl) (by kernel_rfl) ?hQ80 ?hy80 hS ?rest80
                case hi80 => simp only [List.getElem?_toArray, List.getElem?_cons_zero, List.getElem?_cons_succ]; rfl
                case hd80 => rfl
                case hQ80 => exact fun _ _ _ h => h
                case hy80 => (refine Or.inl ⟨by rfl, ?_⟩; intro w hSw; (try dsimp only at hSw); go_simp; try with_reducible rfl)
                simp only [List.setIfInBounds_toArray, List.set_cons_zero, List.set_cons_succ]
                refine anyE_tk 8 23 (oi := ?oi81) (v := ?v81) ?hi81 ?hd81 (by kernel_rfl) (by kernel_rfl) (by kernel_rfl) ?hQ81 ?hy81 hS ?rest81
                case hi81 => simp only [List.getElem?_toArray, List.getElem?_cons_zero, List.getElem?_cons_succ]; rfl
                case hd81 => rfl
                case hQ81 => exact fun _ _ _ h => h
                case hy81 => (refine Or.inl ⟨by rfl, ?_⟩; intro w hSw; (try dsimp only at hSw); go_simp; try with_reducible rfl)
                simp only [List.setIfInBounds_toArray, List.set_cons_zero, List.set_cons_succ]
                refine anyE_tk 9 24 (oi := ?oi82) (v := ?v82) ?hi82 ?hd82 (by kernel_rfl) (by kernel_rfl) (by kernel_rfl) ?hQ82 ?hy82 hS ?rest82
                case hi82 => simp only [List.getElem?_toArray, List.getElem?_cons_zero, List.getElem?_cons_succ]; rfl
                case hd82 => rfl
                case hQ82 => exact fun _ _ _ h => h
                case hy82 => (refine Or.inl ⟨by rfl, ?_⟩; intro w hSw; (try dsimp only at hSw); go_simp; try with_reducible rfl)
                simp only [List.setIfInBounds_toArray, List.set_cons_zero, List.set_cons_succ]
                refine anyE_tk 10 25 (oi := ?oi83) (v := ?v83) ?hi83 ?hd83 (by kernel_rfl) (by kernel_rfl) (by kernel_rfl) ?hQ83 ?hy83 hS ?rest83
                case hi83 => simp only [List.getElem?_toArray, List.getElem?_cons_zero, List.getElem?_cons_succ]; rfl
                case hd83 => rfl
                case hQ83 => exact fun _ _ _ h => h
                case hy83 => (refine Or.inl ⟨by rfl, ?_⟩; intro w hSw; (try dsimp only at hSw); go_simp; try with_reducible rfl)
                simp only [List.setIfInBounds_toArray, List.set_cons_zero, List.set_cons_succ]
                refine anyE_tk 11 26 (oi := ?oi84) (v := ?v84) ?hi84 ?hd84 (by kernel_rfl) (by kernel_rfl) (by kernel_rfl) ?hQ84 ?hy84 hS ?rest84
                case hi84 => simp only [List.getElem?_toArray, List.getElem?_cons_zero, List.getElem?_cons_succ]; rfl
                case hd84 => rfl
                case hQ84 => exact fun _ _ _ h => h
                case hy84 => (refine Or.inl ⟨by rfl, ?_⟩; intro w hSw; (try dsimp only at hSw); go_simp; try with_reducible rfl)
                simp only [List.setIfInBounds_toArray, List.set_cons_zero, List.set_cons_succ]
                refine anyE_tk 12 27 (oi := ?oi85) (v := ?v85) ?hi85 ?hd85 (by kernel_rfl) (by kernel_rfl) (by kernel_rfl) ?hQ85 ?hy85 hS ?rest85
                case hi85 => simp only [List.getElem?_toArray, List.getElem?_cons_zero, List.getElem?_cons_succ]; rfl
                case hd85 => rfl
                case hQ85 => exact fun _ _ _ h => h
                case hy85 => (refine Or.inl ⟨by rfl, ?_⟩; intro w hSw; (try dsimp only at hSw); go_simp; try with_reducible rfl)
                simp only [List.setIfInBounds_toArray, List.set_cons_zero, List.set_cons_succ]
                refine anyE_tk 13 28 (oi := ?oi86) (v := ?v86) ?hi86 ?hd86 (by kernel_rfl) (by kernel_rfl) (by kernel_rfl) ?hQ86 ?hy86 hS ?rest86
                case hi86 => simp only [List.getElem?_toArray, List.getElem?_cons_zero, List.getElem?_cons_succ]; rfl
                case hd86 => rfl
                case hQ86 => exact fun _ _ _ h => h
                case hy86 => (refine Or.inl ⟨by rfl, ?_⟩; intro w hSw; (try dsimp only at hSw); go_simp; try with_reducible rfl)
                simp only [List.setIfInBounds_toArray, List.set_cons_zero, List.set_cons_succ]
                refine anyE_tk 14 29 (oi := ?oi87) (v := ?v87) ?hi87 ?hd87 (by kernel_rfl) (by kernel_rfl) (by kernel_rfl) ?hQ87 ?hy87 hS ?rest87
                case hi87 => simp only [List.getElem?_toArray, List.getElem?_cons_zero, List.getElem?_cons_succ]; rfl
                case hd87 => rfl
                case hQ87 => exact fun _ _ _ h => h
                case hy87 => (refine Or.inl ⟨by rfl, ?_⟩; intro w hSw; (try dsimp only at hSw); go_simp; try with_reducible rfl)
                simp only [List.setIfInBounds_toArray, List.set_cons_zero, List.set_cons_succ]
                refine anyE_tk 15 30 (oi := ?oi88) (v := ?v88) ?hi88 ?hd88 (by kernel_rfl) (by kernel_rfl) (by kernel_rfl) ?hQ88 ?hy88 hS ?rest88
                case hi88 => simp only [List.getElem?_toArray, List.getElem?_cons_zero, List.getElem?_cons_succ]; rfl
                case hd88 => rfl
                case hQ88 => exact fun _ _ _ h => h
                case hy88 => (refine Or.inl ⟨by rfl, ?_⟩; intro w hSw; (try dsimp only at hSw); go_simp; try with_reducible rfl)
                simp only [List.setIfInBounds_toArray, List.set_cons_zero, List.set_cons_succ]
                refine anyE_tk 16 31 (oi := ?oi89) (v := ?v89) ?hi89 ?hd89 (by kernel_rfl) (by kernel_rfl) (by kernel_rfl) ?hQ89 ?hy89 hS ?rest89
                case hi89 => simp only [List.getElem?_toArray, List.getElem?_cons_zero, List.getElem?_cons_succ]; rfl
                case hd89 => rfl
                case hQ89 => exact fun _ _ _ h => h
                case hy89 => (refine Or.inl ⟨by rfl, ?_⟩; intro w hSw; (try dsimp only at hSw); go_simp; try with_reducible rfl)
                simp only [List.setIfInBounds_toArray, List.set_cons_zero, List.set_cons_succ]
                refine anyE_tk 17 32 (oi := ?oi90) (v := ?v90) ?hi90 ?hd90 (by kernel_rfl) (by kernel_rfl) (by kernel_rfl) ?hQ90 ?hy90 hS ?rest90
                case hi90 => simp only [List.getElem?_toArray, List.getElem?_cons_zero, List.getElem?_cons_succ]; rfl
                case hd90 => rfl
                case hQ90 => exact fun _ _ _ h => h
                case hy90 => (refine Or.inl ⟨by rfl, ?_⟩; intro w hSw; (try dsimp only at hSw); go_simp; try with_reducible rfl)
                simp only [List.setIfInBounds_toArray, List.set_cons_zero, List.set_cons_succ]
                refine anyE_tk 18 33 (oi := ?oi91) (v := ?v91) ?hi91 ?hd91 (by kernel_rfl) (by kernel_rfl) (by kernel_rfl) ?hQ91 ?hy91 hS ?rest91
                case hi91 => simp only [List.getElem?_toArray, List.getElem?_cons_zero, List.getElem?_cons_succ]; rfl
                case hd91 => rfl
                case hQ91 => exact fun _ _ _ h => h
                case hy91 => (refine Or.inl ⟨by rfl, ?_⟩; intro w hSw; (try dsimp only at hSw); go_simp; try with_reducible rfl)
                simp only [List.setIfInBounds_toArray, List.set_cons_zero, List.set_cons_succ]
                refine anyE_tk 19 34 (oi := ?oi92) (v := ?v92) ?hi92 ?hd92 (by kernel_rfl) (by kernel_rfl) (by kernel_rfl) ?hQ92 ?hy92 hS ?rest92
                case hi92 => simp only [List.getElem?_toArray, List.getElem?_cons_zero, List.getElem?_cons_succ]; rfl
                case hd92 => rfl
                case hQ92 => exact fun _ _ _ h => h
                case hy92 => (refine Or.inl ⟨by rfl, ?_⟩; intro w hSw; (try dsimp only at hSw); go_simp; try with_reducible rfl)
                simp only [List.setIfInBounds_toArray, List.set_cons_zero, List.set_cons_succ]
                refine anyE_tk 20 35 (oi := ?oi93) (v := ?v93) ?hi93 ?hd93 (by kernel_rfl) (by kernel_rfl) (by kernel_rfl) ?hQ93 ?hy93 hS ?rest93
                case hi93 => simp only [List.getElem?_toArray, List.getElem?_cons_zero, List.getElem?_cons_succ]; rfl
                case hd93 => rfl
                case hQ93 => exact fun _ _ _ h => h
                case hy93 => (refine Or.inl ⟨by rfl, ?_⟩; intro w hSw; (try dsimp only at hSw); go_simp; try with_reducible rfl)
                simp only [List.setIfInBounds_toArray, List.set_cons_zero, List.set_cons_succ]
                refine anyE_tk 21 36 (oi := ?oi94) (v := ?v94) ?hi94 ?hd94 (by kernel_rfl) (by kernel_rfl) (by kernel_rfl) ?hQ94 ?hy94 hS ?rest94
                case hi94 => simp only [List.getElem?_toArray, List.getElem?_cons_zero, List.getElem?_cons_succ]; rfl
                case hd94 => rfl
                case hQ94 => exact fun _ _ _ h => h
                case hy94 => (refine Or.inl ⟨by rfl, ?_⟩; intro w hSw; (try dsimp only at hSw); go_simp; try with_reducible rfl)
                simp only [List.setIfInBounds_toArray, List.set_cons_zero, List.set_cons_succ]
                refine anyE_tk 22 37 (oi := ?oi95) (v := ?v95) ?hi95 ?hd95 (by kernel_rfl) (by kernel_rfl) (by kernel_rfl) ?hQ95 ?hy95 hS ?rest95
                case hi95 => simp only [List.getElem?_toArray, List.getElem?_cons_zero, List.getElem?_cons_succ]; rfl
                case hd95 => rfl
                case hQ95 => exact fun _ _ _ h => h
                case hy95 => (refine Or.inl ⟨by rfl, ?_⟩; intro w hSw; (try dsimp only at hSw); go_simp; try with_reducible rfl)
                simp only [List.setIfInBounds_toArray, List.set_cons_zero, List.set_cons_succ]
                refine anyE_tk 23 38 (oi := ?oi96) (v := ?v96) ?hi96 ?hd96 (by kernel_rfl) (by kernel_rfl) (by kernel_rfl) ?hQ96 ?hy96 hS ?rest96
                case hi96 => simp only [List.getElem?_toArray, List.getElem?_cons_zero, List.getElem?_cons_succ]; rfl
                case hd96 => rfl
                case hQ96 => exact fun _ _ _ h => h
                case hy96 => (refine Or.inl ⟨by rfl, ?_⟩; intro w hSw; (try dsimp only at hSw); go_simp; try with_reducible rfl)
                simp only [List.setIfInBounds_toArray, List.set_cons_zero, List.set_cons_succ]
                refine anyE_tk 24 39 (oi := ?oi97) (v := ?v97) ?hi97 ?hd97 (by kernel_rfl) (by kernel_rfl) (by kernel_rfl) ?hQ97 ?hy97 hS ?rest97
                case hi97 => simp only [List.getElem?_toArray, List.getElem?_cons_zero, List.getElem?_cons_succ]; rfl
                case hd97 => rfl
                case hQ97 => exact fun _ _ _ h => h
                case hy97 => (refine Or.inl ⟨by rfl, ?_⟩; intro w hSw; (try dsimp only at hSw); go_simp; try with_reducible rfl)
                simp only [List.setIfInBounds_toArray, List.set_cons_zero, List.set_cons_succ]
                refine anyE_tk 25 40 (oi := ?oi98) (v := ?v98) ?hi98 ?hd98 (by kernel_rfl) (by kernel_rfl) (by kernel_rfl) ?hQ98 ?hy98 hS ?rest98
                case hi98 => simp only [List.getElem?_toArray, List.getElem?_cons_zero, List.getElem?_cons_succ]; rfl
                case hd98 => rfl
                case hQ98 => exact fun _ _ _ h => h
                case hy98 => (refine Or.inl ⟨by rfl, ?_⟩; intro w hSw; (try dsimp only at hSw); go_simp; try with_reducible rfl)
                simp only [List.setIfInBounds_toArray, List.set_cons_zero, List.set_cons_succ]
                refine anyE_tk 26 41 (oi := ?oi99) (v := undef) ?hi99 ?hd99 (by kernel_rfl) (by kernel_rfl) (by kernel_rfl) ?hQ99 ?hy99 hS ?rest99
                case hi99 => simp only [List.getElem?_toArray, List.getElem?_cons_zero, List.getElem?_cons_succ]; rfl
                case hd99 => rfl
                case hQ99 => exact fun _ _ _ h => h
                case hy99 => exact Or.inr ⟨by rfl, rfl⟩
                simp only [List.setIfInBounds_toArray, List.set_cons_zero, List.set_cons_succ]
                refine anyE_tk 27 42 (oi := ?oi100) (v := undef) ?hi100 ?hd100 (by kernel_rfl) (by kernel_rfl) (by kernel_rfl) ?hQ100 ?hy100 hS ?rest100
                case hi100 => simp only [List.getElem?_toArray, List.getElem?_cons_zero, List.getElem?_cons_succ]; rfl
                case hd100 => rfl
                case hQ100 => exact fun _ _ _ h => h
                case hy100 => exact Or.inr ⟨by rfl, rfl⟩
                simp only [List.setIfInBounds_toArray, List.set_cons_zero, List.set_cons_succ]
                refine anyE_tk 28 43 (oi := ?oi101) (v := undef) ?hi101 ?hd101 (by kernel_rfl) (by kernel_rfl) (by kernel_rfl) ?hQ101 ?hy101 hS ?rest101
                case hi101 => simp only [List.getElem?_toArray, List.getElem?_cons_zero, List.getElem?_cons_succ]; rfl
                case hd101 => rfl
                case hQ101 => exact fun _ _ _ h => h
                case hy101 => exact Or.inr ⟨by rfl, rfl⟩
                simp only [List.setIfInBounds_toArray, List.set_cons_zero, List.set_cons_succ]
                refine anyE_tk 29 44 (oi := ?oi102) (v := undef) ?hi102 ?hd102 (by kernel_rfl) (by kernel_rfl) (by kernel_rfl) ?hQ102 ?hy102 hS ?rest102
                case hi102 => simp only [List.getElem?_toArray, List.getElem?_cons_zero, List.getElem?_cons_succ]; rfl
                case hd102 => rfl
                case hQ102 => exact fun _ _ _ h => h
                case hy102 => exact Or.inr ⟨by rfl, rfl⟩
                simp only [List.setIfInBounds_toArray, List.set_cons_zero, List.set_cons_succ]
                refine anyE_tk 30 45 (oi := ?oi103) (v := undef) ?hi103 ?hd103 (by kernel_rfl) (by kernel_rfl) (by kernel_rfl) ?hQ103 ?hy103 hS ?rest103
                case hi103 => simp only [List.getElem?_toArray, List.getElem?_cons_zero, List.getElem?_cons_succ]; rfl
                case hd103 => rfl
                case hQ103 => exact fun _ _ _ h => h
                case hy103 => exact Or.inr ⟨by rfl, rfl⟩
                simp only [List.setIfInBounds_toArray, List.set_cons_zero, List.set_cons_succ]
                refine anyE_tk 31 46 (oi := ?oi104) (v := undef) ?hi104 ?hd104 (by kernel_rfl) (by kernel_rfl) (by kernel_rfl) ?hQ104 ?hy104 hS ?rest104
                case hi104 => simp only [List.getElem?_toArray, List.getElem?_cons_zero, List.getElem?_cons_succ]; rfl
                case hd104 => rfl
                case hQ104 => exact fun _ _ _ h => h
                case hy104 => exact Or.inr ⟨by rfl, rfl⟩
                simp only [List.setIfInBounds_toArray, List.set_cons_zero, List.set_cons_succ]
                refine anyE_tk 32 47 (oi := ?oi105) (v := undef) ?hi105 ?hd105 (by kernel_rfl) (by kernel_rfl) (by kernel_rfl) ?hQ105 ?hy105 hS ?rest105
                case hi105 => simp only [List.getElem?_toArray, List.getElem?_cons_zero, List.getElem?_cons_succ]; rfl
                case hd105 => rfl
                case hQ105 => exact fun _ _ _ h => h
                case hy105 => exact Or.inr ⟨by rfl, rfl⟩
                simp only [List.setIfInBounds_toArray, List.set_cons_zero, List.set_cons_succ]
                refine anyE_tk 33 48 (oi := ?oi106) (v := undef) ?hi106 ?hd106 (by kernel_rfl) (by kernel_rfl) (by kernel_rfl) ?hQ106 ?hy106 hS ?rest106
                case hi106 => simp only [List.getElem?_toArray, List.getElem?_cons_zero, List.getElem?_cons_succ]; rfl
                case hd106 => rfl
                case hQ106 => exact fun _ _ _ h => h
                case hy106 => exact Or.inr ⟨by rfl, rfl⟩
                simp only [List.setIfInBounds_toArray, List.set_cons_zero, List.set_cons_succ]
                refine anyE_tk 34 49 (oi := ?oi107) (v := undef) ?hi107 ?hd107 (by kernel_rfl) (by kernel_rfl) (by kernel_rfl) ?hQ107 ?hy107 hS ?rest107
                case hi107 => simp only [List.getElem?_toArray, List.getElem?_cons_zero, List.getElem?_cons_succ]; rfl
                case hd107 => rfl
                case hQ107 => exact fun _ _ _ h => h
                case hy107 => exact Or.inr ⟨by rfl, rfl⟩
                simp only [List.setIfInBounds_toArray, List.set_cons_zero, List.set_cons_succ]
                refine anyE_tk 35 50 (oi := ?oi108) (v := ?v108) ?hi108 ?hd108 (by kernel_rfl) (by kernel_rfl) (by kernel_rfl) ?hQ108 ?hy108 hS ?rest108
                case hi108 => simp only [List.getElem?_toArray, List.getElem?_cons_zero, List.getElem?_cons_succ]; rfl
                case hd108 => rfl
                case hQ108 => exact fun _ _ _ h => h
                case hy108 => (refine Or.inl ⟨by rfl, ?_⟩; intro w hSw; (try dsimp only at hSw); go_simp; try with_reducible rfl)
                simp only [List.setIfInBounds_toArray, List.set_cons_zero, List.set_cons_succ]
                clear hS
                refine anyE_done (by kernel_rfl) ?_ _
                go_wp2_with fail
                go_ret
                exact ⟨by rw [HR.out]; rfl, Hw.out.trans (Hb2.out.mono Hw.out.size)⟩
            · have s4 : (n : Int) ≤ x := by omega
              clear hs2 s2
              have c1 : decide (x < 0) = false := by simp; omega
              have c2 : decide ((n : Int) ≤ x) = true := by simp; omega
              go_wp2_with fail
              refine wp_region_E (S := fun W => W.cell? ⟨g, off + i * 2, none⟩ = some (.int .i64 x) ∧ W.cell? ⟨g, off + i * 2 + 1, none⟩ = some (.int .i64 y) ∧ W.cell? ⟨w.heap.size, 1, none⟩ = some (.slice AI n cI)) (E := fun _ => false) (by kernel_rfl) ?_
              have hbi : Below wr.heap.size wr wr.drew := (Below.refl _ _).drew
              have hS : wr.drew.cell? ⟨g, off + i * 2, none⟩ = some (.int .i64 x) ∧ wr.drew.cell? ⟨g, off + i * 2 + 1, none⟩ = some (.int .i64 y) ∧ wr.drew.cell? ⟨w.heap.size, 1, none⟩ = some (.slice AI n cI) := ⟨q0, q1, z1⟩
              have Hb2 := Lib.hid (Hb1.out.trans (hbi.mono Hb1.out.size))
              generalize wr.drew = wi0 at hS Hb2 ⊢
              clear hbi q0 q1 z0 z1 z2
              refine anyE_tk 0 15 (oi := ?oi109) (v := ?v109) ?hi109 ?hd109 (by kernel_rfl) (by kernel_rfl) (by kernel_rfl) ?hQ109 ?hy109 hS ?rest109
              case hi109 => simp only [List.getElem?_toArray, List.getElem?_cons_zero, List.getElem?_cons_succ]; rfl
              case hd109 => rfl
              case hQ109 => exact fun _ _ _ h => h
              case hy109 => (refine Or.inl ⟨by rfl, ?_⟩; intro w hSw; (try dsimp only at hSw); go_simp; try with_reducible rfl)
              simp only [List.setIfInBounds_toArray, List.set_cons_zero, List.set_cons_succ]
              refine anyE_tk 1 16 (oi := ?oi110) (v := ?v110) ?hi110 ?hd110 (by kernel_rfl) (by kernel_rfl) (by kernel_rfl) ?hQ110 ?hy110 hS ?rest110
              case hi110 => simp only [List.getElem?_toArray, List.getElem?_cons_zero, List.getElem?_cons_succ]; rfl
              case hd110 => rfl
              case hQ110 => exact fun _ _ _ h => h
              case hy110 => (refine Or.inl ⟨by rfl, ?_⟩; intro w hSw; (try dsimp only at hSw); go_simp; try with_reducible rfl)
              simp only [List.setIfInBounds_toArray, List.set_cons_zero, List.set_cons_succ]
              refine anyE_tk 2 17 (oi := ?oi111) (v := ?v111) ?hi111 ?hd111 (by kernel_rfl) (by kernel_rfl) (by kernel_rfl) ?hQ111 ?hy111 hS ?rest111
              case hi111 => simp only [List.getElem?_toArray, List.getElem?_cons_zero, List.getElem?_cons_succ]; rfl
              case hd111 => rfl
              case hQ111 => exact fun _ _ _ h => h
              case hy111 => (refine Or.inl ⟨by rfl, ?_⟩; intro w hSw; (try dsimp only at hSw); go_simp; try with_reducible rfl)
              simp only [List.setIfInBounds_toArray, List.set_cons_zero, List.set_cons_succ]
              refine anyE_tk 3 18 (oi := ?oi112) (v := ?v112) ?hi112 ?hd112 (by kernel_rfl) (by kernel_rfl) (by kernel_rfl) ?hQ112 ?hy112 hS ?rest112
              case hi112 => simp only [List.getElem?_toArray, List.getElem?_cons_zero, List.getElem?_cons_succ]; rfl
              case hd112 => rfl
              case hQ112 => exact fun _ _ _ h => h
              case hy112 => (refine Or.inl ⟨by rfl, ?_⟩; intro w hSw; (try dsimp only at hSw); go_simp; try with_reducible rfl)
              simp only [List.setIfInBounds_toArray, List.set_cons_zero, List.set_cons_succ]
              refine anyE_tk 4 19 (oi := ?oi113) (v := ?v113) ?hi113 ?hd113 (by kernel_rfl) (by kernel_rfl) (by kernel_rfl) ?hQ113 ?hy113 hS ?rest113
              case hi113 => simp only [List.getElem?_toArray, List.getElem?_cons_zero, List.getElem?_cons_succ]; rfl
              case hd113 => rfl
              case hQ113 => exact fun _ _ _ h => h
              case hy113 => (refine Or.inl ⟨by rfl, ?_⟩; intro w hSw; (try dsimp only at hSw); go_simp; try with_reducible rfl)
              simp only [List.setIfInBounds_toArray, List.set_cons_zero, List.set_cons_succ]
              refine anyE_tk 5 20 (oi := ?oi114) (v := ?v114) ?hi114 ?hd114 (by kernel_rfl) (by kernel_rfl) (by kernel_rfl) ?hQ114 ?hy114 hS ?rest114
              case hi114 => simp only [List.getElem?_toArray, List.getElem?_cons_zero, List.getElem?_cons_succ]; rfl
              case hd114 => rfl
              case hQ114 => exact fun _ _ _ h => h
              case hy114 => (refine Or.inl ⟨by rfl, ?_⟩; intro w hSw; (try dsimp only at hSw); go_simp; try with_reducible rfl)
              simp only [List.setIfInBounds_toArray, List.set_cons_zero, List.set_cons_succ]
              refine anyE_tk 6 21 (oi := ?oi115) (v := ?v115) ?hi115 ?hd115 (by kernel_rfl) (by kernel_rfl) (by kernel_rfl) ?hQ115 ?hy115 hS ?rest115
              case hi115 => simp only [List.getElem?_toArray, List.getElem?_cons_zero, List.getElem?_cons_succ]; rfl
              case hd115 => rfl
              case hQ115 => exact fun _ _ _ h => h
              case hy115 => (refine Or.inl ⟨by rfl, ?_⟩; intro w hSw; (try dsimp only at hSw); go_simp; try with_reducible rfl)
              simp only [List.setIfInBounds_toArray, List.set_cons_zero, List.set_cons_succ]
              refine anyE_tk 7 22 (oi := ?oi116) (v := ?v116) ?hi116 ?hd116 (by kernel_rfl) (by kernel_rfl) (by kernel_rfl) ?hQ116 ?hy116 hS ?rest116
              case hi116 => simp only [List.getElem?_toArray, List.getElem?_cons_zero, List.getElem?_cons_succ]; rfl
              case hd116 => rfl
              case hQ116 => exact fun _ _ _ h => h
              case hy116 => (refine Or.inl ⟨by rfl, ?_⟩; intro w hSw; (try dsimp only at hSw); go_simp; try with_reducible rfl)
              simp only [List.setIfInBounds_toArray, List.set_cons_zero, List.set_cons_succ]
              refine anyE_tk 8 23 (oi := ?oi117) (v := ?v117) ?hi117 ?hd117 (by kernel_rfl) (by kernel_rfl) (by kernel_rfl) ?hQ117 ?hy117 hS ?rest117
              case hi117 => simp only [List.getElem?_toArray, List.getElem?_cons_zero, List.getElem?_cons_succ]; rfl
              case hd117 => rfl
              case hQ117 => exact fun _ _ _ h => h
              case hy117 => (refine Or.inl ⟨by rfl, ?_⟩; intro w hSw; (try dsimp only at hSw); go_simp; try with_reducible rfl)
              simp only [List.setIfInBounds_toArray, List.set_cons_zero, List.set_cons_succ]
              refine anyE_tk 9 24 (oi := ?oi118) (v := ?v118) ?hi118 ?hd118 (by kernel_rfl) (by kernel_rfl) (by kernel_rfl) ?hQ118 ?hy118 hS ?rest118
              case hi118 => simp only [List.getElem?_toArray, List.getElem?_cons_zero, List.getElem?_cons_succ]; rfl
              case hd118 => rfl
              case hQ118 => exact fun _ _ _ h => h
              case hy118 => (refine Or.inl ⟨by rfl, ?_⟩; intro w hSw; (try dsimp only at hSw); go_simp; try with_reducible rfl)
              simp only [List.setIfInBounds_toArray, List.set_cons_zero, List.set_cons_succ]
              refine anyE_tk 10 25 (oi := ?oi119) (v := ?v119) ?hi119 ?hd119 (by kernel_rfl) (by kernel_rfl) (by kernel_rfl) ?hQ119 ?hy119 hS ?rest119
              case hi119 => simp only [List.getElem?_toArray, List.getElem?_cons_zero, List.getElem?_cons_succ]; rfl
              case hd119 => rfl
              case hQ119 => exact fun _ _ _ h => h
              case hy119 => (refine Or.inl ⟨by rfl, ?_⟩; intro w hSw; (try dsimp only at hSw); go_simp; try with_reducible rfl)
              simp only [List.setIfInBounds_toArray, List.set_cons_zero, List.set_cons_succ]
              refine anyE_tk 11 26 (oi := ?oi120) (v := ?v120) ?hi120 ?hd120 (by kernel_rfl) (by kernel_rfl) (by kernel_rfl) ?hQ120 ?hy120 hS ?rest120
              case hi120 => simp only [List.getElem?_toArray, List.getElem?_cons_zero, List.getElem?_cons_succ]; rfl
              case hd120 => rfl
              case hQ120 => exact fun _ _ _ h => h
              case hy120 => (refine Or.inl ⟨by rfl, ?_⟩; intro w hSw; (try dsimp only at hSw); go_simp; try with_reducible rfl)
              simp only [List.setIfInBounds_toArray, List.set_cons_zero, List.set_cons_succ]
              refine anyE_tk 12 27 (oi := ?oi121) (v := ?v121) ?hi121 ?hd121 (by kernel_rfl) (by kernel_rfl) (by kernel_rfl) ?hQ121 ?hy121 hS ?rest121
              case hi121 => simp only [List.getElem?_toArray, List.getElem?_cons_zero, List.getElem?_cons_succ]; rfl
              case hd121 => rfl
              case hQ121 => exact fun _ _ _ h => h
              case hy121 => (refine Or.inl ⟨by rfl, ?_⟩; intro w hSw; (try dsimp only at hSw); go_simp; try with_reducible rfl)
              simp only [List.setIfInBounds_toArray, List.set_cons_zero, List.set_cons_succ]
              refine anyE_tk 13 28 (oi := ?oi122) (v := ?v122) ?hi122 ?hd122 (by kernel_rfl) (by kernel_rfl) (by kernel_rfl) ?hQ122 ?hy122 hS ?rest122
              case hi122 => simp only [List.getElem?_toArray, List.getElem?_cons_zero, List.getElem?_cons_succ]; rfl
              case hd122 => rfl
              case hQ122 => exact fun _ _ _ h => h
              case hy122 => (refine Or.inl ⟨by rfl, ?_⟩; intro w hSw; (try dsimp only at hSw); go_simp; try with_reducible rfl)
              simp only [List.setIfInBounds_toArray, List.set_cons_zero, List.set_cons_succ]
              refine anyE_tk 14 29 (oi := ?oi123) (v := ?v123) ?hi123 ?hd123 (by kernel_rfl) (by kernel_rfl) (by kernel_rfl) ?hQ123 ?hy123 hS ?rest123
              case hi123 => simp only [List.getElem?_toArray, List.getElem?_cons_zero, List.getElem?_cons_succ]; rfl
              case hd123 => rfl
              case hQ123 => exact fun _ _ _ h => h
              case hy123 => (refine Or.inl ⟨by rfl, ?_⟩; intro w hSw; (try dsimp only at hSw); go_simp; try with_reducible rfl)
              simp only [List.setIfInBounds_toArray, List.set_cons_zero, List.set_cons_succ]
              refine anyE_tk 15 30 (oi := ?oi124) (v := ?v124) ?hi124 ?hd124 (by kernel_rfl) (by kernel_rfl) (by kernel_rfl) ?hQ124 ?hy124 hS ?rest124
              case hi124 => simp only [List.getElem?_toArray, List.getElem?_cons_zero, List.getElem?_cons_succ]; rfl
              case hd124 => rfl
              case hQ124 => exact fun _ _ _ h => h
              case hy124 => (refine Or.inl ⟨by rfl, ?_⟩; intro w hSw; (try dsimp only at hSw); go_simp; try with_reducible rfl)
              simp only [List.setIfInBounds_toArray, List.set_cons_zero, List.set_cons_succ]
              refine anyE_tk 16 31 (oi := ?oi125) (v := ?v125) ?hi125 ?hd125 (by kernel_rfl) (by kernel_rfl) (by kernel_rfl) ?hQ125 ?hy125 hS ?rest125
              case hi125 => simp only [List.getElem?_toArray, List.getElem?_cons_zero, List.getElem?_cons_succ]; rfl
              case hd125 => rfl
              case hQ125 => exact fun _ _ _ h => h
              case hy125 => (refine Or.inl ⟨by rfl, ?_⟩; intro w hSw; (try dsimp only at hSw); go_simp; try with_reducible rfl)
              simp only [List.setIfInBounds_toArray, List.set_cons_zero, List.set_cons_succ]
              refine anyE_tk 17 32 (oi := ?oi126) (v := ?v126) ?hi126 ?hd126 (by kernel_rfl) (by kernel_rfl) (by kernel_rfl) ?hQ126 ?hy126 hS ?rest126
              case hi126 => simp only [List.getElem?_toArray, List.getElem?_cons_zero, List.getElem?_cons_succ]; rfl
              case hd126 => rfl
              case hQ126 => exact fun _ _ _ h => h
              case hy126 => (refine Or.inl ⟨by rfl, ?_⟩; intro w hSw; (try dsimp only at hSw); go_simp; try with_reducible rfl)
              simp only [List.setIfInBounds_toArray, List.set_cons_zero, List.set_cons_succ]
              refine anyE_tk 18 33 (oi := ?oi127) (v := undef) ?hi127 ?hd127 (by kernel_rfl) (by kernel_rfl) (by kernel_rfl) ?hQ127 ?hy127 hS ?rest127
              case hi127 => simp only [List.getElem?_toArray, List.getElem?_cons_zero, List.getElem?_cons_succ]; rfl
              case hd127 => rfl
              case hQ127 => exact fun _ _ _ h => h
              case hy127 => exact Or.inr ⟨by rfl, rfl⟩
              simp only [List.setIfInBounds_toArray, List.set_cons_zero, List.set_cons_succ]
              refine anyE_tk 19 34 (oi := ?oi128) (v := undef) ?hi128 ?hd128 (by kernel_rfl) (by kernel_rfl) (by kernel_rfl) ?hQ128 ?hy128 hS ?rest128
              case hi128 => simp only [List.getElem?_toArray, List.getElem?_cons_zero, List.getElem?_cons_succ]; rfl
              case hd128 => rfl
              case hQ128 => exact fun _ _ _ h => h
              case hy128 => exact Or.inr ⟨by rfl, rfl⟩
              simp only [List.setIfInBounds_toArray, List.set_cons_zero, List.set_cons_succ]
              refine anyE_tk 20 35 (oi := ?oi129) (v := undef) ?hi129 ?hd129 (by kernel_rfl) (by kernel_rfl) (by kernel_rfl) ?hQ129 ?hy129 hS ?rest129
              case hi129 => simp only [List.getElem?_toArray, List.getElem?_cons_zero, List.getElem?_cons_succ]; rfl
              case hd129 => rfl
              case hQ129 => exact fun _ _ _ h => h
              case hy129 => exact Or.inr ⟨by rfl, rfl⟩
              simp only [List.setIfInBounds_toArray, List.set_cons_zero, List.set_cons_succ]
              refine anyE_tk 21 36 (oi := ?oi130) (v := undef) ?hi130 ?hd130 (by kernel_rfl) (by kernel_rfl) (by kernel_rfl) ?hQ130 ?hy130 hS ?rest130
              case hi130 => simp only [List.getElem?_toArray, List.getElem?_cons_zero, List.getElem?_cons_succ]; rfl
              case hd130 => rfl
              case hQ130 => exact fun _ _ _ h => h
              case hy130 => exact Or.inr ⟨by rfl, rfl⟩
              simp only [List.setIfInBounds_toArray, List.set_cons_zero, List.set_cons_succ]
              refine anyE_tk 22 37 (oi := ?oi131) (v := undef) ?hi131 ?hd131 (by kernel_rfl) (by kernel_rfl) (by kernel_rfl) ?hQ131 ?hy131 hS ?rest131
              case hi131 => simp only [List.getElem?_toArray, List.getElem?_cons_zero, List.getElem?_cons_succ]; rfl
              case hd131 => rfl
              case hQ131 => exact fun _ _ _ h => h
              case hy131 => exact Or.inr ⟨by rfl, rfl⟩
              simp only [List.setIfInBounds_toArray, List.set_cons_zero, List.set_cons_succ]
              refine anyE_tk 23 38 (oi := ?oi132) (v := undef) ?hi132 ?hd132 (by kernel_rfl) (by kernel_rfl) (by kernel_rfl) ?hQ132 ?hy132 hS ?rest132
              case hi132 => simp only [List.getElem?_toArray, List.getElem?_cons_zero, List.getElem?_cons_succ]; rfl
              case hd132 => rfl
              case hQ132 => exact fun _ _ _ h => h
              case hy132 => exact Or.inr ⟨by rfl, rfl⟩
              simp only [List.setIfInBounds_toArray, List.set_cons_zero, List.set_cons_succ]
              refine anyE_tk 24 39 (oi := ?oi133) (v := ?v133) ?hi133 ?hd133 (by kernel_rfl) (by kernel_rfl) (by kernel_rfl) ?hQ133 ?hy133 hS ?rest133
              case hi133 => simp only [List.getElem?_toArray, List.getElem?_cons_zero, List.getElem?_cons_succ]; rfl
              case hd133 => rfl
              case hQ133 => exact fun _ _ _ h => h
              case hy133 => (refine Or.inl ⟨by rfl, ?_⟩; intro w hSw; (try dsimp only at hSw); go_simp; try with_reducible rfl)
              simp only [List.setIfInBounds_toArray, List.set_cons_zero, List.set_cons_succ]
              refine anyE_tk 25 40 (oi := ?oi134) (v := ?v134) ?hi134 ?hd134 (by kernel_rfl) (by kernel_rfl) (by kernel_rfl) ?hQ134 ?hy134 hS ?rest134
              case hi134 => simp only [List.getElem?_toArray, List.getElem?_cons_zero, List.getElem?_cons_succ]; rfl
              case hd134 => rfl
              case hQ134 => exact fun _ _ _ h => h
              case hy134 => (refine Or.inl ⟨by rfl, ?_⟩; intro w hSw; (try dsimp only at hSw); go_simp; try with_reducible rfl)
              simp only [List.setIfInBounds_toArray, List.set_cons_zero, List.set_cons_succ]
              refine anyE_tk 26 41 (oi := ?oi135) (v := undef) ?hi135 ?hd135 (by kernel_rfl) (by kernel_rfl) (by kernel_rfl) ?hQ135 ?hy135 hS ?rest135
              case hi135 => simp only [List.getElem?_toArray, List.getElem?_cons_zero, List.getElem?_cons_succ]; rfl
              case hd135 => rfl
              case hQ135 => exact fun _ _ _ h => h
              case hy135 => exact Or.inr ⟨by rfl, rfl⟩
              simp only [List.setIfInBounds_toArray, List.set_cons_zero, List.set_cons_succ]
              refine anyE_tk 27 42 (oi := ?oi136) (v := undef) ?hi136 ?hd136 (by kernel_rfl) (by kernel_rfl) (by kernel_rfl) ?hQ136 ?hy136 hS ?rest136
              case hi136 => simp only [List.getElem?_toArray, List.getElem?_cons_zero, List.getElem?_cons_succ]; rfl
              case hd136 => rfl
              case hQ136 => exact fun _ _ _ h => h
              case hy136 => exact Or.inr ⟨by rfl, rfl⟩
              simp only [List.setIfInBounds_toArray, List.set_cons_zero, List.set_cons_succ]
              refine anyE_tk 28 43 (oi := ?oi137) (v := undef) ?hi137 ?hd137 (by kernel_rfl) (by kernel_rfl) (by kernel_rfl) ?hQ137 ?hy137 hS ?rest137
              case hi137 => simp only [List.getElem?_toArray, List.getElem?_cons_zero, List.getElem?_cons_succ]; rfl
              case hd137 => rfl
              case hQ137 => exact fun _ _ _ h => h
              case hy137 => exact Or.inr ⟨by rfl, rfl⟩
              simp only [List.setIfInBounds_toArray, List.set_cons_zero, List.set_cons_succ]
              refine anyE_tk 29 44 (oi := ?oi138) (v := undef) ?hi138 ?hd138 (by kernel_rfl) (by kernel_rfl) (by kernel_rfl) ?hQ138 ?hy138 hS ?rest138
              case hi138 => simp only [List.getElem?_toArray, List.getElem?_cons_zero, List.getElem?_cons_succ]; rfl
              case hd138 => rfl
              case hQ138 => exact fun _ _ _ h => h
              case hy138 => exact Or.inr ⟨by rfl, rfl⟩
              simp only [List.setIfInBounds_toArray, List.set_cons_zero, List.set_cons_succ]
              refine anyE_tk 30 45 (oi := ?oi139) (v := undef) ?hi139 ?hd139 (by kernel_rfl) (by kernel_rfl) (by kernel_rfl) ?hQ139 ?hy139 hS ?rest139
              case hi139 => simp only [List.getElem?_toArray, List.getElem?_cons_zero, List.getElem?_cons_succ]; rfl
              case hd139 => rfl
              case hQ139 => exact fun _ _ _ h => h
              case hy139 => exact Or.inr ⟨by rfl, rfl⟩
              simp only [List.setIfInBounds_toArray, List.set_cons_zero, List.set_cons_succ]
              refine anyE_tk 31 46 (oi := ?oi140) (v := undef) ?hi140 ?hd140 (by kernel_rfl) (by kernel_rfl) (by kernel_rfl) ?hQ140 ?hy140 hS ?rest140
              case hi140 => simp only [List.getElem?_toArray, List.getElem?_cons_zero, List.getElem?_cons_succ]; rfl
              case hd140 => rfl
              case hQ140 => exact fun _ _ _ h => h
              case hy140 => exact Or.inr ⟨by rfl, rfl⟩
              simp only [List.setIfInBounds_toArray, List.set_cons_zero, List.set_cons_succ]
              refine anyE_tk 32 47 (oi := ?oi141) (v := undef) ?hi141 ?hd141 (by kernel_rfl) (by kernel_rfl) (by kernel_rfl) ?hQ141 ?hy141 hS ?rest141
              case hi141 => simp only [List.getElem?_toArray, List.getElem?_cons_zero, List.getElem?_cons_succ]; rfl
              case hd141 => rfl
              case hQ141 => exact fun _ _ _ h => h
              case hy141 => exact Or.inr ⟨by rfl, rfl⟩
              simp only [List.setIfInBounds_toArray, List.set_cons_zero, List.set_cons_succ]
              refine anyE_tk 33 48 (oi := ?oi142) (v := undef) ?hi142 ?hd142 (by kernel_rfl) (by kernel_rfl) (by kernel_rfl) ?hQ142 ?hy142 hS ?rest142
              case hi142 => simp only [List.getElem?_toArray, List.getElem?_cons_zero, List.getElem?_cons_succ]; rfl
              case hd142 => rfl
              case hQ142 => exact fun _ _ _ h => h
              case hy142 => exact Or.inr ⟨by rfl, rfl⟩
              simp only [List.setIfInBounds_toArray, List.set_cons_zero, List.set_cons_succ]
              refine anyE_tk 34 49 (oi := ?oi143) (v := undef) ?hi143 ?hd143 (by kernel_rfl) (by kernel_rfl) (by kernel_rfl) ?hQ143 ?hy143 hS ?rest143
              case hi143 => simp only [List.getElem?_toArray, List.getElem?_cons_zero, List.getElem?_cons_succ]; rfl
              case hd143 => rfl
              case hQ143 => exact fun _ _ _ h => h
              case hy143 => exact Or.inr ⟨by rfl, rfl⟩
              simp only [List.setIfInBounds_toArray, List.set_cons_zero, List.set_cons_succ]
              refine anyE_tk 35 50 (oi := ?oi144) (v := ?v144) ?hi144 ?hd144 (by kernel_rfl) (by kernel_rfl) (by kernel_rfl) ?hQ144 ?hy144 hS ?rest144
              case hi144 => simp only [List.getElem?_toArray, List.getElem?_cons_zero, List.getElem?_cons_succ]; rfl
              case hd144 => rfl
              case hQ144 => exact fun _ _ _ h => h
              case hy144 => (refine Or.inl ⟨by rfl, ?_⟩; intro w hSw; (try dsimp only at hSw); go_simp; try with_reducible rfl)
              simp only [List.setIfInBounds_toArray, List.set_cons_zero, List.set_cons_succ]
              clear hS
              refine anyE_done (by kernel_rfl) ?_ _
              go_wp2_with fail
              go_ret
              exact ⟨by rw [HR.out]; rfl, Hw.out.trans (Hb2.out.mono Hw.out.size)⟩
          · have s4 : x < 0 := by omega
            clear hs2 s1
            have c1 : decide (x < 0) = true := by simp; omega
            go_wp2_with fail
            refine wp_region_E (S := fun W => W.cell? ⟨g, off + i * 2, none⟩ = some (.int .i64 x) ∧ W.cell? ⟨g, off + i * 2 + 1, none⟩ = some (.int .i64 y) ∧ W.cell? ⟨w.heap.size, 1, none⟩ = some (.slice AI n cI)) (E := fun _ => false) (by kernel_rfl) ?_
            have hbi : Below wr.heap.size wr wr.drew := (Below.refl _ _).drew
            have hS : wr.drew.cell? ⟨g, off + i * 2, none⟩ = some (.int .i64 x) ∧ wr.drew.cell? ⟨g, off + i * 2 + 1, none⟩ = some (.int .i64 y) ∧ wr.drew.cell? ⟨w.heap.size, 1, none⟩ = some (.slice AI n cI) := ⟨q0, q1, z1⟩
            have Hb2 := Lib.hid (Hb1.out.trans (hbi.mono Hb1.out.size))
            generalize wr.drew = wi0 at hS Hb2 ⊢
            clear hbi q0 q1 z0 z1 z2
            refine anyE_tk 0 15 (oi := ?oi145) (v := ?v145) ?hi145 ?hd145 (by kernel_rfl) (by kernel_rfl) (by kernel_rfl) ?hQ145 ?hy145 hS ?rest145
            case hi145 => simp only [List.getElem?_toArray, List.getElem?_cons_zero, List.getElem?_cons_succ]; rfl
            case hd145 => rfl
            case hQ145 => exact fun _ _ _ h => h
            case hy145 => (refine Or.inl ⟨by rfl, ?_⟩; intro w hSw; (try dsimp only at hSw); go_simp; try with_reducible rfl)
            simp only [List.setIfInBounds_toArray, List.set_cons_zero, List.set_cons_succ]
            refine anyE_tk 1 16 (oi := ?oi146) (v := ?v146) ?hi146 ?hd146 (by kernel_rfl) (by kernel_rfl) (by kernel_rfl) ?hQ146 ?hy146 hS ?rest146
            case hi146 => simp only [List.getElem?_toArray, List.getElem?_cons_zero, List.getElem?_cons_succ]; rfl
            case hd146 => rfl
            case hQ146 => exact fun _ _ _ h => h
            case hy146 => (refine Or.inl ⟨by rfl, ?_⟩; intro w hSw; (try dsimp only at hSw); go_simp; try with_reducible rfl)
            simp only [List.setIfInBounds_toArray, List.set_cons_zero, List.set_cons_succ]
            refine anyE_tk 2 17 (oi := ?oi147) (v := ?v147) ?hi147 ?hd147 (by kernel_rfl) (by kernel_rfl) (by kernel_rfl) ?hQ147 ?hy147 hS ?rest147
            case hi147 => simp only [List.getElem?_toArray, List.getElem?_cons_zero, List.getElem?_cons_succ]; rfl
            case hd147 => rfl
            case hQ147 => exact fun _ _ _ h => h
            case hy147 => (refine Or.inl ⟨by rfl, ?_⟩; intro w hSw; (try dsimp only at hSw); go_simp; try with_reducible rfl)
            simp only [List.setIfInBounds_toArray, List.set_cons_zero, List.set_cons_succ]
            refine anyE_tk 3 18 (oi := ?oi148) (v := ?v148) ?hi148 ?hd148 (by kernel_rfl) (by kernel_rfl) (by kernel_rfl) ?hQ148 ?hy148 hS ?rest148
            case hi148 => simp only [List.getElem?_toArray, List.getElem?_cons_zero, List.getElem?_cons_succ]; rfl
            case hd148 => rfl
            case hQ148 => exact fun _ _ _ h => h
            case hy148 => (refine Or.inl ⟨by rfl, ?_⟩; intro w hSw; (try dsimp only at hSw); go_simp; try with_reducible rfl)
            simp only [List.setIfInBounds_toArray, List.set_cons_zero, List.set_cons_succ]
            refine anyE_tk 4 19 (oi := ?oi149) (v := ?v149) ?hi149 ?hd149 (by kernel_rfl) (by kernel_rfl) (by kernel_rfl) ?hQ149 ?hy149 hS ?rest149
            case hi149 => simp only [List.getElem?_toArray, List.getElem?_cons_zero, List.getElem?_cons_succ]; rfl
            case hd149 => rfl
            case hQ149 => exact fun _ _ _ h => h
            case hy149 => (refine Or.inl ⟨by rfl, ?_⟩; intro w hSw; (try dsimp only at hSw); go_simp; try with_reducible rfl)
            simp only [List.setIfInBounds_toArray, List.set_cons_zero, List.set_cons_succ]
            refine anyE_tk 5 20 (oi := ?oi150) (v := ?v150) ?hi150 ?hd150 (by kernel_rfl) (by kernel_rfl) (by kernel_rfl) ?hQ150 ?hy150 hS ?rest150
            case hi150 => simp only [List.getElem?_toArray, List.getElem?_cons_zero, List.getElem?_cons_succ]; rfl
            case hd150 => rfl
            case hQ150 => exact fun _ _ _ h => h
            case hy150 => (refine Or.inl ⟨by rfl, ?_⟩; intro w hSw; (try dsimp only at hSw); go_simp; try with_reducible rfl)
            simp only [List.setIfInBounds_toArray, List.set_cons_zero, List.set_cons_succ]
            refine anyE_tk 6 21 (oi := ?oi151) (v := ?v151) ?hi151 ?hd151 (by kernel_rfl) (by kernel_rfl) (by kernel_rfl) ?hQ151 ?hy151 hS ?rest151
            case hi151 => simp only [List.getElem?_toArray, List.getElem?_cons_zero, List.getElem?_cons_succ]; rfl
            case hd151 => rfl
            case hQ151 => exact fun _ _ _ h => h
            case hy151 => (refine Or.inl ⟨by rfl, ?_⟩; intro w hSw; (try dsimp only at hSw); go_simp; try with_reducible rfl)
            simp only [List.setIfInBounds_toArray, List.set_cons_zero, List.set_cons_succ]
            refine anyE_tk 7 22 (oi := ?oi152) (v := undef) ?hi152 ?hd152 (by kernel_rfl) (by kernel_rfl) (by kernel_rfl) ?hQ152 ?hy152 hS ?rest152
            case hi152 => simp only [List.getElem?_toArray, List.getElem?_cons_zero, List.getElem?_cons_succ]; rfl
            case hd152 => rfl
            case hQ152 => exact fun _ _ _ h => h
            case hy152 => exact Or.inr ⟨by rfl, rfl⟩
            simp only [List.setIfInBounds_toArray, List.set_cons_zero, List.set_cons_succ]
            refine anyE_tk 8 23 (oi := ?oi153) (v := undef) ?hi153 ?hd153 (by kernel_rfl) (by kernel_rfl) (by kernel_rfl) ?hQ153 ?hy153 hS ?rest153
            case hi153 => simp only [List.getElem?_toArray, List.getElem?_cons_zero, List.getElem?_cons_succ]; rfl
            case hd153 => rfl
            case hQ153 => exact fun _ _ _ h => h
            case hy153 => exact Or.inr ⟨by rfl, rfl⟩
            simp only [List.setIfInBounds_toArray, List.set_cons_zero, List.set_cons_succ]
            refine anyE_tk 9 24 (oi := ?oi154) (v := undef) ?hi154 ?hd154 (by kernel_rfl) (by kernel_rfl) (by kernel_rfl) ?hQ154 ?hy154 hS ?rest154
            case hi154 => simp only [List.getElem?_toArray, List.getElem?_cons_zero, List.getElem?_cons_succ]; rfl
            case hd154 => rfl
            case hQ154 => exact fun _ _ _ h => h
            case hy154 => exact Or.inr ⟨by rfl, rfl⟩
            simp only [List.setIfInBounds_toArray, List.set_cons_zero, List.set_cons_succ]
            refine anyE_tk 10 25 (oi := ?oi155) (v := undef) ?hi155 ?hd155 (by kernel_rfl) (by kernel_rfl) (by kernel_rfl) ?hQ155 ?hy155 hS ?rest155
            case hi155 => simp only [List.getElem?_toArray, List.getElem?_cons_zero, List.getElem?_cons_succ]; rfl
            case hd155 => rfl
            case hQ155 => exact fun _ _ _ h => h
            case hy155 => exact Or.inr ⟨by rfl, rfl⟩
            simp only [List.setIfInBounds_toArray, List.set_cons_zero, List.set_cons_succ]
            refine anyE_tk 11 26 (oi := ?oi156) (v := undef) ?hi156 ?hd156 (by kernel_rfl) (by kernel_rfl) (by kernel_rfl) ?hQ156 ?hy156 hS ?rest156
            case hi156 => simp only [List.getElem?_toArray, List.getElem?_cons_zero, List.getElem?_cons_succ]; rfl
            case hd156 => rfl
            case hQ156 => exact fun _ _ _ h => h
            case hy156 => exact Or.inr ⟨by rfl, rfl⟩
            simp only [List.setIfInBounds_toArray, List.set_cons_zero, List.set_cons_succ]
            refine anyE_tk 12 27 (oi := ?oi157) (v := undef) ?hi157 ?hd157 (by kernel_rfl) (by kernel_rfl) (by kernel_rfl) ?hQ157 ?hy157 hS ?rest157
            case hi157 => simp only [List.getElem?_toArray, List.getElem?_cons_zero, List.getElem?_cons_succ]; rfl
            case hd157 => rfl
            case hQ157 => exact fun _ _ _ h => h
            case hy157 => exact Or.inr ⟨by rfl, rfl⟩
            simp only [List.setIfInBounds_toArray, List.set_cons_zero, List.set_cons_succ]
            refine anyE_tk 13 28 (oi := ?oi158) (v := undef) ?hi158 ?hd158 (by kernel_rfl) (by kernel_rfl) (by kernel_rfl) ?hQ158 ?hy158 hS ?rest158
            case hi158 => simp only [List.getElem?_toArray, List.getElem?_cons_zero, List.getElem?_cons_succ]; rfl
            case hd158 => rfl
            case hQ158 => exact fun _ _ _ h => h
            case hy158 => exact Or.inr ⟨by rfl, rfl⟩
            simp only [List.setIfInBounds_toArray, List.set_cons_zero, List.set_cons_succ]
            refine anyE_tk 14 29 (oi := ?oi159) (v := undef) ?hi159 ?hd159 (by kernel_rfl) (by kernel_rfl) (by kernel_rfl) ?hQ159 ?hy159 hS ?rest159
            case hi159 => simp only [List.getElem?_toArray, List.getElem?_cons_zero, List.getElem?_cons_succ]; rfl
            case hd159 => rfl
            case hQ159 => exact fun _ _ _ h => h
            case hy159 => exact Or.inr ⟨by rfl, rfl⟩
            simp only [List.setIfInBounds_toArray, List.set_cons_zero, List.set_cons_succ]
            refine anyE_tk 15 30 (oi := ?oi160) (v := undef) ?hi160 ?hd160 (by kernel_rfl) (by kernel_rfl) (by kernel_rfl) ?hQ160 ?hy160 hS ?rest160
            case hi160 => simp only [List.getElem?_toArray, List.getElem?_cons_zero, List.getElem?_cons_succ]; rfl
            case hd160 => rfl
            case hQ160 => exact fun _ _ _ h => h
            case hy160 => exact Or.inr ⟨by rfl, rfl⟩
            simp only [List.setIfInBounds_toArray, List.set_cons_zero, List.set_cons_succ]
            refine anyE_tk 16 31 (oi := ?oi161) (v := ?v161) ?hi161 ?hd161 (by kernel_rfl) (by kernel_rfl) (by kernel_rfl) ?hQ161 ?hy161 hS ?rest161
            case hi161 => simp only [List.getElem?_toArray, List.getElem?_cons_zero, List.getElem?_cons_succ]; rfl
            case hd161 => rfl
            case hQ161 => exact fun _ _ _ h => h
            case hy161 => (refine Or.inl ⟨by rfl, ?_⟩; intro w hSw; (try dsimp only at hSw); go_simp; try with_reducible rfl)
            simp only [List.setIfInBounds_toArray, List.set_cons_zero, List.set_cons_succ]
            refine anyE_tk 17 32 (oi := ?oi162) (v := ?v162) ?hi162 ?hd162 (by kernel_rfl) (by kernel_rfl) (by kernel_rfl) ?hQ162 ?hy162 hS ?rest162
            case hi162 => simp only [List.getElem?_toArray, List.getElem?_cons_zero, List.getElem?_cons_succ]; rfl
            case hd162 => rfl
            case hQ162 => exact fun _ _ _ h => h
            case hy162 => (refine Or.inl ⟨by rfl, ?_⟩; intro w hSw; (try dsimp only at hSw); go_simp; try with_reducible rfl)
            simp only [List.setIfInBounds_toArray, List.set_cons_zero, List.set_cons_succ]
            refine anyE_tk 18 33 (oi := ?oi163) (v := undef) ?hi163 ?hd163 (by kernel_rfl) (by kernel_rfl) (by kernel_rfl) ?hQ163 ?hy163 hS ?rest163
            case hi163 => simp only [List.getElem?_toArray, List.getElem?_cons_zero, List.getElem?_cons_succ]; rfl
            case hd163 => rfl
            case hQ163 => exact fun _ _ _ h => h
            case hy163 => exact Or.inr ⟨by rfl, rfl⟩
            simp only [List.setIfInBounds_toArray, List.set_cons_zero, List.set_cons_succ]
            refine anyE_tk 19 34 (oi := ?oi164) (v := undef) ?hi164 ?hd164 (by kernel_rfl) (by kernel_rfl) (by kernel_rfl) ?hQ164 ?hy164 hS ?rest164
            case hi164 => simp only [List.getElem?_toArray, List.getElem?_cons_zero, List.getElem?_cons_succ]; rfl
            case hd164 => rfl
            case hQ164 => exact fun _ _ _ h => h
            case hy164 => exact Or.inr ⟨by rfl, rfl⟩
            simp only [List.setIfInBounds_toArray, List.set_cons_zero, List.set_cons_succ]
            refine anyE_tk 20 35 (oi := ?oi165) (v := undef) ?hi165 ?hd165 (by kernel_rfl) (by kernel_rfl) (by kernel_rfl) ?hQ165 ?hy165 hS ?rest165
            case hi165 => simp only [List.getElem?_toArray, List.getElem?_cons_zero, List.getElem?_cons_succ]; rfl
            case hd165 => rfl
            case hQ165 => exact fun _ _ _ h => h
            case hy165 => exact Or.inr ⟨by rfl, rfl⟩
            simp only [List.setIfInBounds_toArray, List.set_cons_zero, List.set_cons_succ]
            refine anyE_tk 21 36 (oi := ?oi166) (v := undef) ?hi166 ?hd166 (by kernel_rfl) (by kernel_rfl) (by kernel_rfl) ?hQ166 ?hy166 hS ?rest166
            case hi166 => simp only [List.getElem?_toArray, List.getElem?_cons_zero, List.getElem?_cons_succ]; rfl
            case hd166 => rfl
            case hQ166 => exact fun _ _ _ h => h
            case hy166 => exact Or.inr ⟨by rfl, rfl⟩
            simp only [List.setIfInBounds_toArray, List.set_cons_zero, List.set_cons_succ]
            refine anyE_tk 22 37 (oi := ?oi167) (v := undef) ?hi167 ?hd167 (by kernel_rfl) (by kernel_rfl) (by kernel_rfl) ?hQ167 ?hy167 hS ?rest167
            case hi167 => simp only [List.getElem?_toArray, List.getElem?_cons_zero, List.getElem?_cons_succ]; rfl
            case hd167 => rfl
            case hQ167 => exact fun _ _ _ h => h
            case hy167 => exact Or.inr ⟨by rfl, rfl⟩
            simp only [List.setIfInBounds_toArray, List.set_cons_zero, List.set_cons_succ]
            refine anyE_tk 23 38 (oi := ?oi168) (v := undef) ?hi168 ?hd168 (by kernel_rfl) (by kernel_rfl) (by kernel_rfl) ?hQ168 ?hy168 hS ?rest168
            case hi168 => simp only [List.getElem?_toArray, List.getElem?_cons_zero, List.getElem?_cons_succ]; rfl
            case hd168 => rfl
            case hQ168 => exact fun _ _ _ h => h
            case hy168 => exact Or.inr ⟨by rfl, rfl⟩
            simp only [List.setIfInBounds_toArray, List.set_cons_zero, List.set_cons_succ]
            refine anyE_tk 24 39 (oi := ?oi169) (v := ?v169) ?hi169 ?hd169 (by kernel_rfl) (by kernel_rfl) (by kernel_rfl) ?hQ169 ?hy169 hS ?rest169
            case hi169 => simp only [List.getElem?_toArray, List.getElem?_cons_zero, List.getElem?_cons_succ]; rfl
            case hd169 => rfl
            case hQ169 => exact fun _ _ _ h => h
            case hy169 => (refine Or.inl ⟨by rfl, ?_⟩; intro w hSw; (try dsimp only at hSw); go_simp; try with_reducible rfl)
            simp only [List.setIfInBounds_toArray, List.set_cons_zero, List.set_cons_succ]
            refine anyE_tk 25 40 (oi := ?oi170) (v := ?v170) ?hi170 ?hd170 (by kernel_rfl) (by kernel_rfl) (by kernel_rfl) ?hQ170 ?hy170 hS ?rest170
            case hi170 => simp only [List.getElem?_toArray, List.getElem?_cons_zero, List.getElem?_cons_succ]; rfl
            case hd170 => rfl
            case hQ170 => exact fun _ _ _ h => h
            case hy170 => (refine Or.inl ⟨by rfl, ?_⟩; intro w hSw; (try dsimp only at hSw); go_simp; try with_reducible rfl)
            simp only [List.setIfInBounds_toArray, List.set_cons_zero, List.set_cons_succ]
            refine anyE_tk 26 41 (oi := ?oi171) (v := undef) ?hi171 ?hd171 (by kernel_rfl) (by kernel_rfl) (by kernel_rfl) ?hQ171 ?hy171 hS ?rest171
            case hi171 => simp only [List.getElem?_toArray, List.getElem?_cons_zero, List.getElem?_cons_succ]; rfl
            case hd171 => rfl
            case hQ171 => exact fun _ _ _ h => h
            case hy171 => exact Or.inr ⟨by rfl, rfl⟩
            simp only [List.setIfInBounds_toArray, List.set_cons_zero, List.set_cons_succ]
            refine anyE_tk 27 42 (oi := ?oi172) (v := undef) ?hi172 ?hd172 (by kernel_rfl) (by kernel_rfl) (by kernel_rfl) ?hQ172 ?hy172 hS ?rest172
            case hi172 => simp only [List.getElem?_toArray, List.getElem?_cons_zero, List.getElem?_cons_succ]; rfl
            case hd172 => rfl
            case hQ172 => exact fun _ _ _ h => h
            case hy172 => exact Or.inr ⟨by rfl, rfl⟩
            simp only [List.setIfInBounds_toArray, List.set_cons_zero, List.set_cons_succ]
            refine anyE_tk 28 43 (oi := ?oi173) (v := undef) ?hi173 ?hd173 (by kernel_rfl) (by kernel_rfl) (by kernel_rfl) ?hQ173 ?hy173 hS ?rest173
            case hi173 => simp only [List.getElem?_toArray, List.getElem?_cons_zero, List.getElem?_cons_succ]; rfl
            case hd173 => rfl
            case hQ173 => exact fun _ _ _ h => h
            case hy173 => exact Or.inr ⟨by rfl, rfl⟩
            simp only [List.setIfInBounds_toArray, List.set_cons_zero, List.set_cons_succ]
            refine anyE_tk 29 44 (oi := ?oi174) (v := undef) ?hi174 ?hd174 (by kernel_rfl) (by kernel_rfl) (by kernel_rfl) ?hQ174 ?hy174 hS ?rest174
            case hi174 => simp only [List.getElem?_toArray, List.getElem?_cons_zero, List.getElem?_cons_succ]; rfl
            case hd174 => rfl
            case hQ174 => exact fun _ _ _ h => h
            case hy174 => exact Or.inr ⟨by rfl, rfl⟩
            simp only [List.setIfInBounds_toArray, List.set_cons_zero, List.set_cons_succ]
            refine anyE_tk 30 45 (oi := ?oi175) (v := undef) ?hi175 ?hd175 (by kernel_rfl) (by kernel_rfl) (by kernel_rfl) ?hQ175 ?hy175 hS ?rest175
            case hi175 => simp only [List.getElem?_toArray, List.getElem?_cons_zero, List.getElem?_cons_succ]; rfl
            case hd175 => rfl
            case hQ175 => exact fun _ _ _ h => h
            case hy175 => exact Or.inr ⟨by rfl, rfl⟩
            simp only [List.setIfInBounds_toArray, List.set_cons_zero, List.set_cons_succ]
            refine anyE_tk 31 46 (oi := ?oi176) (v := undef) ?hi176 ?hd176 (by kernel_rfl) (by kernel_rfl) (by kernel_rfl) ?hQ176 ?hy176 hS ?rest176
            case hi176 => simp only [List.getElem?_toArray, List.getElem?_cons_zero, List.getElem?_cons_succ]; rfl
            case hd176 => rfl
            case hQ176 => exact fun _ _ _ h => h
            case hy176 => exact Or.inr ⟨by rfl, rfl⟩
            simp only [List.setIfInBounds_toArray, List.set_cons_zero, List.set_cons_succ]
            refine anyE_tk 32 47 (oi := ?oi177) (v := undef) ?hi177 ?hd177 (by kernel_rfl) (by kernel_rfl) (by kernel_rfl) ?hQ177 ?hy177 hS ?rest177
            case hi177 => simp only [List.getElem?_toArray, List.getElem?_cons_zero, List.getElem?_cons_succ]; rfl
            case hd177 => rfl
            case hQ177 => exact fun _ _ _ h => h
            case hy177 => exact Or.inr ⟨by rfl, rfl⟩
            simp only [List.setIfInBounds_toArray, List.set_cons_zero, List.set_cons_succ]
            refine anyE_tk 33 48 (oi := ?oi178) (v := undef) ?hi178 ?hd178 (by kernel_rfl) (by kernel_rfl) (by kernel_rfl) ?hQ178 ?hy178 hS ?rest178
            case hi178 => simp only [List.getElem?_toArray, List.getElem?_cons_zero, List.getElem?_cons_succ]; rfl
            case hd178 => rfl
            case hQ178 => exact fun _ _ _ h => h
            case hy178 => exact Or.inr ⟨by rfl, rfl⟩
            simp only [List.setIfInBounds_toArray, List.set_cons_zero, List.set_cons_succ]
            refine anyE_tk 34 49 (oi := ?oi179) (v := undef) ?hi179 ?hd179 (by kernel_rfl) (by kernel_rfl) (by kernel_rfl) ?hQ179 ?hy179 hS ?rest179
            case hi179 => simp only [List.getElem?_toArray, List.getElem?_cons_zero, List.getElem?_cons_succ]; rfl
            case hd179 => rfl
            case hQ179 => exact fun _ _ _ h => h
            case hy179 => exact Or.inr ⟨by rfl, rfl⟩
            simp only [List.setIfInBounds_toArray, List.set_cons_zero, List.set_cons_succ]
            refine anyE_tk 35 50 (oi := ?oi180) (v := ?v180) ?hi180 ?hd180 (by kernel_rfl) (by kernel_rfl) (by kernel_rfl) ?hQ180 ?hy180 hS ?rest180
            case hi180 => simp only [List.getElem?_toArray, List.getElem?_cons_zero, List.getElem?_cons_succ]; rfl
            case hd180 => rfl
            case hQ180 => exact fun _ _ _ h => h
            case hy180 => (refine Or.inl ⟨by rfl, ?_⟩; intro w hSw; (try dsimp only at hSw); go_simp; try with_reducible rfl)
            simp only [List.setIfInBounds_toArray, List.set_cons_zero, List.set_cons_succ]
            clear hS
            refine anyE_done (by kernel_rfl) ?_ _
            go_wp2_with fail
            go_ret
            exact ⟨by rw [HR.out]; rfl, Hw.out.trans (Hb2.out.mono Hw.out.size)⟩
      · obtain rfl : i = ss.length := by omega
        have HR := Lib.hid (Hg.out fun s hs => HO.out s (by rw [List.take_of_length_le (Nat.le_refl _)]; exact hs))
        have Hb1 := Lib.hid hb
        clear hb HO Hbd Hg
        go_wp2_with fail
        go_ret
        exact ⟨by rw [HR.out]; rfl, Hw.out.trans (Hb1.out.mono Hw.out.size)⟩
  · have hd : decide ((8 : Int) < (ss.length : Int)) = true := by simp; omega
    have HR := Lib.hid (sw_long (n := n) h8)
    have hw0 := Lib.hid (show Below w.heap.size w (w.alloc (.cells #[.int .i64 b.p, .slice AI n cI, .slice AR b.rus.length cR] 25)) from balloc (Below.refl _ _) _)
    clear h8 hT hB
    go_enter Tryd.func96, Tryd.ntmps96
    go_wp2_with fail
    go_ret
    exact ⟨by rw [HR.out]; rfl, hw0.out⟩
end Go.Proofs.YtgoojcjfhghmgaaDoor
