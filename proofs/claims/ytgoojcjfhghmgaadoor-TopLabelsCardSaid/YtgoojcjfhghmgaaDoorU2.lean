/- A book whose rules are reduced; rules that are written over: plain. -/
import Derived.Test.YtgoojcjfhghmgaaDoorDisEe
import Derived.Test.YtgoojcjfhghmgaaDoorDisHc
import Derived.Test.YtgoojcjfhghmgaaDoorDisIa
import Derived.Test.YtgoojcjfhghmgaaDoorU1
import Derived.Laws.ResultCell

set_option linter.unusedSimpArgs false
set_option linter.unusedVariables false
namespace Go.Proofs.YtgoojcjfhghmgaaDoor
open Go Go.RowKit Go.Sort

theorem own_take {w : World} {base e s n c : Nat} {A : Option Addr} {xs : List Value} (h : w.ownsRow base e s (.slice A n c) n xs) {m : Nat} (hm : m ≤ n) (hn : 0 < n) : w.ownsRow base e s (.slice A m c) m (xs.take (m * s)) := by
  obtain ⟨g, cs, rfl, hb, hk, h1, h2, h3, rfl⟩ := own_blk h hn
  refine blk_own hb hk (by omega) h2 h3 ?_
  rw [List.take_take, Nat.min_eq_left (Nat.mul_le_mul_right s hm)]
theorem compact_own2 (base c : Nat) (A : Option Addr) (zs : List Int) (w : World) (hz : zs.length ≤ 1000000) (hown : w.ownsRow base 3 1 (.slice A zs.length c) zs.length (zs.map (Value.int .i64))) :
    Calls Tryd.prog 118 #[.slice A zs.length c] w fun e w' => e = .returned (.slice A (Lib.compact zs).length c) ∧ w'.ownsRow base 3 1 (.slice A (Lib.compact zs).length c) (Lib.compact zs).length ((Lib.compact zs).map (Value.int .i64)) ∧ w.grownBy w' (Value.slice A zs.length c).ownBlock := by
  by_cases h0 : zs.length = 0
  · obtain rfl : zs = [] := List.eq_nil_of_length_eq_zero h0
    refine (Tryd.slices_Compact_int_empty A c w).mono ?_
    rintro e w' ⟨rfl, rfl⟩
    exact ⟨rfl, hown, World.grownBy.refl _ _⟩
  · rcases hown.2 with ⟨_, h1⟩ | ⟨gb, cap, cur, hv, hbase, hgb, r1, r2, r3, r4⟩
    · exact absurd h1 h0
    · injection hv with e1 e2 e3
      subst e1 e3
      have hH : Holds (Value.int .i64) w gb 0 zs.toArray := holds_of_block_i hgb (by simpa using r4)
      have hcl := Lib.compact_length_le zs
      refine (Tryd.slices_Compact_int gb 0 c zs w hH (by omega) r1).mono ?_
      rintro e w' ⟨rfl, q, rfl⟩
      have hts : (Lib.compact zs ++ List.replicate (zs.length - (Lib.compact zs).length) 0).length = zs.length := by simp; omega
      have ho := ownsRow_sorted_i (os := #[]) (n := q) hts hbase hgb r1 r2 r3
      have hg := grownBy_sorted_i (w := w) (g := gb) (n := q) (os := #[]) (Lib.compact zs ++ List.replicate (zs.length - (Lib.compact zs).length) 0).toArray
      have e0 : ∀ W : World, grow W #[] = W := fun W => by simp [grow]
      rw [e0] at ho hg
      have ht := own_take ho (m := (Lib.compact zs).length) hcl (by omega)
      rw [Nat.mul_one, List.map_append, List.take_left' (by simp)] at ht
      exact ⟨rfl, ht, hg⟩
theorem sorted_own (A : Option Addr) (c B : Nat) (l : List Int) (w : World) (hz : l.length ≤ 1000000) (h : IntsAt B w A l) :
    Calls Tryd.prog 105 #[.slice A l.length c] w fun e w' => ∃ A' c', e = .returned (.slice A' (srt l).length c') ∧ w'.ownsRow w.heap.size 3 1 (.slice A' (srt l).length c') (srt l).length ((srt l).map (Value.int .i64)) ∧ Below w.heap.size w w' := by
  have cc := Lib.hid (clone_any A c B l w hz h)
  have hlen : (l.mergeSort fun x y => decide (x ≤ y)).length = l.length := by simp
  clear h
  go_enter Tryd.func105, Tryd.ntmps105
  go_wp2_with (first
    | (go_at_call 112; refine cc.out.mono ?_; rintro e w1 ⟨v, rfl, hrow, hb⟩; obtain ⟨A1, c1, hv⟩ := own_form hrow; subst hv)
    | (go_at_call 117; refine (sort_own w.heap.size _ l _ hz hrow).mono ?_; rintro e w2 ⟨rfl, hrow2, hg⟩; have hb2 : Below w.heap.size w w2 := hb.grown hg hb.size fun k hk => (hrow.lt k hk).1; rw [← hlen] at hrow2)
    | (go_at_call 118; rw [← hlen]; refine (compact_own2 w.heap.size c1 A1 _ _ (by rw [hlen]; exact hz) hrow2).mono ?_; rintro e w3 ⟨rfl, hI3, hg3⟩))
  go_ret
  exact ⟨A1, c1, rfl, hI3, hb2.grown hg3 hb2.size fun k hk => (hrow2.lt k hk).1⟩

theorem index_any (A : Option Addr) (c B : Nat) (zs : List Int) (x : Int) (w : World) (hz : zs.length ≤ 1000000) (h : IntsAt B w A zs) :
    Calls Tryd.prog 111 #[.slice A zs.length c, .int .i64 x] w fun e w' => e = .returned (.int .i64 (Lib.idxOf zs x)) ∧ w' = w := by
  by_cases h0 : zs.length = 0
  · obtain rfl : zs = [] := List.eq_nil_of_length_eq_zero h0
    exact Tryd.slices_Index_int_empty A c x w
  · obtain ⟨b, off, rfl, _, _⟩ := h.at (k := 0) (by omega)
    refine (Tryd.slices_Index_int b off zs.length c zs x w (Nat.le_refl _) (by omega) (fun j hj => ?_)).mono fun e w' ⟨he, hw⟩ => ⟨by rw [he, List.take_length], hw⟩
    rw [(h.cells hj).2]; simp [hj]
theorem idx_in {l : List Int} (hA : l.Pairwise (· < ·)) {x : Int} (h : x ∈ l) : ∃ k, ∃ hk : k < l.length, Lib.idxOf l x = (k : Nat) ∧ l[k] = x := by
  obtain ⟨k, hk, rfl⟩ := List.getElem_of_mem h
  refine ⟨k, hk, ?_, rfl⟩
  have := Lib.idxOf_hit l l.length k l[k] hk (Nat.le_refl _) (by simp [hk]) (fun j hj => by
    have := List.pairwise_iff_getElem.1 hA j k (by omega) hk hj
    rw [List.getD_eq_getElem?_getD, List.getElem?_eq_getElem (by omega)]
    simp only [Option.getD_some]
    omega)
  rwa [List.take_length] at this
theorem idx_out {l : List Int} {x : Int} (h : x ∉ l) : Lib.idxOf l x = -1 := by
  have := Lib.idxOf_miss l l.length x (fun j hj e => by
    rw [List.getD_eq_getElem?_getD, List.getElem?_eq_getElem hj] at e
    simp only [Option.getD_some] at e
    exact h (by rw [← e]; exact List.getElem_mem hj))
  rwa [List.take_length] at this
theorem compactUpTo_in (d : Array Int) : ∀ (m : Nat), m ≤ d.size → ∀ j (hj : j < d.size), j < m → d[j] ∈ Lib.compactUpTo d m
  | 0, _, j, hj, h => by omega
  | m + 1, hm, j, hj, h => by
    rw [Lib.compactUpTo_succ, List.mem_append]
    by_cases hjm : j < m
    · exact .inl (compactUpTo_in d m (by omega) j hj hjm)
    · obtain rfl : j = m := by omega
      by_cases hk : Lib.keeps d j = true
      · rw [if_pos hk]; exact .inr (by simp [getElem!_pos d j hj])
      · have h0 : ¬ (j = 0 ∨ d[j]! ≠ d[j - 1]!) := fun e => hk (by unfold Lib.keeps; simpa using e)
        have hj0 : j ≠ 0 := fun e => h0 (.inl e)
        have he : d[j]! = d[j - 1]! := Classical.byContradiction fun e => h0 (.inr e)
        rw [getElem!_pos d j hj, getElem!_pos d (j - 1) (by omega)] at he
        rw [he]
        exact .inl (compactUpTo_in d j (by omega) (j - 1) (by omega) (by omega))
theorem mem_srt {l : List Int} {x : Int} : x ∈ srt l ↔ x ∈ l := by
  unfold srt Lib.compact
  rw [← (List.mergeSort_perm l fun x y => decide (x ≤ y)).mem_iff]
  generalize l.mergeSort (fun x y => decide (x ≤ y)) = s
  constructor
  · intro h
    obtain ⟨j, hj, _, rfl⟩ := compactUpTo_mem s.toArray _ (by simp) x h
    exact List.getElem_mem (by simpa using hj)
  · intro h
    obtain ⟨k, hk, rfl⟩ := List.getElem_of_mem h
    exact compactUpTo_in s.toArray _ (by simp) k (by simpa using hk) hk
end Go.Proofs.YtgoojcjfhghmgaaDoor


set_option linter.unusedSimpArgs false
set_option linter.unusedVariables false
namespace Go.Proofs.YtgoojcjfhghmgaaDoor
open Go Go.RowKit

/-- Parts of an item after an exchange. -/
def exM (P : List Int) (s : Int × Int) : List Int := if s.1 ∈ P then srt (P.map fun y => if y = s.1 then s.2 else y) else P
theorem exM_out {P : List Int} {s : Int × Int} (h : s.1 ∉ P) : exM P s = P := if_neg h
theorem exM_asc {P : List Int} {s : Int × Int} (h : P.Pairwise (· < ·)) : (exM P s).Pairwise (· < ·) := by
  unfold exM
  split
  · exact srt_asc _
  · exact h
theorem exM_length (P : List Int) (s : Int × Int) : (exM P s).length ≤ P.length := by
  unfold exM
  split
  · exact Nat.le_trans (srt_length _) (by simp)
  · exact Nat.le_refl _
theorem mem_exM {P : List Int} {s : Int × Int} {x : Int} (hs : s.1 ∈ P) : x ∈ exM P s ↔ (x ∈ P ∧ x ≠ s.1) ∨ x = s.2 := by
  unfold exM
  rw [if_pos hs, mem_srt, List.mem_map]
  constructor
  · rintro ⟨y, hy, rfl⟩
    by_cases e : y = s.1
    · rw [if_pos e]; exact .inr rfl
    · rw [if_neg e]; exact .inl ⟨hy, e⟩
  · rintro (⟨h1, h2⟩ | rfl)
    · exact ⟨x, h1, if_neg h2⟩
    · exact ⟨s.1, hs, if_pos rfl⟩
theorem exM_set {P : List Int} {s : Int × Int} (h : P.Pairwise (· < ·)) {k : Nat} (hk : k < P.length) (he : P[k] = s.1) : srt (P.set k s.2) = exM P s := by
  have hs : s.1 ∈ P := by rw [← he]; exact List.getElem_mem hk
  unfold exM
  rw [if_pos hs]
  congr 1
  apply List.ext_getElem (by simp)
  intro i h1 h2
  have hi : i < P.length := by simpa using h1
  rw [List.getElem_set, List.getElem_map]
  by_cases e : k = i
  · subst e; rw [if_pos rfl, if_pos he]
  · rw [if_neg e, if_neg]
    intro e2
    have e3 : P[i] = P[k] := e2.trans he.symm
    rcases Nat.lt_or_gt_of_ne e with hl | hl
    · have := List.pairwise_iff_getElem.1 h k i hk hi hl; omega
    · have := List.pairwise_iff_getElem.1 h i k hi hk hl; omega
/-- The items after an exchange, as far as item k. -/
def exK (l : List It) (s : Int × Int) (k : Nat) : List It := l.mapIdx fun i x => if i < k then (exM x.1 s, x.2) else x
theorem exK_length (l : List It) (s : Int × Int) (k : Nat) : (exK l s k).length = l.length := by simp [exK]
theorem exK_get (l : List It) (s : Int × Int) (k : Nat) {i : Nat} (hi : i < l.length) : (exK l s k)[i]'(by rw [exK_length]; exact hi) = if i < k then (exM l[i].1 s, l[i].2) else l[i] := by simp [exK]
theorem exK_zero (l : List It) (s : Int × Int) : exK l s 0 = l := by
  apply List.ext_getElem (by simp [exK])
  intro i h1 h2
  rw [exK_get l s 0 h2, if_neg (by omega)]
theorem exK_set (l : List It) (s : Int × Int) {k : Nat} (hk : k < l.length) : (exK l s k).set k (exM l[k].1 s, l[k].2) = exK l s (k + 1) := by
  apply List.ext_getElem (by simp [exK])
  intro i h1 h2
  have hi : i < l.length := by simpa [exK] using h2
  rw [List.getElem_set, exK_get l s (k + 1) hi]
  by_cases e : k = i
  · subst e; rw [if_pos rfl, if_pos (by omega)]
  · rw [if_neg e, exK_get l s k hi]
    by_cases h : i < k
    · rw [if_pos h, if_pos (by omega)]
    · rw [if_neg h, if_neg (by omega)]
theorem exK_skip (l : List It) (s : Int × Int) {k : Nat} (hk : k < l.length) (h : exM l[k].1 s = l[k].1) : exK l s k = exK l s (k + 1) := by
  rw [← exK_set l s hk, h]
  apply List.ext_getElem (by simp)
  intro i h1 h2
  rw [List.getElem_set]
  by_cases e : k = i
  · subst e; rw [if_pos rfl, exK_get l s k hk, if_neg (by omega)]
  · rw [if_neg e]
/-- No part would come after its item. -/
def exOk (l : List It) (s : Int × Int) : Prop := ∀ k (hk : k < l.length), s.1 ∈ l[k].1 → s.2 < k
/-- Ordered parts, each before its item. -/
def Ord (l : List It) : Prop := ∀ k (hk : k < l.length), l[k].1.Pairwise (· < ·) ∧ ∀ x ∈ l[k].1, 0 ≤ x ∧ x < (k : Int)
theorem Ord.next {l : List It} {s : Int × Int} (h : Ord l) (ho : exOk l s) (h0 : 0 ≤ s.2) : Ord (exK l s l.length) := fun k hk => by
  have hk' : k < l.length := by rwa [exK_length] at hk
  rw [exK_get l s l.length hk', if_pos hk']
  refine ⟨exM_asc (h k hk').1, fun x hx => ?_⟩
  by_cases hs : s.1 ∈ l[k].1
  · rcases (mem_exM hs).1 hx with ⟨h1, _⟩ | rfl
    · exact (h k hk').2 x h1
    · exact ⟨h0, ho k hk' hs⟩
  · rw [exM_out hs] at hx; exact (h k hk').2 x hx
open Classical in
/-- The items after exchanges, if none fails. -/
noncomputable def exN (l : List It) (ss : List (Int × Int)) : Option (List It) := ss.foldl (fun o s => o.bind fun l => if exOk l s then some (exK l s l.length) else none) (some l)
theorem exN_nil (l : List It) : exN l [] = some l := rfl
theorem exN_good {l m : List It} {ss : List (Int × Int)} {j : Nat} (hj : j < ss.length) (h : exN l (ss.take j) = some m) (ho : exOk m ss[j]) : exN l (ss.take (j + 1)) = some (exK m ss[j] m.length) := by
  unfold exN at h ⊢
  rw [List.take_succ_eq_append_getElem hj, List.foldl_append, h]
  simp [ho]
theorem exN_none : ∀ (ss : List (Int × Int)), (ss.foldl (fun o s => o.bind fun l => open Classical in if exOk l s then some (exK l s l.length) else none) none) = none
  | [] => rfl
  | s :: ss => by rw [List.foldl_cons]; exact exN_none ss
theorem exN_bad {l m : List It} {ss : List (Int × Int)} {j : Nat} (hj : j < ss.length) (h : exN l (ss.take j) = some m) (ho : ¬ exOk m ss[j]) : exN l ss = none := by
  unfold exN at h ⊢
  conv => lhs; rw [← List.take_append_drop j ss]
  rw [List.foldl_append, h, List.drop_eq_getElem_cons hj, List.foldl_cons]
  simp only [Option.bind_some, ho, if_false]
  exact exN_none _
theorem exN_facts {l : List It} (hl : Ord l) : ∀ {ss : List (Int × Int)}, (∀ s ∈ ss, 0 ≤ s.2) → ∀ (j : Nat) {m : List It}, j ≤ ss.length → exN l (ss.take j) = some m → Ord m ∧ m.length = l.length ∧ ∀ (M : Nat), (∀ x ∈ l, x.1.length ≤ M ∧ x.2.length ≤ M) → ∀ x ∈ m, x.1.length ≤ M ∧ x.2.length ≤ M
  | ss, h0, 0, m, _, h => by
    have : l = m := by simpa [exN] using h
    subst this
    exact ⟨hl, rfl, fun M hM => hM⟩
  | ss, h0, j + 1, m, hj, h => by
    have hjl : j < ss.length := hj
    unfold exN at h
    rw [List.take_succ_eq_append_getElem hjl, List.foldl_append, List.foldl_cons, List.foldl_nil] at h
    obtain ⟨m0, e0, h⟩ := Option.bind_eq_some_iff.1 h
    obtain ⟨g1, g2, g3⟩ := exN_facts hl h0 j (by omega) (show exN l (ss.take j) = some m0 from e0)
    split at h
    · rename_i ho
      injection h with h
      subst h
      refine ⟨g1.next ho (h0 _ (List.getElem_mem hjl)), by rw [exK_length, g2], fun M hM x hx => ?_⟩
      obtain ⟨i, hi, rfl⟩ := List.getElem_of_mem hx
      have hi' : i < m0.length := by rwa [exK_length] at hi
      rw [exK_get m0 _ _ hi', if_pos hi']
      have := g3 M hM _ (List.getElem_mem hi')
      have h2 := exM_length m0[i].1 ss[j]
      exact ⟨by simp only; omega, this.2⟩
    · cases h
/-- What is wrong with exchanges. -/
def swE (n : Nat) (ss : List (Int × Int)) : Int := if 8 < ss.length then 4 else if (ss.all fun s => decide (0 ≤ s.1 ∧ s.1 < (n : Int) ∧ 0 ≤ s.2 ∧ s.2 < (n : Int))) = true then 0 else 5
theorem sw_zero {n : Nat} {ss : List (Int × Int)} (h : swE n ss = 0) : ss.length ≤ 8 ∧ ∀ s ∈ ss, 0 ≤ s.1 ∧ s.1 < (n : Int) ∧ 0 ≤ s.2 ∧ s.2 < (n : Int) := by
  unfold swE at h
  split at h
  · cases h
  · split at h
    · rename_i h1 h2
      exact ⟨by omega, fun s hs => by simpa using List.all_eq_true.1 h2 s hs⟩
    · cases h
theorem vl_ord {b : Bk} (h : VBk b) : Ord b.its := fun k hk => by
  have := (h.parts k hk).2.1
  unfold isS at this
  rw [Bool.and_eq_true, decide_eq_true_eq, List.all_eq_true] at this
  exact ⟨this.1, fun x hx => by simpa using this.2 x hx⟩
end Go.Proofs.YtgoojcjfhghmgaaDoor


set_option linter.unusedSimpArgs false
set_option linter.unusedVariables false
namespace Go.Proofs.YtgoojcjfhghmgaaDoor
open Go Go.RowKit

theorem exN_cons (l : List It) (s : Int × Int) (ss : List (Int × Int)) : exN l (s :: ss) = open Classical in if exOk l s then exN (exK l s l.length) ss else none := by
  unfold exN
  rw [List.foldl_cons]
  simp only [Option.bind_some]
  split
  · rfl
  · exact exN_none ss
/-- What each exchange keeps. -/
theorem exN_inv {P : Nat → It → Prop} : ∀ {ss : List (Int × Int)} {l m : List It}, (∀ s ∈ ss, ∀ k x, P k x → (s.1 ∈ x.1 → s.2 < (k : Int)) → P k (exM x.1 s, x.2)) → (∀ k (hk : k < l.length), P k l[k]) → exN l ss = some m → m.length = l.length ∧ ∀ k (hk : k < m.length), P k m[k]
  | [], l, m, _, h, e => by
    have : l = m := by simpa [exN_nil] using e
    subst this
    exact ⟨rfl, h⟩
  | s :: ss, l, m, hs, h, e => by
    rw [exN_cons] at e
    split at e
    · rename_i ho
      have := exN_inv (P := P) (fun t ht => hs t (List.mem_cons_of_mem _ ht)) (fun k hk => by
        have hk' : k < l.length := by rwa [exK_length] at hk
        rw [exK_get l s l.length hk', if_pos hk']
        exact hs s (by simp) k _ (h k hk') (ho k hk')) e
      rwa [exK_length] at this
    · cases e
theorem isS_exM {P : List Int} {s : Int × Int} {k : Nat} (h : isS P k = true) (h0 : 0 ≤ s.2) (ho : s.1 ∈ P → s.2 < (k : Int)) : isS (exM P s) k = true := by
  unfold isS at h ⊢
  rw [Bool.and_eq_true, decide_eq_true_eq, List.all_eq_true] at h ⊢
  refine ⟨exM_asc h.1, fun x hx => ?_⟩
  by_cases hs : s.1 ∈ P
  · rcases (mem_exM hs).1 hx with ⟨h1, _⟩ | rfl
    · exact h.2 x h1
    · simpa using ⟨h0, ho hs⟩
  · rw [exM_out hs] at hx; exact h.2 x hx
/-- A valid book stays valid. -/
theorem exN_vbk {b : Bk} (hv : VBk b) {ss : List (Int × Int)} (h0 : ∀ s ∈ ss, 0 ≤ s.2) {m : List It} (h : exN b.its ss = some m) : VBk ⟨b.p, m, b.rus⟩ ∧ m.length = b.its.length := by
  have := exN_inv (P := fun k x => x.1.length ≤ 6 ∧ isS x.1 (k : Int) = true ∧ isS x.2 b.p = true) (fun s hs k x hx ho => ⟨Nat.le_trans (exM_length _ _) hx.1, isS_exM hx.2.1 (h0 s hs) ho, hx.2.2⟩) hv.parts h
  exact ⟨⟨hv.p0, hv.p1, by show m.length ≤ 20; rw [this.1]; exact hv.ni, hv.nr, this.2, hv.rules⟩, this.1⟩
theorem vbk_short {b : Bk} (hv : VBk b) : Short b := by
  have hlen : ∀ {l : List Int} {n : Int}, n ≤ 20 → isS l n = true → l.length ≤ 20 := by
    intro l n hn h
    have h2 := isS_mem h
    unfold isS at h
    rw [Bool.and_eq_true, decide_eq_true_eq] at h
    have h3 : (natL l).Nodup := by
      unfold natL
      refine List.Pairwise.map _ ?_ (List.Pairwise.and_mem.1 h.1)
      rintro a b' ⟨ha, hb, hab⟩
      have := h2 a ha; have := h2 b' hb
      omega
    have := nodup_len 20 (natL l) h3 (fun i hi => by
      obtain ⟨a, ha, rfl⟩ := List.mem_map.1 hi
      have := h2 a ha
      omega)
    rwa [natL_length] at this
  refine ⟨by have := hv.ni; omega, by have := hv.nr; omega, fun x hx => ?_, fun x hx => ?_⟩
  · obtain ⟨k, hk, rfl⟩ := List.getElem_of_mem hx
    have := hv.parts k hk
    have h2 := hlen (by have := hv.p1; omega) this.2.2
    exact ⟨by omega, by omega⟩
  · have := hlen (by have := hv.p1; omega) (ruOk_mem (hv.rules x hx)).1
    omega
/-- The exchanges of a set. -/
def chS (ss : List (Int × Int)) (n : Nat) : List (Int × Int) := (bl n).map fun i => ss[i]?.getD (0, 0)
theorem chS_length (ss : List (Int × Int)) (n : Nat) : (chS ss n).length = (bl n).length := by simp [chS]
theorem set_small {ss : List (Int × Int)} (h8 : ss.length ≤ 8) {n : Nat} (hn : n < 2 ^ ss.length) : n < 2 ^ 8 := Nat.lt_of_lt_of_le hn (Nat.pow_le_pow_right (by decide) h8)
theorem chS_facts {ss : List (Int × Int)} (h8 : ss.length ≤ 8) {n : Nat} (hn : n < 2 ^ ss.length) : (∀ i ∈ bl n, i < ss.length) ∧ (bl n).length ≤ 8 ∧ ∀ s ∈ chS ss n, s ∈ ss := by
  have h1 : ∀ i ∈ bl n, i < ss.length := fun i hi => bl_lt hn (by omega) hi
  refine ⟨h1, Nat.le_trans (bl_length hn (by omega)) h8, fun s hs => ?_⟩
  obtain ⟨i, hi, rfl⟩ := List.mem_map.1 hs
  rw [List.getElem?_eq_getElem (h1 i hi)]
  exact List.getElem_mem _
/-- The exchanges of a set, as far as its k-th. -/
def chTo (ss : List (Int × Int)) (n k : Nat) : List (Int × Int) := (chS ss n).take k
theorem chTo_all (ss : List (Int × Int)) (n : Nat) : chTo ss n (bl n).length = chS ss n := by rw [chTo, ← chS_length ss n, List.take_length]
theorem chTo_succ {ss : List (Int × Int)} {n k : Nat} (hk : k < (bl n).length) (hi : (bl n)[k] < ss.length) : chTo ss n (k + 1) = chTo ss n k ++ [ss[(bl n)[k]]] := by
  have hk' : k < (chS ss n).length := by rw [chS_length]; exact hk
  rw [chTo, List.take_succ_eq_append_getElem hk']
  congr 2
  simp [chS, List.getElem?_eq_getElem hi]
/-- With the exchanges of the set the label has none of the properties. -/
def feG (b : Bk) (item : Nat) (av : List Nat) (ss : List (Int × Int)) (n : Nat) : Prop := ∃ m x, exN b.its (chS ss n) = some m ∧ Lbl ⟨b.p, m, b.rus⟩ item x ∧ ∀ q ∈ av, x.testBit q = false
theorem feG_iff {b : Bk} {item : Nat} {av : List Nat} {ss : List (Int × Int)} {n x : Nat} {m : List It} (h : exN b.its (chS ss n) = some m) (hx : Lbl ⟨b.p, m, b.rus⟩ item x) : feG b item av ss n ↔ ∀ q ∈ av, x.testBit q = false := by
  constructor
  · rintro ⟨m', x', h1, h2, h3⟩
    rw [h] at h1
    injection h1 with h1
    subst h1
    rwa [← Cl.unique h2.1 hx.1]
  · intro h3
    exact ⟨m, x, h, hx, h3⟩
theorem feG_none {b : Bk} {item : Nat} {av : List Nat} {ss : List (Int × Int)} {n : Nat} (h : exN b.its (chS ss n) = none) : ¬ feG b item av ss n := by
  rintro ⟨m', x', h1, _⟩
  rw [h] at h1
  cases h1
open Classical in
/-- The best of the first sets. -/
noncomputable def feN (b : Bk) (item : Nat) (av : List Nat) (ss : List (Int × Int)) : Nat → Option (List Nat)
  | 0 => none
  | n + 1 => if (∀ l, feN b item av ss n = some l → frB (intL (bl n)) (intL l) = true) ∧ feG b item av ss n then some (bl n) else feN b item av ss n
theorem feN_take {b : Bk} {item : Nat} {av : List Nat} {ss : List (Int × Int)} {n : Nat} (h1 : ∀ l, feN b item av ss n = some l → frB (intL (bl n)) (intL l) = true) (h2 : feG b item av ss n) : feN b item av ss (n + 1) = some (bl n) := if_pos ⟨h1, h2⟩
theorem feN_late {b : Bk} {item : Nat} {av : List Nat} {ss : List (Int × Int)} {n : Nat} {l : List Nat} (h1 : feN b item av ss n = some l) (h2 : frB (intL (bl n)) (intL l) = false) : feN b item av ss (n + 1) = some l := by
  rw [← h1]
  exact if_neg fun h => by rw [h.1 l h1] at h2; cases h2
theorem feN_bad {b : Bk} {item : Nat} {av : List Nat} {ss : List (Int × Int)} {n : Nat} (h2 : ¬ feG b item av ss n) : feN b item av ss (n + 1) = feN b item av ss n := if_neg fun h => h2 h.2
theorem feN_some {b : Bk} {item : Nat} {av : List Nat} {ss : List (Int × Int)} : ∀ {n : Nat} {l : List Nat}, feN b item av ss n = some l → ∃ k, k < n ∧ l = bl k ∧ feG b item av ss k
  | 0, l, h => by cases h
  | n + 1, l, h => by
    unfold feN at h
    split at h
    · rename_i hc
      injection h with h
      exact ⟨n, Nat.lt_succ_self n, h.symm, hc.2⟩
    · obtain ⟨k, h1, h2⟩ := feN_some h
      exact ⟨k, Nat.lt_succ_of_lt h1, h2⟩
/-- What is wrong with the question. -/
def feE (b : Bk) (item : Int) (av : List Int) (ss : List (Int × Int)) : Int := if nmR b item = 0 then (if isS av b.p = true then swE b.its.length ss else 1) else nmR b item
open Classical in
/-- The answer. -/
noncomputable def feV (b : Bk) (item : Int) (av : List Int) (ss : List (Int × Int)) : Option (List Nat) := if feE b item av ss = 0 then feN b item.toNat (natL av) ss (2 ^ ss.length) else none
theorem feE_zero {b : Bk} {item : Int} {av : List Int} {ss : List (Int × Int)} (h : feE b item av ss = 0) : nmR b item = 0 ∧ isS av b.p = true ∧ swE b.its.length ss = 0 := by
  unfold feE at h
  split at h
  · rename_i h1
    split at h
    · rename_i h2; exact ⟨h1, h2, h⟩
    · cases h
  · rename_i h1; exact absurd h h1
theorem feV_some {b : Bk} {item : Int} {av : List Int} {ss : List (Int × Int)} {l : List Nat} (h : feV b item av ss = some l) : feE b item av ss = 0 ∧ ∃ k, k < 2 ^ ss.length ∧ l = bl k ∧ feG b item.toNat (natL av) ss k := by
  unfold feV at h
  split at h
  · rename_i h0; exact ⟨h0, feN_some h⟩
  · cases h
theorem and_mask {x : Nat} {av : List Nat} : x &&& mk av = 0 ↔ ∀ q ∈ av, x.testBit q = false := by
  constructor
  · intro h q hq
    have := congrArg (fun y => y.testBit q) h
    simp only [Nat.testBit_and, mk_bit, Nat.zero_testBit, List.contains_eq_mem, hq, decide_true, Bool.and_true] at this
    exact this
  · intro h
    apply Nat.eq_of_testBit_eq
    intro q
    rw [Nat.testBit_and, mk_bit, Nat.zero_testBit]
    by_cases hq : q ∈ av
    · rw [h q hq]; rfl
    · simp [hq]
end Go.Proofs.YtgoojcjfhghmgaaDoor


set_option linter.unusedSimpArgs false
set_option linter.unusedVariables false
namespace Go.Proofs.YtgoojcjfhghmgaaDoor
open Go Go.RowKit

def swB (n : Nat) (s : Int × Int) : Prop := 0 ≤ s.1 ∧ s.1 < (n : Int) ∧ 0 ≤ s.2 ∧ s.2 < (n : Int)
theorem sw_good {n : Nat} {ss : List (Int × Int)} (h8 : ss.length ≤ 8) (h : ∀ s ∈ ss, swB n s) : swE n ss = 0 := by
  unfold swE
  rw [if_neg (by omega), if_pos (List.all_eq_true.2 fun s hs => by simpa [swB] using h s hs)]
theorem sw_bad {n : Nat} {ss : List (Int × Int)} (h8 : ss.length ≤ 8) {j : Nat} (hj : j < ss.length) (h : ¬ swB n ss[j]) : swE n ss = 5 := by
  unfold swE
  rw [if_neg (by omega), if_neg]
  intro e
  have := List.all_eq_true.1 e _ (List.getElem_mem hj)
  exact h (by simpa [swB] using this)
theorem sw_long {n : Nat} {ss : List (Int × Int)} (h8 : ¬ ss.length ≤ 8) : swE n ss = 4 := by
  unfold swE
  rw [if_pos (by omega)]

set_option maxRecDepth 100000 in
set_option maxHeartbeats 4000000 in
theorem swappable_any (AI AR : Option Addr) (cI cR : Nat) (A : Option Addr) (c B : Nat) (b : Bk) (ss : List (Int × Int)) (w : World) (hB : B ≤ w.heap.size) (h : PairsAt B w A ss) (hn : b.its.length ≤ 60) (hm : ss.length ≤ 1000) :
    Calls Tryd.prog 94 #[.agg #[.int .i64 b.p, .slice AI b.its.length cI, .slice AR b.rus.length cR], .slice A ss.length c] w fun e w' => e = .returned (.int .i64 (swE b.its.length ss)) ∧ Below w.heap.size w w' := by
  have hT := h.below (Below.refl _ _) hB
  clear h
  generalize b.its.length = n at *
  by_cases h8 : ss.length ≤ 8
  · have hd : decide ((8 : Int) < (ss.length : Int)) = false := by simp; omega
    have Hg := Lib.hid (fun h => sw_good (n := n) h8 h)
    have Hbd := Lib.hid (fun j (hj : j < ss.length) h => sw_bad (n := n) h8 hj h)
    generalize swE n ss = r at Hg Hbd ⊢
    obtain ⟨W0, hW0⟩ : ∃ W0, W0 = w.alloc (.cells #[.int .i64 b.p, .slice AI n cI, .slice AR b.rus.length cR] 25) := ⟨_, rfl⟩
    have hb0 : Blk W0 w.heap.size 25 #[.int .i64 b.p, .slice AI n cI, .slice AR b.rus.length cR] := by rw [hW0]; exact Blk.new w 25 _
    have hw0 : Below w.heap.size w W0 := by rw [hW0]; exact balloc (Below.refl _ _) _
    have hlt := hb0.lt
    have HX := Lib.hid (fun W (hW : Below W0.heap.size W0 W) => blk3 (hb0.below hW hlt))
    have HT := Lib.hid (fun W (hW : Below W0.heap.size W0 W) => (hT.below hw0 hw0.size).below hW (Nat.le_refl _))
    have Hw := Lib.hid hw0
    clear hT hb0 hw0 h8 hB
    go_enter Tryd.func94, Tryd.ntmps94
    go_wp2_with fail
    rw [← hW0]
    clear hW0
    have Hrefl := Lib.hid (Below.refl W0.heap.size W0)
    go_loopw [12] (fun vi wx => ∃ i : Nat, i ≤ ss.length ∧ vi = .int .i64 i ∧ Aside (∀ s ∈ ss.take i, swB n s) ∧ Below W0.heap.size W0 wx) (fun vi _ => ss.length - (intOf vi).toNat)
    case atStart => exact ⟨0, Nat.zero_le _, rfl, (fun x hx => by simp at hx), Hrefl.out⟩
    case round =>
      clear Hrefl
      obtain ⟨i, hi, rfl, hok, hb⟩ := hrel
      have HO := Lib.hid hok.out
      clear hok
      by_cases hlt2 : i < ss.length
      · obtain ⟨g, off, rfl, hgB, q0, q1⟩ := (HT.out _ hb).at hlt2
        obtain ⟨z0, z1, z2, _⟩ := HX.out (wr.alloc (.cells #[.int .i64 ss[i].1, .int .i64 ss[i].2] 79)) (balloc hb _)
        have hb1 : Below W0.heap.size W0 (wr.alloc (.cells #[.int .i64 ss[i].1, .int .i64 ss[i].2] 79)) := balloc hb _
        have Hb1 := Lib.hid hb1
        have hiI : (i : Int) < (ss.length : Int) := by omega
        clear hb hb1
        by_cases hs : swB n ss[i]
        · have HO2 := Lib.hid (show ∀ s ∈ ss.take (i + 1), swB n s from fun s hs' => by
            rw [List.take_succ_eq_append_getElem hlt2, List.mem_append] at hs'
            rcases hs' with h1 | h1
            · exact HO.out s h1
            · rw [List.mem_singleton] at h1; subst h1; exact hs)
          obtain ⟨s1, s2, s3, s4⟩ := hs
          generalize ss[i] = s at *
          obtain ⟨x, y⟩ := s
          simp only at s1 s2 s3 s4 q0 q1 z0 z1 z2 Hb1 ⊢
          go_wp2_with fail
          go_roundw
          case rel => exact ⟨i + 1, by omega, by go_num, HO2.out, Hb1.out⟩
          case measure => simp [intOf]; omega
        · have HR := Lib.hid (Hbd.out i hlt2 hs)
          unfold swB at hs
          have hs2 := Lib.hid hs
          clear hs HO Hbd Hg
          generalize ss[i] = s at *
          obtain ⟨x, y⟩ := s
          simp only at q0 q1 z0 z1 z2 Hb1 hs2 ⊢
          by_cases s1 : 0 ≤ x
          · by_cases s2 : x < (n : Int)
            · by_cases s3 : 0 ≤ y
              · have s4 : (n : Int) ≤ y := by have := hs2.out; omega
                clear hs2
                go_wp2_with fail
                go_ret
                exact ⟨by rw [HR.out]; rfl, Hw.out.trans (Hb1.out.mono Hw.out.size)⟩
              · have s4 : y < 0 := by omega
                clear hs2 s3
                go_wp2_with fail
                go_ret
                exact ⟨by rw [HR.out]; rfl, Hw.out.trans (Hb1.out.mono Hw.out.size)⟩
            · have s4 : (n : Int) ≤ x := by omega
              clear hs2 s2
              go_wp2_with fail
              go_ret
              exact ⟨by rw [HR.out]; rfl, Hw.out.trans (Hb1.out.mono Hw.out.size)⟩
          · have s4 : x < 0 := by omega
            clear hs2 s1
            go_wp2_with fail
            go_ret
            exact ⟨by rw [HR.out]; rfl, Hw.out.trans (Hb1.out.mono Hw.out.size)⟩
      · obtain rfl : i = ss.length := by omega
        have HR := Lib.hid (Hg.out fun s hs => HO.out s (by rw [List.take_of_length_le (Nat.le_refl _)]; exact hs))
        have Hb1 := Lib.hid hb
        clear hb HO Hbd Hg
        go_wp2_with fail
        go_ret
        exact ⟨by rw [HR.out]; rfl, Hw.out.trans (Hb1.out.mono Hw.out.size)⟩
  · have hd : decide ((8 : Int) < (ss.length : Int)) = true := by simp; omega
    have HR := Lib.hid (sw_long (n := n) h8)
    have hw0 := Lib.hid (show Below w.heap.size w (w.alloc (.cells #[.int .i64 b.p, .slice AI n cI, .slice AR b.rus.length cR] 25)) from balloc (Below.refl _ _) _)
    clear h8 hT hB
    go_enter Tryd.func94, Tryd.ntmps94
    go_wp2_with fail
    go_ret
    exact ⟨by rw [HR.out]; rfl, hw0.out⟩
end Go.Proofs.YtgoojcjfhghmgaaDoor


set_option linter.unusedSimpArgs false
set_option linter.unusedVariables false
namespace Go.Proofs.YtgoojcjfhghmgaaDoor
open Go Go.RowKit

section
variable {P : Program} {md : Region.Mode} {ops : Array Oper} {Q : Exit → Act → World → Prop} {S : World → Prop}
/-- Number i is taken first; the exempt ones wait for it; its place is written out. -/
theorem anyE_tx (i d : Nat) (xs N : List Nat) {oi : Oper} {v : Value} {n : Nat} {listed : Array Bool} {a : Act} {w : World} (hi : ops[i]? = some oi) (hd : oi.dst = some d)
    (hs : Region.noSelect ops = true) (hf : Region.free md ops listed i = true) (hr : (Region.ready md ops listed).contains i = true) (hx : waitsE md ops listed xs N i = true)
    (hQ : ∀ c a w, Q (.panic c) (a.put oi.dst v) w → Q (.panic c) a w) (hy : YieldsIf P ops S oi v a) (hS : S w)
    (h : anyE P md ops Q S (fun j => xs.contains j) n (listed.setIfInBounds i true) { a with tmps := a.tmps.setIfInBounds d v } w) : anyE P md ops Q S (fun j => xs.contains j) (n + 1) listed a w := by
  refine anyE_take N hi hs hf hr hx hQ hy hS ?_
  rw [hd]; exact h
end
set_option maxRecDepth 100000 in
set_option maxHeartbeats 4000000 in
theorem clone_bk (AI AR : Option Addr) (cI cR B : Nat) (b : Bk) (w : World) (hB : B ≤ w.heap.size) (h : ItsAt B w AI b.its) (h' : RusAt B w AR b.rus) (hs : Short b) :
    Calls Tryd.prog 90 #[.agg #[.int .i64 b.p, .slice AI b.its.length cI, .slice AR b.rus.length cR]] w fun e w' => ∃ AI' AR' cI' cR' ps qs mid, e = .returned (.agg #[.int .i64 b.p, .slice AI' b.its.length cI', .slice AR' b.rus.length cR']) ∧
      ItP w.heap.size (.slice AI' b.its.length cI') w' ps b.its ∧ UpTo mid (.slice AI' b.its.length cI') (flatV ps) ∧ w.heap.size ≤ mid ∧ mid ≤ w'.heap.size ∧ RuP mid (.slice AR' b.rus.length cR') w' qs b.rus ∧ Below w.heap.size w w' := by
  obtain ⟨j0, hj, hy0, hy1, hy2⟩ := info_parts info84
  obtain ⟨i0, hi, hz0, hz1, hz2⟩ := info_parts info42
  have H := Lib.hid (h.below (Below.refl _ _) hB)
  have H' := Lib.hid (h'.below (Below.refl _ _) hB)
  have Hs := Lib.hid hs
  have ni := hs.1
  have nr := hs.2.1
  clear h h' hs hB
  go_enter Tryd.func90, Tryd.ntmps90
  go_wp2_with fail
  generalize hW0 : ((w.alloc (.cells #[.int .i64 b.p, .slice AI b.its.length cI, .slice AR b.rus.length cR] 25)).alloc (.cells #[.int .i64 0, .slice none 0 0, .slice none 0 0] 25)).alloc (.cells #[.int .i64 b.p, .slice none 0 0, .slice none 0 0] 25) = W0
  have HB0 := Lib.hid (show Below w.heap.size w W0 by rw [← hW0]; exact balloc (balloc (balloc (Below.refl _ _) _) _) _)
  have HK0 := Lib.hid (show Blk W0 w.heap.size 25 #[.int .i64 b.p, .slice AI b.its.length cI, .slice AR b.rus.length cR] by rw [← hW0]; exact ((Blk.new _ _ _).alloc _).alloc _)
  have HK1 := Lib.hid (show Blk W0 (w.heap.size + 1) 25 #[.int .i64 0, .slice none 0 0, .slice none 0 0] by rw [← hW0]; exact (blk_new' (by simp)).alloc _)
  have HKG := Lib.hid (show Blk W0 (w.heap.size + 1 + 1) 25 #[.int .i64 b.p, .slice none 0 0, .slice none 0 0] by rw [← hW0]; exact blk_new' (by simp))
  have HG := Lib.hid (show w.heap.size + 1 + 1 < W0.heap.size from HKG.out.lt)
  clear hW0
  obtain ⟨G, hG⟩ : ∃ G, G = w.heap.size + 1 + 1 := ⟨_, rfl⟩
  rw [← hG] at HKG HG ⊢
  have HGe := Lib.hid hG
  have hlo0 : G < W0.heap.size := HG.out
  clear hG
  go_loopw [14] (fun i wr => ∃ (k : Nat) (AIx : Option Addr) (cIx : Nat) (ps : List (Value × Value)), k ≤ b.its.length ∧ i = .int .i64 k ∧ Aside (ItP W0.heap.size (.slice AIx k cIx) wr ps (b.its.take k)) ∧ Aside (Only G W0 wr) ∧ Aside (Blk wr G 25 #[.int .i64 b.p, .slice AIx k cIx, .slice none 0 0])) (fun i _ => b.its.length - (intOf i).toNat)
  case atStart => exact ⟨0, none, 0, [], Nat.zero_le _, rfl, ItP.nil _ _, Only.refl _ _, HKG.out⟩
  case round =>
    obtain ⟨k, AIx, cIx, ps, hk, rfl, hit, hon, hbl⟩ := hrel
    have HIt := Lib.hid hit.out
    have HOn := Lib.hid hon.out
    have HBl := Lib.hid hbl.out
    have hlow : Below w.heap.size w wr := HB0.out.trans (hon.out.below (by rw [HGe.out]; omega) HB0.out.size)
    have HLow := Lib.hid hlow
    have hlo : W0.heap.size ≤ wr.heap.size := hon.out.size
    have hGr : G < wr.heap.size := hbl.out.lt
    clear hit hon hbl
    by_cases hlt : k < b.its.length
    · obtain ⟨bb, off, A1, c1, A2, c2, rfl, hbB, e0, e1, i1, i2⟩ := H.out k hlt
      obtain ⟨m1, m2⟩ := Hs.out.2.2.1 b.its[k] (List.getElem_mem hlt)
      have d0 := (hlow.cell (p := ⟨bb, off + k * 2, none⟩) hbB).trans e0
      have d1 := (hlow.cell (p := ⟨bb, off + k * 2 + 1, none⟩) hbB).trans e1
      have cc1 := Lib.hid (fun W (hW : Below wr.heap.size wr W) => clone_any A1 c1 w.heap.size b.its[k].1 W (by omega) (i1.below (hlow.trans (hW.mono hlow.size)) (Nat.le_refl _)))
      have cc2 := Lib.hid (fun W (hW : Below wr.heap.size wr W) => clone_any A2 c2 w.heap.size b.its[k].2 W (by omega) (i2.below (hlow.trans (hW.mono hlow.size)) (Nat.le_refl _)))
      have hbw := hlow.size
      have hbbw : bb < wr.heap.size := by omega
      clear e0 e1 i1 i2 hlow
      obtain ⟨n1, hn1⟩ : ∃ n1, n1 = b.its[k].1.length := ⟨_, rfl⟩
      obtain ⟨n2, hn2⟩ : ∃ n2, n2 = b.its[k].2.length := ⟨_, rfl⟩
      rw [← hn1] at d0 cc1
      rw [← hn2] at d1 cc2
      have Hn1 := Lib.hid hn1
      have Hn2 := Lib.hid hn2
      clear hn1 hn2
      obtain ⟨y0, y1, y2, f0, f1, f2⟩ := blk3 HBl.out
      go_wp2_with fail
      have hbi : Below wr.heap.size wr (wr.alloc (.cells #[.slice A1 n1 c1, .slice A2 n2 c2] 84)).drew := (balloc (Below.refl _ _) _).drew
      have HTi := Lib.hid (show Blk (wr.alloc (.cells #[.slice A1 n1 c1, .slice A2 n2 c2] 84)).drew wr.heap.size 84 #[.slice A1 n1 c1, .slice A2 n2 c2] from (Blk.new _ _ _).drew)
      refine wp_region_E (S := fun W => W.cell? ⟨G, 1, none⟩ = some (.slice AIx k cIx) ∧ W.cell? ⟨wr.heap.size, 0, none⟩ = some (.slice A1 n1 c1) ∧ W.cell? ⟨wr.heap.size, 1, none⟩ = some (.slice A2 n2 c2)) (E := fun j => [12].contains j) (by kernel_rfl) ?_
      generalize (wr.alloc (.cells #[.slice A1 n1 c1, .slice A2 n2 c2] 84)).drew = wi0 at hbi HTi ⊢
      have HBi := Lib.hid (Below.refl wi0.heap.size wi0)
      have cc1 := Lib.hid (fun W (hW : Below wi0.heap.size wi0 W) => cc1.out W (hbi.trans (hW.mono hbi.size)))
      have cc2 := Lib.hid (fun W (hW : Below wi0.heap.size wi0 W) => cc2.out W (hbi.trans (hW.mono hbi.size)))
      have HOw := Lib.hid (show wi0.ownsRow W0.heap.size 84 2 (.slice AIx k cIx) k (flatV ps) from by
        have := (HIt.out.below hbi).2.1
        rw [List.length_take, Nat.min_eq_left hk] at this
        exact this)
      have HNE := Lib.hid (show some G ≠ (Value.slice AIx k cIx).ownBlock from own_ne HOw.out hlo0)
      have HNT := Lib.hid (show some wr.heap.size ≠ (Value.slice AIx k cIx).ownBlock from fun e => by have := (HIt.out.2.1.lt _ e.symm).2; omega)
      have HSn := Lib.hid (fun (Wb Wc W w8 : World) (A6 A7 A8 : Option Addr) (c6 c7 c8 : Nat) hb1 ho1 hb2 ho2 hb3 hown hg hat => show ItP W0.heap.size (.slice A8 (k + 1) c8) w8 (ps ++ [(.slice A6 n1 c6, .slice A7 n2 c7)]) (b.its.take (k + 1)) from by
        have := ItP.snoc (x := b.its[k]'hlt) (wr := wi0) (Wb := Wb) (Wc := Wc) (W := W) (w8 := w8) (A6 := A6) (A7 := A7) (A8 := A8) (c6 := c6) (c7 := c7) (c8 := c8) (n1 := n1) (n2 := n2) (k := k) (HIt.out.below hbi) (by simp; omega) (Nat.le_trans hlo hbi.size) Hn1.out Hn2.out hb1 ho1 hb2 ho2 hb3 hown hg hat
        rw [List.take_succ_eq_append_getElem hlt]
        exact this)
      have HOn := Lib.hid (HOn.out.trans (Only.of_below hbi G))
      have HBl := Lib.hid (HBl.out.below hbi hGr)
      have hlo : W0.heap.size ≤ wi0.heap.size := Nat.le_trans hlo hbi.size
      have hGr : G < wi0.heap.size := Nat.lt_of_lt_of_le hGr hbi.size
      have Keep := Lib.hid (show ∀ W, Below wi0.heap.size wi0 W → W.cell? ⟨G, 1, none⟩ = some (.slice AIx k cIx) ∧ W.cell? ⟨wr.heap.size, 0, none⟩ = some (.slice A1 n1 c1) ∧ W.cell? ⟨wr.heap.size, 1, none⟩ = some (.slice A2 n2 c2) from fun W hW => ⟨(HBl.out.below hW hGr).cell 1, (HTi.out.below hW HTi.out.lt).cell 0, (HTi.out.below hW HTi.out.lt).cell 1⟩)
      generalize b.its[k].1.map (Value.int .i64) = o1 at cc1 HSn
      generalize b.its[k].2.map (Value.int .i64) = o2 at cc2 HSn
      have hS := Keep.out _ HBi.out
      clear d0 d1 y0 y1 y2 f0 f1 f2 m1 m2 hbi
      refine anyE_tx 0 18 [12] [12] (oi := ?oi1) (v := ?v1) ?hi1 ?hd1 (by kernel_rfl) (by kernel_rfl) (by kernel_rfl) (by kernel_rfl) ?hQ1 ?hy1 hS ?rest1
      case hi1 => simp only [List.getElem?_toArray, List.getElem?_cons_zero, List.getElem?_cons_succ]; rfl
      case hd1 => rfl
      case hQ1 => exact fun _ _ _ h => h
      case hy1 => (refine Or.inl ⟨by rfl, ?_⟩; intro w hSw; (try dsimp only at hSw); go_simp; try with_reducible rfl)
      simp only [List.setIfInBounds_toArray, List.set_cons_zero, List.set_cons_succ]
      refine anyE_tx 1 19 [12] [12] (oi := ?oi2) (v := ?v2) ?hi2 ?hd2 (by kernel_rfl) (by kernel_rfl) (by kernel_rfl) (by kernel_rfl) ?hQ2 ?hy2 hS ?rest2
      case hi2 => simp only [List.getElem?_toArray, List.getElem?_cons_zero, List.getElem?_cons_succ]; rfl
      case hd2 => rfl
      case hQ2 => exact fun _ _ _ h => h
      case hy2 => (refine Or.inl ⟨by rfl, ?_⟩; intro w hSw; (try dsimp only at hSw); go_simp; try with_reducible rfl)
      simp only [List.setIfInBounds_toArray, List.set_cons_zero, List.set_cons_succ]
      refine anyE_tx 2 20 [12] [12] (oi := ?oi3) (v := ?v3) ?hi3 ?hd3 (by kernel_rfl) (by kernel_rfl) (by kernel_rfl) (by kernel_rfl) ?hQ3 ?hy3 hS ?rest3
      case hi3 => simp only [List.getElem?_toArray, List.getElem?_cons_zero, List.getElem?_cons_succ]; rfl
      case hd3 => rfl
      case hQ3 => exact fun _ _ _ h => h
      case hy3 => (refine Or.inl ⟨by rfl, ?_⟩; intro w hSw; (try dsimp only at hSw); go_simp; try with_reducible rfl)
      simp only [List.setIfInBounds_toArray, List.set_cons_zero, List.set_cons_succ]
      refine anyE_tx 3 21 [12] [12] (oi := ?oi4) (v := ?v4) ?hi4 ?hd4 (by kernel_rfl) (by kernel_rfl) (by kernel_rfl) (by kernel_rfl) ?hQ4 ?hy4 hS ?rest4
      case hi4 => simp only [List.getElem?_toArray, List.getElem?_cons_zero, List.getElem?_cons_succ]; rfl
      case hd4 => rfl
      case hQ4 => exact fun _ _ _ h => h
      case hy4 => (refine Or.inl ⟨by rfl, ?_⟩; intro w hSw; (try dsimp only at hSw); go_simp; try with_reducible rfl)
      simp only [List.setIfInBounds_toArray, List.set_cons_zero, List.set_cons_succ]
      refine anyE_tx 5 23 [12] [12] (oi := ?oi5) (v := ?v5) ?hi5 ?hd5 (by kernel_rfl) (by kernel_rfl) (by kernel_rfl) (by kernel_rfl) ?hQ5 ?hy5 hS ?rest5
      case hi5 => simp only [List.getElem?_toArray, List.getElem?_cons_zero, List.getElem?_cons_succ]; rfl
      case hd5 => rfl
      case hQ5 => exact fun _ _ _ h => h
      case hy5 => (refine Or.inl ⟨by rfl, ?_⟩; intro w hSw; (try dsimp only at hSw); go_simp; try with_reducible rfl)
      simp only [List.setIfInBounds_toArray, List.set_cons_zero, List.set_cons_succ]
      refine anyE_tx 6 24 [12] [12] (oi := ?oi6) (v := ?v6) ?hi6 ?hd6 (by kernel_rfl) (by kernel_rfl) (by kernel_rfl) (by kernel_rfl) ?hQ6 ?hy6 hS ?rest6
      case hi6 => simp only [List.getElem?_toArray, List.getElem?_cons_zero, List.getElem?_cons_succ]; rfl
      case hd6 => rfl
      case hQ6 => exact fun _ _ _ h => h
      case hy6 => (refine Or.inl ⟨by rfl, ?_⟩; intro w hSw; (try dsimp only at hSw); go_simp; try with_reducible rfl)
      simp only [List.setIfInBounds_toArray, List.set_cons_zero, List.set_cons_succ]
      refine anyE_one (i := 4) (o := ?oi7) (by kernel_rfl) ?hi7 (fun K hK => ?step7)
      case hi7 => simp only [List.getElem?_toArray, List.getElem?_cons_zero, List.getElem?_cons_succ]; rfl
      go_simp
      refine (cc1.out _ HBi.out).mono ?_
      rintro e Wb ⟨v6, rfl, ho, hb⟩
      obtain ⟨A6, c6, rfl⟩ := own_form ho
      have HO6 := Lib.hid ho
      have HB6 := Lib.hid hb
      have HBb := Lib.hid (HBi.out.trans (hb.mono HBi.out.size))
      clear ho hb
      go_wp2_with fail
      refine hK.out _ _ (fun _ => Keep.out _ HBb.out) ?_
      clear hK K
      try simp only [Act.put, List.setIfInBounds_toArray, List.set_cons_zero, List.set_cons_succ]
      refine anyE_one (i := 7) (o := ?oi8) (by kernel_rfl) ?hi8 (fun K hK => ?step8)
      case hi8 => simp only [List.getElem?_toArray, List.getElem?_cons_zero, List.getElem?_cons_succ]; rfl
      go_simp
      refine (cc2.out _ HBb.out).mono ?_
      rintro e Wc ⟨v7, rfl, ho, hb⟩
      obtain ⟨A7, c7, rfl⟩ := own_form ho
      have HO7 := Lib.hid ho
      have HB7 := Lib.hid hb
      have HBc := Lib.hid (HBb.out.trans (hb.mono HBb.out.size))
      clear ho hb
      go_wp2_with fail
      refine hK.out _ _ (fun _ => Keep.out _ HBc.out) ?_
      clear hK K
      try simp only [Act.put, List.setIfInBounds_toArray, List.set_cons_zero, List.set_cons_succ]
      refine anyE_tx 8 26 [12] [12] (oi := ?oi9) (v := ?v9) ?hi9 ?hd9 (by kernel_rfl) (by kernel_rfl) (by kernel_rfl) (by kernel_rfl) ?hQ9 ?hy9 (Keep.out _ HBc.out) ?rest9
      case hi9 => simp only [List.getElem?_toArray, List.getElem?_cons_zero, List.getElem?_cons_succ]; rfl
      case hd9 => rfl
      case hQ9 => exact fun _ _ _ h => h
      case hy9 => (refine Or.inl ⟨by rfl, ?_⟩; intro w hSw; (try dsimp only at hSw); go_simp; try with_reducible rfl)
      simp only [List.setIfInBounds_toArray, List.set_cons_zero, List.set_cons_succ]
      refine anyE_one (i := 9) (o := ?oi10) (by kernel_rfl) ?hi10 (fun K hK => ?step10)
      case hi10 => simp only [List.getElem?_toArray, List.getElem?_cons_zero, List.getElem?_cons_succ]; rfl
      go_simp
      go_wp2_with fail
      refine hK.out _ _ (fun _ => Keep.out _ (balloc HBc.out _)) ?_
      clear hK K
      try simp only [Act.put, List.setIfInBounds_toArray, List.set_cons_zero, List.set_cons_succ]
      refine anyE_one (i := 10) (o := ?oi10x) (by kernel_rfl) ?hi10x (fun K hK => ?step10x)
      case hi10x => simp only [List.getElem?_toArray, List.getElem?_cons_zero, List.getElem?_cons_succ]; rfl
      have hbW := balloc HBc.out (.cells #[.slice A6 n1 c6, .slice A7 n2 c7] 84)
      refine step_app2 _ (by rfl) (.tmp 19) (.tmp 27) 22 (by rfl) W0.heap.size 84 j0 _ 2 48 Tryd.underlying22 hj hy0 hy1 hy2 (by rfl) (by decide) (.slice AIx k cIx) k (flatV ps) (by rfl)
        (own_below HOw.out hbW)
        ⟨_, 0, none⟩ 1 1 [.slice A6 n1 c6, .slice A7 n2 c7] (by rfl) (by rfl)
        (news_blk (t := 84) (cs := #[.slice A6 n1 c6, .slice A7 n2 c7]) (blk_new' rfl) _ rfl)
        (by simp [Value.oneCell']) (by omega) (by decide) (Nat.le_trans hlo hbW.size) (k + 1) rfl (flatV (ps ++ [(.slice A6 n1 c6, .slice A7 n2 c7)])) (flatV_snoc _ _ _).symm ?_
      intro A8 c8 w8 hown8 hg8 hlow8 hat8
      have HI8 := Lib.hid (HSn.out Wb Wc _ w8 A6 A7 A8 c6 c7 c8 HB6.out HO6.out HB7.out HO7.out (balloc (Below.refl _ _) _) hown8 hg8 hat8)
      have HB8 := Lib.hid (Blk.grown (HBl.out.below hbW hGr) hg8 HNE.out)
      have HT8 := Lib.hid (Blk.grown (HTi.out.below hbW HTi.out.lt) hg8 HNT.out)
      have hbw8 : Below W0.heap.size wi0 w8 := (Below.mono hbW hlo).grown hg8 (Nat.le_trans hlo hbW.size) (fun j hj => hlow8 j hj)
      have HO8 := Lib.hid (show Only G W0 w8 from ⟨hbw8.os.trans HOn.out.os, hbw8.tape.trans HOn.out.tape, hbw8.output.trans HOn.out.output, Nat.le_trans HOn.out.size hbw8.size, fun i hi hne => (hbw8.block i hi).trans (HOn.out.block i hi hne)⟩)
      have HS8 := Lib.hid (show w8.cell? ⟨G, 1, none⟩ = some (.slice AIx k cIx) ∧ w8.cell? ⟨wr.heap.size, 0, none⟩ = some (.slice A1 n1 c1) ∧ w8.cell? ⟨wr.heap.size, 1, none⟩ = some (.slice A2 n2 c2) from ⟨HB8.out.cell 1, HT8.out.cell 0, HT8.out.cell 1⟩)
      clear hown8 hg8 hlow8 hat8 hbW hbw8
      refine hK.out _ _ (fun _ => HS8.out) ?_
      clear hK K
      try simp only [Act.put, List.setIfInBounds_toArray, List.set_cons_zero, List.set_cons_succ]
      refine anyE_tx 11 29 [12] [12] (oi := ?oi11) (v := ?v11) ?hi11 ?hd11 (by kernel_rfl) (by kernel_rfl) (by kernel_rfl) (by kernel_rfl) ?hQ11 ?hy11 HS8.out ?rest11
      case hi11 => simp only [List.getElem?_toArray, List.getElem?_cons_zero, List.getElem?_cons_succ]; rfl
      case hd11 => rfl
      case hQ11 => exact fun _ _ _ h => h
      case hy11 => (refine Or.inl ⟨by rfl, ?_⟩; intro w hSw; (try dsimp only at hSw); go_simp; try with_reducible rfl)
      simp only [List.setIfInBounds_toArray, List.set_cons_zero, List.set_cons_succ]
      have q8 := HS8.out.1
      have q9 := HB8.out.frozen 1
      refine anyE_one (i := 12) (o := ?oi12) (by kernel_rfl) ?hi12 (fun K hK => ?step12)
      case hi12 => simp only [List.getElem?_toArray, List.getElem?_cons_zero, List.getElem?_cons_succ]; rfl
      go_simp
      refine hK.out _ _ (fun h => absurd h (by decide)) ?_
      clear hK K
      try simp only [Act.put, List.setIfInBounds_toArray, List.set_cons_zero, List.set_cons_succ]
      refine anyE_done (by kernel_rfl) ?_ _
      go_wp2_with fail
      go_roundw
      case rel => exact ⟨k + 1, A8, c8, _, by omega, by go_num, HI8.out.only ((Only.refl G w8).put 1 (.slice A8 (k + 1) c8)) hlo0, HO8.out.put 1 (.slice A8 (k + 1) c8), HB8.out.put 1 (.slice A8 (k + 1) c8)⟩
      case measure => simp [intOf]; omega
    · obtain rfl : k = b.its.length := by omega
      obtain ⟨w1, rfl⟩ : ∃ w1 : World, w1 = wr := ⟨_, rfl⟩
      have HItF := Lib.hid (show ItP W0.heap.size (.slice AIx b.its.length cIx) w1 ps b.its from by
        have := HIt.out
        rw [List.take_length] at this
        exact this)
      have HK0' := Lib.hid (show Blk w1 w.heap.size 25 #[.int .i64 b.p, .slice AI b.its.length cI, .slice AR b.rus.length cR] from (HOn.out.block _ HK0.out.lt (fun e => by injection e with e; have := HGe.out; omega)).trans HK0.out)
      have HK1' := Lib.hid (show Blk w1 (w.heap.size + 1) 25 #[.int .i64 0, .slice none 0 0, .slice none 0 0] from (HOn.out.block _ HK1.out.lt (fun e => by injection e with e; have := HGe.out; omega)).trans HK1.out)
      obtain ⟨x0, x1, x2, _⟩ := blk3 HK0'.out
      have hlow1 := hlow
      have Hlow1 := Lib.hid hlow
      have hG1 : G < w1.heap.size := hGr
      clear hlow HIt HOn hlo hlt
      go_wp2_with fail
      go_loopw [34] (fun i wr => ∃ (k : Nat) (ARx : Option Addr) (cRx : Nat) (qs : List (Value × Value)), k ≤ b.rus.length ∧ i = .int .i64 k ∧ Aside (RuP w1.heap.size (.slice ARx k cRx) wr qs (b.rus.take k)) ∧ Aside (Only G w1 wr) ∧ Aside (Blk wr G 25 #[.int .i64 b.p, .slice AIx b.its.length cIx, .slice ARx k cRx])) (fun i _ => b.rus.length - (intOf i).toNat)
      case atStart => exact ⟨0, none, 0, [], Nat.zero_le _, rfl, RuP.nil _ _, Only.refl _ _, HBl.out⟩
      case round =>
        clear HBl
        obtain ⟨k, ARx, cRx, qs, hk, rfl, hit, hon, hbl⟩ := hrel
        have HIt := Lib.hid hit.out
        have HOn := Lib.hid hon.out
        have HBl := Lib.hid hbl.out
        have hlow : Below w.heap.size w wr := Hlow1.out.trans (hon.out.below (by rw [HGe.out]; omega) Hlow1.out.size)
        have hlo : w1.heap.size ≤ wr.heap.size := hon.out.size
        have hGr : G < wr.heap.size := hbl.out.lt
        clear hit hon hbl
        by_cases hlt : k < b.rus.length
        · obtain ⟨bb, off, A1, c1, rfl, hbB, e0, e1, i1⟩ := H'.out k hlt
          have m1 := Hs.out.2.2.2 b.rus[k] (List.getElem_mem hlt)
          have d0 := (hlow.cell (p := ⟨bb, off + k * 2, none⟩) hbB).trans e0
          have d1 := (hlow.cell (p := ⟨bb, off + k * 2 + 1, none⟩) hbB).trans e1
          have cc1 := Lib.hid (fun W (hW : Below wr.heap.size wr W) => clone_any A1 c1 w.heap.size b.rus[k].1 W (by omega) (i1.below (hlow.trans (hW.mono hlow.size)) (Nat.le_refl _)))
          have hbw := hlow.size
          have hbbw : bb < wr.heap.size := by omega
          clear e0 e1 i1 hlow
          obtain ⟨n1, hn1⟩ : ∃ n1, n1 = b.rus[k].1.length := ⟨_, rfl⟩
          obtain ⟨z, hz⟩ : ∃ z, z = b.rus[k].2 := ⟨_, rfl⟩
          rw [← hn1] at d0 cc1
          rw [← hz] at d1
          have Hn1 := Lib.hid hn1
          have Hz := Lib.hid hz
          clear hn1 hz
          obtain ⟨y0, y1, y2, f0, f1, f2⟩ := blk3 HBl.out
          go_wp2_with fail
          have hbi : Below wr.heap.size wr (wr.alloc (.cells #[.slice A1 n1 c1, .int .i64 z] 42)).drew := (balloc (Below.refl _ _) _).drew
          have HTi := Lib.hid (show Blk (wr.alloc (.cells #[.slice A1 n1 c1, .int .i64 z] 42)).drew wr.heap.size 42 #[.slice A1 n1 c1, .int .i64 z] from (Blk.new _ _ _).drew)
          refine wp_region_E (S := fun W => W.cell? ⟨G, 2, none⟩ = some (.slice ARx k cRx) ∧ W.cell? ⟨wr.heap.size, 0, none⟩ = some (.slice A1 n1 c1) ∧ W.cell? ⟨wr.heap.size, 1, none⟩ = some (.int .i64 z)) (E := fun j => [11].contains j) (by kernel_rfl) ?_
          generalize (wr.alloc (.cells #[.slice A1 n1 c1, .int .i64 z] 42)).drew = wi0 at hbi HTi ⊢
          have HBi := Lib.hid (Below.refl wi0.heap.size wi0)
          have cc1 := Lib.hid (fun W (hW : Below wi0.heap.size wi0 W) => cc1.out W (hbi.trans (hW.mono hbi.size)))
          have HOw := Lib.hid (show wi0.ownsRow w1.heap.size 42 2 (.slice ARx k cRx) k (flatV qs) from by
            have := (HIt.out.below hbi).2.1
            rw [List.length_take, Nat.min_eq_left hk] at this
            exact this)
          have HNE := Lib.hid (show some G ≠ (Value.slice ARx k cRx).ownBlock from own_ne HOw.out hG1)
          have HNT := Lib.hid (show some wr.heap.size ≠ (Value.slice ARx k cRx).ownBlock from fun e => by have := (HIt.out.2.1.lt _ e.symm).2; omega)
          have HSn := Lib.hid (fun (Wb W w8 : World) (A6 A8 : Option Addr) (c6 c8 : Nat) hb1 ho1 hb3 (hown : w8.ownsRow w1.heap.size 42 2 (.slice A8 (k + 1) c8) (k + 1) (flatV (qs ++ [(.slice A6 n1 c6, .int .i64 z)]))) hg hat => show RuP w1.heap.size (.slice A8 (k + 1) c8) w8 (qs ++ [(.slice A6 n1 c6, .int .i64 z)]) (b.rus.take (k + 1)) from by
            have := RuP.snoc (x := b.rus[k]'hlt) (wr := wi0) (Wb := Wb) (W := W) (w8 := w8) (A6 := A6) (A8 := A8) (c6 := c6) (c8 := c8) (n1 := n1) (k := k) (HIt.out.below hbi) (by simp; omega) (Nat.le_trans hlo hbi.size) Hn1.out hb1 ho1 hb3 (by rw [← Hz.out]; exact hown) hg hat
            rw [List.take_succ_eq_append_getElem hlt, Hz.out]
            exact this)
          have HOn := Lib.hid (HOn.out.trans (Only.of_below hbi G))
          have HBl := Lib.hid (HBl.out.below hbi hGr)
          have hlo : w1.heap.size ≤ wi0.heap.size := Nat.le_trans hlo hbi.size
          have hGr : G < wi0.heap.size := Nat.lt_of_lt_of_le hGr hbi.size
          have Keep := Lib.hid (show ∀ W, Below wi0.heap.size wi0 W → W.cell? ⟨G, 2, none⟩ = some (.slice ARx k cRx) ∧ W.cell? ⟨wr.heap.size, 0, none⟩ = some (.slice A1 n1 c1) ∧ W.cell? ⟨wr.heap.size, 1, none⟩ = some (.int .i64 z) from fun W hW => ⟨(HBl.out.below hW hGr).cell 2, (HTi.out.below hW HTi.out.lt).cell 0, (HTi.out.below hW HTi.out.lt).cell 1⟩)
          generalize b.rus[k].1.map (Value.int .i64) = o1 at cc1 HSn
          have hS := Keep.out _ HBi.out
          clear d0 d1 y0 y1 y2 f0 f1 f2 m1 hbi
          refine anyE_tx 0 38 [11] [11] (oi := ?oi13) (v := ?v13) ?hi13 ?hd13 (by kernel_rfl) (by kernel_rfl) (by kernel_rfl) (by kernel_rfl) ?hQ13 ?hy13 hS ?rest13
          case hi13 => simp only [List.getElem?_toArray, List.getElem?_cons_zero, List.getElem?_cons_succ]; rfl
          case hd13 => rfl
          case hQ13 => exact fun _ _ _ h => h
          case hy13 => (refine Or.inl ⟨by rfl, ?_⟩; intro w hSw; (try dsimp only at hSw); go_simp; try with_reducible rfl)
          simp only [List.setIfInBounds_toArray, List.set_cons_zero, List.set_cons_succ]
          refine anyE_tx 1 39 [11] [11] (oi := ?oi14) (v := ?v14) ?hi14 ?hd14 (by kernel_rfl) (by kernel_rfl) (by kernel_rfl) (by kernel_rfl) ?hQ14 ?hy14 hS ?rest14
          case hi14 => simp only [List.getElem?_toArray, List.getElem?_cons_zero, List.getElem?_cons_succ]; rfl
          case hd14 => rfl
          case hQ14 => exact fun _ _ _ h => h
          case hy14 => (refine Or.inl ⟨by rfl, ?_⟩; intro w hSw; (try dsimp only at hSw); go_simp; try with_reducible rfl)
          simp only [List.setIfInBounds_toArray, List.set_cons_zero, List.set_cons_succ]
          refine anyE_tx 2 40 [11] [11] (oi := ?oi15) (v := ?v15) ?hi15 ?hd15 (by kernel_rfl) (by kernel_rfl) (by kernel_rfl) (by kernel_rfl) ?hQ15 ?hy15 hS ?rest15
          case hi15 => simp only [List.getElem?_toArray, List.getElem?_cons_zero, List.getElem?_cons_succ]; rfl
          case hd15 => rfl
          case hQ15 => exact fun _ _ _ h => h
          case hy15 => (refine Or.inl ⟨by rfl, ?_⟩; intro w hSw; (try dsimp only at hSw); go_simp; try with_reducible rfl)
          simp only [List.setIfInBounds_toArray, List.set_cons_zero, List.set_cons_succ]
          refine anyE_tx 3 41 [11] [11] (oi := ?oi16) (v := ?v16) ?hi16 ?hd16 (by kernel_rfl) (by kernel_rfl) (by kernel_rfl) (by kernel_rfl) ?hQ16 ?hy16 hS ?rest16
          case hi16 => simp only [List.getElem?_toArray, List.getElem?_cons_zero, List.getElem?_cons_succ]; rfl
          case hd16 => rfl
          case hQ16 => exact fun _ _ _ h => h
          case hy16 => (refine Or.inl ⟨by rfl, ?_⟩; intro w hSw; (try dsimp only at hSw); go_simp; try with_reducible rfl)
          simp only [List.setIfInBounds_toArray, List.set_cons_zero, List.set_cons_succ]
          refine anyE_tx 5 43 [11] [11] (oi := ?oi17) (v := ?v17) ?hi17 ?hd17 (by kernel_rfl) (by kernel_rfl) (by kernel_rfl) (by kernel_rfl) ?hQ17 ?hy17 hS ?rest17
          case hi17 => simp only [List.getElem?_toArray, List.getElem?_cons_zero, List.getElem?_cons_succ]; rfl
          case hd17 => rfl
          case hQ17 => exact fun _ _ _ h => h
          case hy17 => (refine Or.inl ⟨by rfl, ?_⟩; intro w hSw; (try dsimp only at hSw); go_simp; try with_reducible rfl)
          simp only [List.setIfInBounds_toArray, List.set_cons_zero, List.set_cons_succ]
          refine anyE_tx 6 44 [11] [11] (oi := ?oi18) (v := ?v18) ?hi18 ?hd18 (by kernel_rfl) (by kernel_rfl) (by kernel_rfl) (by kernel_rfl) ?hQ18 ?hy18 hS ?rest18
          case hi18 => simp only [List.getElem?_toArray, List.getElem?_cons_zero, List.getElem?_cons_succ]; rfl
          case hd18 => rfl
          case hQ18 => exact fun _ _ _ h => h
          case hy18 => (refine Or.inl ⟨by rfl, ?_⟩; intro w hSw; (try dsimp only at hSw); go_simp; try with_reducible rfl)
          simp only [List.setIfInBounds_toArray, List.set_cons_zero, List.set_cons_succ]
          refine anyE_one (i := 4) (o := ?oi19) (by kernel_rfl) ?hi19 (fun K hK => ?step19)
          case hi19 => simp only [List.getElem?_toArray, List.getElem?_cons_zero, List.getElem?_cons_succ]; rfl
          go_simp
          refine (cc1.out _ HBi.out).mono ?_
          rintro e Wb ⟨v6, rfl, ho, hb⟩
          obtain ⟨A6, c6, rfl⟩ := own_form ho
          have HO6 := Lib.hid ho
          have HB6 := Lib.hid hb
          have HBb := Lib.hid (HBi.out.trans (hb.mono HBi.out.size))
          clear ho hb
          go_wp2_with fail
          refine hK.out _ _ (fun _ => Keep.out _ HBb.out) ?_
          clear hK K
          try simp only [Act.put, List.setIfInBounds_toArray, List.set_cons_zero, List.set_cons_succ]
          refine anyE_tx 7 45 [11] [11] (oi := ?oi20) (v := ?v20) ?hi20 ?hd20 (by kernel_rfl) (by kernel_rfl) (by kernel_rfl) (by kernel_rfl) ?hQ20 ?hy20 (Keep.out _ HBb.out) ?rest20
          case hi20 => simp only [List.getElem?_toArray, List.getElem?_cons_zero, List.getElem?_cons_succ]; rfl
          case hd20 => rfl
          case hQ20 => exact fun _ _ _ h => h
          case hy20 => (refine Or.inl ⟨by rfl, ?_⟩; intro w hSw; (try dsimp only at hSw); go_simp; try with_reducible rfl)
          simp only [List.setIfInBounds_toArray, List.set_cons_zero, List.set_cons_succ]
          refine anyE_one (i := 8) (o := ?oi21) (by kernel_rfl) ?hi21 (fun K hK => ?step21)
          case hi21 => simp only [List.getElem?_toArray, List.getElem?_cons_zero, List.getElem?_cons_succ]; rfl
          go_simp
          go_wp2_with fail
          refine hK.out _ _ (fun _ => Keep.out _ (balloc HBb.out _)) ?_
          clear hK K
          try simp only [Act.put, List.setIfInBounds_toArray, List.set_cons_zero, List.set_cons_succ]
          refine anyE_one (i := 9) (o := ?oi9y) (by kernel_rfl) ?hi9y (fun K hK => ?step9y)
          case hi9y => simp only [List.getElem?_toArray, List.getElem?_cons_zero, List.getElem?_cons_succ]; rfl
          have hbW := balloc HBb.out (.cells #[.slice A6 n1 c6, .int .i64 z] 42)
          refine step_app2 _ (by rfl) (.tmp 39) (.tmp 46) 23 (by rfl) w1.heap.size 42 i0 _ 2 32 Tryd.underlying23 hi hz0 hz1 hz2 (by rfl) (by decide) (.slice ARx k cRx) k (flatV qs) (by rfl)
            (own_below HOw.out hbW)
            ⟨_, 0, none⟩ 1 1 [.slice A6 n1 c6, .int .i64 z] (by rfl) (by rfl)
            (news_blk (t := 42) (cs := #[.slice A6 n1 c6, .int .i64 z]) (blk_new' rfl) _ rfl)
            (by simp [Value.oneCell']) (by omega) (by decide) (Nat.le_trans hlo hbW.size) (k + 1) rfl (flatV (qs ++ [(.slice A6 n1 c6, .int .i64 z)])) (flatV_snoc _ _ _).symm ?_
          intro A8 c8 w8 hown8 hg8 hlow8 hat8
          have HI8 := Lib.hid (HSn.out Wb _ w8 A6 A8 c6 c8 HB6.out HO6.out (balloc (Below.refl _ _) _) hown8 hg8 hat8)
          have HB8 := Lib.hid (Blk.grown (HBl.out.below hbW hGr) hg8 HNE.out)
          have HT8 := Lib.hid (Blk.grown (HTi.out.below hbW HTi.out.lt) hg8 HNT.out)
          have hbw8 : Below w1.heap.size wi0 w8 := (Below.mono hbW hlo).grown hg8 (Nat.le_trans hlo hbW.size) (fun j hj => hlow8 j hj)
          have HO8 := Lib.hid (show Only G w1 w8 from ⟨hbw8.os.trans HOn.out.os, hbw8.tape.trans HOn.out.tape, hbw8.output.trans HOn.out.output, Nat.le_trans HOn.out.size hbw8.size, fun i hi hne => (hbw8.block i hi).trans (HOn.out.block i hi hne)⟩)
          have HS8 := Lib.hid (show w8.cell? ⟨G, 2, none⟩ = some (.slice ARx k cRx) ∧ w8.cell? ⟨wr.heap.size, 0, none⟩ = some (.slice A1 n1 c1) ∧ w8.cell? ⟨wr.heap.size, 1, none⟩ = some (.int .i64 z) from ⟨HB8.out.cell 2, HT8.out.cell 0, HT8.out.cell 1⟩)
          clear hown8 hg8 hlow8 hat8 hbW hbw8
          refine hK.out _ _ (fun _ => HS8.out) ?_
          clear hK K
          try simp only [Act.put, List.setIfInBounds_toArray, List.set_cons_zero, List.set_cons_succ]
          refine anyE_tx 10 48 [11] [11] (oi := ?oi22) (v := ?v22) ?hi22 ?hd22 (by kernel_rfl) (by kernel_rfl) (by kernel_rfl) (by kernel_rfl) ?hQ22 ?hy22 HS8.out ?rest22
          case hi22 => simp only [List.getElem?_toArray, List.getElem?_cons_zero, List.getElem?_cons_succ]; rfl
          case hd22 => rfl
          case hQ22 => exact fun _ _ _ h => h
          case hy22 => (refine Or.inl ⟨by rfl, ?_⟩; intro w hSw; (try dsimp only at hSw); go_simp; try with_reducible rfl)
          simp only [List.setIfInBounds_toArray, List.set_cons_zero, List.set_cons_succ]
          have q8 := HS8.out.1
          have q9 := HB8.out.frozen 2
          refine anyE_one (i := 11) (o := ?oi23) (by kernel_rfl) ?hi23 (fun K hK => ?step23)
          case hi23 => simp only [List.getElem?_toArray, List.getElem?_cons_zero, List.getElem?_cons_succ]; rfl
          go_simp
          refine hK.out _ _ (fun h => absurd h (by decide)) ?_
          clear hK K
          try simp only [Act.put, List.setIfInBounds_toArray, List.set_cons_zero, List.set_cons_succ]
          refine anyE_done (by kernel_rfl) ?_ _
          go_wp2_with fail
          go_roundw
          case rel => exact ⟨k + 1, A8, c8, _, by omega, by go_num, HI8.out.only ((Only.refl G w8).put 2 (.slice A8 (k + 1) c8)) hG1, HO8.out.put 2 (.slice A8 (k + 1) c8), HB8.out.put 2 (.slice A8 (k + 1) c8)⟩
          case measure => simp [intOf]; omega
        · obtain rfl : k = b.rus.length := by omega
          have HRu := Lib.hid (show RuP w1.heap.size (.slice ARx b.rus.length cRx) wr qs b.rus from by
            have := HIt.out
            rw [List.take_length] at this
            exact this)
          have hne1 : w.heap.size + 1 ≠ G := by have := HGe.out; omega
          have HR1 := Lib.hid (show Blk wr (w.heap.size + 1) 25 #[.int .i64 0, .slice none 0 0, .slice none 0 0] from (HOn.out.block _ HK1'.out.lt (fun e => by injection e with e; omega)).trans HK1'.out)
          obtain ⟨y0, y1, y2, f0, f1, f2⟩ := blk3 HBl.out
          obtain ⟨t0, t1, t2, g0, g1, g2⟩ := blk3 HR1.out
          have hlR : w.heap.size + 1 < wr.heap.size := HR1.out.lt
          have HL1 := Lib.hid (show w.heap.size + 1 < W0.heap.size from HK1.out.lt)
          have HL2 := Lib.hid (show w.heap.size + 1 < w1.heap.size from HK1'.out.lt)
          have HLow := Lib.hid hlow
          clear hlow
          go_wp2_with fail
          have HP := Lib.hid ((((Only.refl (w.heap.size + 1) wr).put 0 (.int .i64 b.p)).put 1 (.slice AIx b.its.length cIx)).put 2 (.slice ARx b.rus.length cRx))
          have HB2 := Lib.hid (((HR1.out.put 0 (.int .i64 b.p)).put 1 (.slice AIx b.its.length cIx)).put 2 (.slice ARx b.rus.length cRx))
          have HD := Lib.hid (below_put' (below_put' (below_put' HLow.out (Nat.le_succ w.heap.size) 0 (.int .i64 b.p)) (Nat.le_succ w.heap.size) 1 (.slice AIx b.its.length cIx)) (Nat.le_succ w.heap.size) 2 (.slice ARx b.rus.length cRx))
          refine bodyPost_ret (results_cell_row rfl _ _ (w.heap.size + 1) 25 _ (0, 0) _ rfl HB2.out Tryd.underlying25 rfl (by kernel_rfl)) rfl ⟨AIx, ARx, cIx, cRx, ps, qs, w1.heap.size, rfl, ?_, ?_, ?_, ?_, ?_, HD.out⟩
          · exact (((HItF.out.only HOn.out hlo0).only HP.out HL1.out).base HB0.out.size)
          · exact HItF.out.upTo
          · exact Hlow1.out.size
          · exact Nat.le_trans hlo HP.out.size
          · exact HRu.out.only HP.out HL2.out
end Go.Proofs.YtgoojcjfhghmgaaDoor


set_option linter.unusedSimpArgs false
set_option linter.unusedVariables false
namespace Go.Proofs.YtgoojcjfhghmgaaDoor
open Go Go.RowKit

/-- What is left of rules if the last k ones are looked at, from the end. -/
def RedR (p : Nat) : Nat → List Ru → List Ru → Prop
  | 0, l, m => m = l
  | k + 1, l, m => ∃ r, FlR (l.eraseIdx k) p (l[k]?.getD ([], 0)) r ∧ RedR p k (if r = true then l.eraseIdx k else l) m
theorem RedR.sub {p : Nat} : ∀ {k : Nat} {l m : List Ru}, RedR p k l m → m.Sublist l
  | 0, _, _, h => by
    have e : _ = _ := h
    rw [e]; exact List.Sublist.refl _
  | k + 1, l, _, ⟨r, _, h⟩ => by
    refine h.sub.trans ?_
    cases r
    · exact List.Sublist.refl _
    · exact List.eraseIdx_sublist l k
theorem mem_erase_or {l : List Ru} {k : Nat} (hk : k < l.length) {x : Ru} (h : x ∈ l) : x ∈ l.eraseIdx k ∨ x = l[k] := by
  obtain ⟨j, hj, rfl⟩ := List.mem_iff_getElem.1 h
  by_cases e : j = k
  · subst e; exact .inr rfl
  · refine .inl ?_
    rw [List.eraseIdx_eq_take_drop_succ]
    rcases Nat.lt_or_ge j k with h1 | h1
    · exact List.mem_append.2 (.inl (List.mem_iff_getElem.2 ⟨j, by simp; omega, by simp⟩))
    · exact List.mem_append.2 (.inr (List.mem_iff_getElem.2 ⟨j - (k + 1), by simp; omega, by simp only [List.getElem_drop]; congr 1; omega⟩))
/-- A set is shut by the same rules if one that follows is left out. -/
theorem shut_erase {l : List Ru} {k p : Nat} (hk : k < l.length) (h : FlR (l.eraseIdx k) p l[k] true) (y : Nat) : Shut (l.eraseIdx k) allW y ↔ Shut l allW y := by
  constructor
  · intro hs r hr ha hw
    rcases mem_erase_or hk hr with hr | rfl
    · exact hs r hr ha hw
    · obtain ⟨x, hx, _, hb⟩ := h
      have hsub : Sub (mk (natL l[k].1)) y := fun q hq => by
        rw [mk_bit, List.contains_iff_mem] at hq
        exact List.all_eq_true.1 ha q hq
      exact hx.1.2 y hsub hs _ hb.symm
  · intro hs r hr ha hw
    exact hs r (List.mem_of_mem_eraseIdx hr) ha hw
theorem RedR.shut {p : Nat} : ∀ {k : Nat} {l m : List Ru}, k ≤ l.length → RedR p k l m → ∀ y, Shut m allW y ↔ Shut l allW y
  | 0, _, _, _, h, y => by
    have e : _ = _ := h
    rw [e]
  | k + 1, l, m, hk, ⟨r, h1, h2⟩, y => by
    rw [show l[k]?.getD ([], 0) = l[k] by simp [show k < l.length by omega]] at h1
    cases r with
    | false => exact RedR.shut (by simp; omega) h2 y
    | true => exact (RedR.shut (by simp [List.length_eraseIdx]; split <;> omega) h2 y).trans (shut_erase (by omega) h1 y)
theorem cl_shut {l m : List Ru} (h : ∀ y, Shut m allW y ↔ Shut l allW y) {x y : Nat} : Cl m x allW y ↔ Cl l x allW y :=
  ⟨fun ⟨⟨h1, h2⟩, h3⟩ => ⟨⟨h1, fun z hz hs => h2 z hz ((h z).2 hs)⟩, (h y).1 h3⟩, fun ⟨⟨h1, h2⟩, h3⟩ => ⟨⟨h1, fun z hz hs => h2 z hz ((h z).1 hs)⟩, (h y).2 h3⟩⟩

theorem RowsOwn.erase {base : Nat} {gx : Option Nat} {w : World} {vs : List Value} {rows : List (List Int)} (h : RowsOwn base gx w vs rows) (k : Nat) : RowsOwn base gx w (vs.eraseIdx k) (rows.eraseIdx k) := by
  have key : ∀ i, ∃ j, (∀ (α : Type) (l : List α), (l.eraseIdx k)[i]? = l[j]?) ∧ (i < k → j = i) ∧ (k ≤ i → j = i + 1) := fun i => by
    by_cases e : i < k
    · exact ⟨i, fun α l => by rw [List.getElem?_eraseIdx, if_pos e], fun _ => rfl, fun h => by omega⟩
    · exact ⟨i + 1, fun α l => by rw [List.getElem?_eraseIdx, if_neg e], fun h => by omega, fun _ => rfl⟩
  refine ⟨by simp [List.length_eraseIdx, h.1], fun i hi => ?_, fun i i' v v' hii hv hv' b hb => ?_⟩
  · obtain ⟨j, e, _, _⟩ := key i
    have hj : rows[j]? = some (rows.eraseIdx k)[i] := by rw [← e, List.getElem?_eq_getElem hi]
    obtain ⟨hj1, hj2⟩ := List.getElem?_eq_some_iff.1 hj
    obtain ⟨A, c, q1, q2, q3⟩ := h.2.1 j hj1
    rw [hj2] at q1 q2 q3
    exact ⟨A, c, by rw [e]; exact q1, q2, q3⟩
  · obtain ⟨j, e, e1, e2⟩ := key i
    obtain ⟨j', e', e1', e2'⟩ := key i'
    rw [e] at hv
    rw [e'] at hv'
    exact h.2.2 j j' v v' (by
      rcases Nat.lt_or_ge i k with h1 | h1 <;> rcases Nat.lt_or_ge i' k with h2 | h2
      · rw [e1 h1, e1' h2]; exact hii
      · rw [e1 h1, e2' h2]; omega
      · omega
      · rw [e2 h1, e2' h2]; omega) hv hv' b hb
/-- A block that is no row of it is turned. -/
theorem RowsOwn.onlyG {base : Nat} {gx : Option Nat} {w w' : World} {vs : List Value} {rows : List (List Int)} {G : Nat} {t : TypeId} {cs : Array Value} (h : RowsOwn base gx w vs rows) (o : Only G w w') (hG : Blk w G t cs) (ht : 3 ≠ t) : RowsOwn base gx w' vs rows :=
  ⟨h.1, fun i hi => by
    obtain ⟨A, c, h1, h2, h3⟩ := h.2.1 i hi
    exact ⟨A, c, h1, o.own h2 (hG.ne_row h2 ht), h3⟩, h.2.2⟩
theorem RuP.onlyG {lo G : Nat} {out : Value} {w w' : World} {ps : List (Value × Value)} {l : List Ru} {cs : Array Value} (h : RuP lo out w ps l) (o : Only G w w') (hG : Blk w G 25 cs) : RuP lo out w' ps l :=
  ⟨h.1, o.own h.2.1 (hG.ne_row h.2.1 (by decide)), h.2.2.1.onlyG o hG (by decide), h.2.2.2⟩
theorem RuP.one {lo : Nat} {out : Value} {w : World} {ps : List (Value × Value)} {l : List Ru} (h : RuP lo out w ps l) : ∀ u ∈ flatV ps, u.oneCell' = true := flatV_one fun q hq => by
  obtain ⟨i, hi, rfl⟩ := List.mem_iff_getElem.1 hq
  have hil : i < l.length := by rw [← h.1]; exact hi
  obtain ⟨A, c, h1, _⟩ := h.2.2.1.2.1 i (by simpa [flR] using hil)
  rw [List.getElem?_map, List.getElem?_eq_getElem hi] at h1
  have h2 := congrArg (fun l => l[i]?) h.2.2.2
  simp only [List.getElem?_map, List.getElem?_eq_getElem hi, List.getElem?_eq_getElem hil, Option.map_some, Option.some.injEq] at h1 h2
  rw [h1, h2]
  exact ⟨rfl, rfl⟩
/-- Rules of which one is left out, in a row of their own. -/
theorem RuP.erase {lo lo' i n : Nat} {out out' : Value} {w w' : World} {ps : List (Value × Value)} {l : List Ru} (h : RuP lo out w ps l) (hn : l.length = n) (hi : i < n) (hlo : lo ≤ lo') (hw : w.heap.size ≤ lo') (hb : Below w.heap.size w w')
    (ho : w'.ownsRow lo' 42 2 out' (n - 1) (flatV (ps.eraseIdx i))) : RuP lo out' w' (ps.eraseIdx i) (l.eraseIdx i) := by
  subst hn
  refine ⟨by simp [List.length_eraseIdx, h.1], by rw [List.length_eraseIdx_of_lt hi]; exact own_base ho hlo, ?_, ?_⟩
  · have h1 := (h.2.2.1.below hb).erase i
    have e1 : (ps.map (·.1)).eraseIdx i = (ps.eraseIdx i).map (·.1) := by rw [List.eraseIdx_eq_take_drop_succ, List.eraseIdx_eq_take_drop_succ]; simp
    have e2 : (flR l).eraseIdx i = flR (l.eraseIdx i) := by unfold flR; rw [List.eraseIdx_eq_take_drop_succ, List.eraseIdx_eq_take_drop_succ]; simp
    rw [e1, e2] at h1
    refine ⟨h1.1, fun j hj => ?_, h1.2.2⟩
    obtain ⟨A, c, q1, q2, _⟩ := h1.2.1 j hj
    refine ⟨A, c, q1, q2, fun k hk e => ?_⟩
    have h3 := (ho.lt k e).1
    have h2 := (h.2.2.1.erase i).lt (by rw [e1]; exact q1) hk
    omega
  · have := h.2.2.2
    have e1 : (ps.eraseIdx i).map (·.2) = (ps.map (·.2)).eraseIdx i := by rw [List.eraseIdx_eq_take_drop_succ, List.eraseIdx_eq_take_drop_succ]; simp
    rw [e1, this, List.eraseIdx_eq_take_drop_succ, List.eraseIdx_eq_take_drop_succ]; simp
end Go.Proofs.YtgoojcjfhghmgaaDoor


set_option linter.unusedSimpArgs false
set_option linter.unusedVariables false
namespace Go.Proofs.YtgoojcjfhghmgaaDoor
open Go Go.RowKit

theorem results_cell_row2 {P : Program} {fn : Func} {p u : Tmp} {ty : TypeId} (h : fn.results = #[.cell p ty, .tmp u]) (tmps : Array Value) (w : World) (g : Nat) (t : TypeId) (cs : Array Value) (fr : Nat × Nat) (d : TypeDesc)
    (hp : tmps.getD p undef = .pointer (some ⟨g, 0, none⟩)) (hg : w.heap[g]? = some (.cells cs t fr))
    (hu : P.underlying ty = some d) (hd : (match d with | .struct _ | .array _ _ => true | _ => false) = true) (hi : (P.info? ty).map (·.size) = some cs.size) :
    (results fn tmps).run P w = .ok (.tuple #[.agg cs, tmps.getD u undef]) w := by
  rw [results_cell_tmp h, hp]
  simp only [asAddr, Sem.run_pure, Result.andThen_ok, run_loadVar_row w g t ty cs fr d hg hu hd hi]

set_option maxRecDepth 100000 in
set_option maxHeartbeats 4000000 in
theorem Reduce_any (AI AR : Option Addr) (cI cR B : Nat) (b : Bk) (w : World) (hB : B ≤ w.heap.size) (h : ItsAt B w AI b.its) (h' : RusAt B w AR b.rus) (hs : Short b) (h0 : vlR b = 0) :
    Calls Tryd.prog 47 #[.agg #[.int .i64 b.p, .slice AI b.its.length cI, .slice AR b.rus.length cR]] w fun e w' => ∃ AI' AR' cI' cR' qs m, e = .returned (.tuple #[.agg #[.int .i64 b.p, .slice AI' b.its.length cI', .slice AR' (List.length m) cR'], .int .i64 0]) ∧
      ItsAt w'.heap.size w' AI' b.its ∧ RedR b.p.toNat b.rus.length b.rus m ∧ RuP w.heap.size (.slice AR' m.length cR') w' qs m ∧ Below w.heap.size w w' := by
  have hv := vl_zero h0
  have hT := h.below (Below.refl _ _) hB
  have hT' := h'.below (Below.refl _ _) hB
  have cv := Lib.hid (fun W (hW : Below w.heap.size w W) => Validate_any AI AR cI cR w.heap.size b W hW.size (hT.below hW (Nat.le_refl _)) (hT'.below hW (Nat.le_refl _)) hs)
  have cc := Lib.hid (fun W (hW : Below w.heap.size w W) => clone_bk AI AR cI cR w.heap.size b W hW.size (hT.below hW (Nat.le_refl _)) (hT'.below hW (Nat.le_refl _)) hs)
  rw [h0] at cv
  obtain ⟨p, hp⟩ := Int.eq_ofNat_of_zero_le hv.p0
  have hp10 : p ≤ 10 := by have := hv.p1; omega
  have hpn : b.p.toNat = p := by rw [hp]; rfl
  have cf := Lib.hid (fun (A A1 : Option Addr) (cA c1 : Nat) (l : List Ru) (x : Ru) (W : World) (hR : RusAt W.heap.size W A l) (hI : IntsAt W.heap.size W A1 x.1) (hl : ∀ y ∈ l, y ∈ b.rus) (hx : x ∈ b.rus) (hlen : l.length ≤ b.rus.length) => follows_any A1 A c1 cA W.heap.size p l x W (Nat.le_refl _) hR hI (by have := hs.2.1; omega) (fun y hy => hs.2.2.2 y (hl y hy)) (by have := hs.2.2.2 x hx; omega) (fun y hy => by have := hv.rules y (hl y hy); rwa [hp] at this) (by have := hv.rules x hx; rwa [hp] at this) hp10)
  have nr := hs.2.1
  have HB0 := Lib.hid (show Below w.heap.size w ((w.alloc (.cells #[.int .i64 b.p, .slice AI b.its.length cI, .slice AR b.rus.length cR] 25)).alloc (.cells #[.int .i64 0, .slice none 0 0, .slice none 0 0] 25)) from balloc (balloc (Below.refl _ _) _) _)
  rw [hpn]
  clear h h' hs hT hT' hv h0 hB hp hpn
  go_enter Tryd.func47, Tryd.ntmps47
  go_wp2_with fail
  generalize hW0 : (w.alloc (.cells #[.int .i64 b.p, .slice AI b.its.length cI, .slice AR b.rus.length cR] 25)).alloc (.cells #[.int .i64 0, .slice none 0 0, .slice none 0 0] 25) = W0
  rw [hW0] at HB0
  have HK0 := Lib.hid (show Blk W0 w.heap.size 25 #[.int .i64 b.p, .slice AI b.its.length cI, .slice AR b.rus.length cR] by rw [← hW0]; exact (Blk.new _ _ _).alloc _)
  have HK1 := Lib.hid (show Blk W0 (w.heap.size + 1) 25 #[.int .i64 0, .slice none 0 0, .slice none 0 0] by rw [← hW0]; exact blk_new' (by simp))
  have HS0 := Lib.hid (show w.heap.size + 1 < W0.heap.size from HK1.out.lt)
  clear hW0
  go_wp2_with (first
    | (go_at_call 20; refine (cv.out _ HB0.out).mono ?_; rintro e w1 ⟨rfl, hb1⟩; obtain ⟨x0, x1, x2, _⟩ := blk3 (HK0.out.below hb1 HK0.out.lt); have hB1 := HB0.out.trans (hb1.mono HB0.out.size))
    | (go_at_call 90; refine (cc.out _ hB1).mono ?_; rintro e w2 ⟨AI', AR', cI', cR', ps, qs, mid, rfl, hit, hup, hm1, hm2, hru, hb2⟩))
  generalize hW3 : w2.alloc (.cells #[.int .i64 b.p, .slice AI' b.its.length cI', .slice AR' b.rus.length cR'] 25) = w3
  have hb23 : Below w2.heap.size w2 w3 := by rw [← hW3]; exact balloc (Below.refl _ _) _
  have HKG := Lib.hid (show Blk w3 w2.heap.size 25 #[.int .i64 b.p, .slice AI' b.its.length cI', .slice AR' b.rus.length cR'] by rw [← hW3]; exact Blk.new _ _ _)
  have hB2 := hb1.trans (hb2.mono hb1.size)
  have HB3 := Lib.hid (hB2.trans (hb23.mono hB2.size))
  have HIt := Lib.hid hit
  have HL1 := Lib.hid (show w.heap.size + 1 < w1.heap.size from Nat.lt_of_lt_of_le HS0.out hb1.size)
  have HRu := Lib.hid ((hru.below hb23).base (Nat.le_trans (Nat.le_trans HB0.out.size hb1.size) hm1))
  have H23 := Lib.hid hb23
  have hGl : W0.heap.size ≤ w2.heap.size := hB2.size
  have HGl := Lib.hid (And.intro (show w.heap.size + 1 < w2.heap.size by have := HS0.out; omega) hb23.size)
  have HK12 := Lib.hid (HK1.out.below hB2 HK1.out.lt)
  have HBw := Lib.hid (HB0.out.trans (hB2.mono HB0.out.size))
  clear hW3 hit hup hm1 hm2 hru hb23 hb1 hb2 hB1 hB2 x0 x1 x2
  go_loopw [6] (fun s wr => ∃ (k : Nat) (cur : List Ru) (qs : List (Value × Value)) (A : Option Addr) (c : Nat), k ≤ cur.length ∧ cur.length ≤ b.rus.length ∧ s = .int .i64 ((k : Int) - 1) ∧ Aside (∀ m, RedR p k cur m → RedR p b.rus.length b.rus m) ∧ Aside (∀ x ∈ cur, x ∈ b.rus) ∧ Aside (RuP w.heap.size (.slice A cur.length c) wr qs cur) ∧ Aside (Blk wr w2.heap.size 25 #[.int .i64 b.p, .slice AI' b.its.length cI', .slice A cur.length c]) ∧ Aside (Below w2.heap.size w2 wr)) (fun s _ => (intOf s + 1).toNat)
  case atStart => exact ⟨b.rus.length, b.rus, qs, AR', cR', Nat.le_refl _, Nat.le_refl _, rfl, fun _ h => h, fun _ h => h, HRu.out, HKG.out, H23.out⟩
  case round =>
    clear HRu HKG
    obtain ⟨k, cur, qs, A, c, hk, hcl, rfl, hred, hsub, hru, hbl, hbr⟩ := hrel
    have HRed := Lib.hid hred.out
    have HSub := Lib.hid hsub.out
    have HRu := Lib.hid hru.out
    have HBl := Lib.hid hbl.out
    have HBr := Lib.hid hbr.out
    have hGr : w2.heap.size < wr.heap.size := hbl.out.lt
    obtain ⟨y0, y1, y2, f0, f1, f2⟩ := blk3 hbl.out
    clear hred hsub hru hbl hbr
    cases k with
    | zero =>
      have HR1 := Lib.hid (HK12.out.below HBr.out HK12.out.lt)
      obtain ⟨t0, t1, t2, g0, g1, g2⟩ := blk3 HR1.out
      have hlR : w.heap.size + 1 < wr.heap.size := HR1.out.lt
      have HM := Lib.hid (HRed.out cur rfl)
      clear hk
      go_wp2_with fail
      have HP := Lib.hid ((((Only.refl (w.heap.size + 1) wr).put 0 (.int .i64 b.p)).put 1 (.slice AI' b.its.length cI')).put 2 (.slice A cur.length c))
      have HB2 := Lib.hid (((HR1.out.put 0 (.int .i64 b.p)).put 1 (.slice AI' b.its.length cI')).put 2 (.slice A cur.length c))
      have hlow := HBw.out.trans (HBr.out.mono HBw.out.size)
      refine bodyPost_ret (results_cell_row2 rfl _ _ (w.heap.size + 1) 25 _ (0, 0) _ rfl HB2.out Tryd.underlying25 rfl (by kernel_rfl)) rfl ⟨AI', A, cI', c, qs, cur, rfl, ?_, HM.out, ?_, ?_⟩
      · exact ((HIt.out.below HBr.out).only HP.out HL1.out).at rfl
      · exact HRu.out.onlyG HP.out HR1.out
      · exact hlow.trans (HP.out.below (Nat.le_succ _) hlow.size)
    | succ k =>
      have e : (((k + 1 : Nat) : Int) - 1) = (k : Int) := by omega
      rw [e]
      clear e
      have hkl : k < cur.length := by omega
      have hkb : k ≤ 1000 := by omega
      obtain ⟨g, off, A1, c1, rfl, hg, e0, e1, i1⟩ := (HRu.out.at rfl) k hkl
      obtain ⟨n1, hn1⟩ : ∃ n1, n1 = cur[k].1.length := ⟨_, rfl⟩
      obtain ⟨z, hz⟩ : ∃ z, z = cur[k].2 := ⟨_, rfl⟩
      rw [← hn1] at e0
      rw [← hz] at e1
      have Hn1 := Lib.hid hn1
      have Hz := Lib.hid hz
      have HI1 := Lib.hid i1
      have HE := Lib.hid (And.intro e0 e1)
      have ckl := Lib.hid (cloneRu_any (some ⟨g, off, none⟩) cur.length c w.heap.size qs wr HRu.out.2.1 (by omega) (by omega) HRu.out.one)
      have cdl := Lib.hid (fun (A2 : Option Addr) (c2 : Nat) (W : World) (ho : W.ownsRow wr.heap.size 42 2 (.slice A2 cur.length c2) cur.length (flatV qs)) => deleteRu_any A2 cur.length c2 k wr.heap.size qs W ho hkl HRu.out.1 (by omega) HRu.out.one)
      have HBl2 := Lib.hid (fun W (hW : Below wr.heap.size wr W) => blk3 (HBl.out.below hW hGr))
      have HC2 := Lib.hid (fun W (hW : Below wr.heap.size wr W) => show W.cell? ⟨g, off + k * 2, none⟩ = some (.slice A1 n1 c1) ∧ W.cell? ⟨g, off + k * 2 + 1, none⟩ = some (.int .i64 z) from ⟨(hW.cell (p := ⟨g, off + k * 2, none⟩) hg).trans HE.out.1, (hW.cell (p := ⟨g, off + k * 2 + 1, none⟩) hg).trans HE.out.2⟩)
      clear hn1 hz i1 e0 e1
      go_wp2_with (first
        | (go_at_call 92; refine ckl.out.mono ?_; rintro e w4 ⟨A2, c2, rfl, ho4, hb4⟩; have HO4 := Lib.hid ho4; have HB4 := Lib.hid hb4; clear ho4 hb4)
        | (go_at_call 91; refine (cdl.out A2 c2 _ HO4.out).mono ?_; rintro e w5 ⟨A3, rfl, ho5, g5, hg5, hg5b, on5⟩; have HO5 := Lib.hid ho5; have hb5 : Below wr.heap.size wr w5 := HB4.out.trans (on5.below hg5b HB4.out.size); have HB5 := Lib.hid hb5; clear y0 y1 y2 f0 f1 f2; obtain ⟨y0, y1, y2, _⟩ := HBl2.out _ hb5; obtain ⟨d0, d1⟩ := HC2.out _ hb5; clear ho5 on5 hb5))
      have hwl : w.heap.size ≤ wr.heap.size := (HBw.out.trans (HBr.out.mono HBw.out.size)).size
      have hRe := RuP.erase (lo' := wr.heap.size) HRu.out rfl hkl hwl (Nat.le_refl _) HB5.out HO5.out
      have hle := List.length_eraseIdx_of_lt hkl
      have c78 := cf.out A3 (A1) c2 c1 (cur.eraseIdx k) (cur[k]'hkl) w5 (hRe.at hle.symm) (HI1.out.below HB5.out HB5.out.size) (fun y hy => HSub.out y (List.mem_of_mem_eraseIdx hy)) (HSub.out _ (List.getElem_mem hkl)) (by omega)
      rw [hle, ← Hn1.out, ← Hz.out] at c78
      have HRe := Lib.hid hRe
      have Hle := Lib.hid hle
      have C78 := Lib.hid c78
      have hk1 : k ≤ cur.length := by omega
      have hk2 : k ≤ cur.length - 1 := by omega
      have hk3 : cur.length - 1 ≤ b.rus.length := by omega
      clear hRe hle c78 hwl d0 d1
      go_at_call 78
      refine C78.out.mono ?_
      rintro e w6 ⟨v, rfl, ⟨r, rfl, hfl⟩, hb6⟩
      have HFl := Lib.hid (show FlR (cur.eraseIdx k) p (cur[k]?.getD ([], 0)) r from by
        rw [show cur[k]?.getD ([], 0) = cur[k] by simp [hkl]]; exact hfl)
      have hb56 := HB5.out.trans (hb6.mono HB5.out.size)
      have HB6 := Lib.hid hb56
      have HBl6 := Lib.hid (HBl.out.below hb56 hGr)
      have HRe6 := Lib.hid (HRe.out.below hb6)
      have HRu6 := Lib.hid (HRu.out.below hb56)
      have HBr6 := Lib.hid (HBr.out.trans (hb56.mono HBr.out.size))
      clear y0 y1 y2 hfl hb6 hb56
      obtain ⟨y0, y1, y2, f0, f1, f2⟩ := blk3 HBl6.out
      cases r with
      | false =>
        go_wp2_with fail
        go_roundw
        case rel => exact ⟨k, cur, qs, some ⟨g, off, none⟩, c, hk1, hcl, by go_num, fun m hm => HRed.out m ⟨false, HFl.out, by simpa using hm⟩, HSub.out, HRu6.out, HBl6.out, HBr6.out⟩
        case measure => simp [intOf]
      | true =>
        go_wp2_with fail
        have HP := Lib.hid ((Only.refl w2.heap.size w6).put 2 (.slice A3 (cur.length - 1) c2))
        go_roundw
        case rel =>
          refine ⟨k, cur.eraseIdx k, qs.eraseIdx k, A3, c2, by rw [Hle.out]; exact hk2, by rw [Hle.out]; exact hk3, by go_num, fun m hm => HRed.out m ⟨true, HFl.out, by simpa using hm⟩, fun x hx => HSub.out x (List.mem_of_mem_eraseIdx hx), ?_, ?_, HBr6.out.trans (HP.out.below (Nat.le_refl _) HBr6.out.size)⟩
          · rw [Hle.out]; exact HRe6.out.onlyG HP.out HBl6.out
          · rw [Hle.out]; exact HBl6.out.put 2 (.slice A3 (cur.length - 1) c2)
        case measure => simp [intOf]

end Go.Proofs.YtgoojcjfhghmgaaDoor


set_option linter.unusedSimpArgs false
set_option linter.unusedVariables false
namespace Go.Proofs.YtgoojcjfhghmgaaDoor
open Go Go.RowKit

theorem vl_of {b : Bk} (h : VBk b) (hi : itsE b.p 0 b.its = 0) : vlR b = 0 := by
  unfold vlR
  have := h.p0; have := h.p1; have := h.ni; have := h.nr
  rw [if_neg (by omega), if_neg (by omega), if_pos hi, if_pos (List.all_eq_true.2 h.rules)]
theorem its_zero {b : Bk} (h : vlR b = 0) : itsE b.p 0 b.its = 0 := by
  unfold vlR at h
  split at h
  · cases h
  · split at h
    · cases h
    · split at h
      · assumption
      · exact absurd h ‹_›
theorem vl_sub {b : Bk} {m : List Ru} (h : vlR b = 0) (hm : m.Sublist b.rus) : vlR ⟨b.p, b.its, m⟩ = 0 := by
  have hv := vl_zero h
  exact vl_of ⟨hv.p0, hv.p1, hv.ni, Nat.le_trans hm.length_le hv.nr, hv.parts, fun x hx => hv.rules x (hm.subset hx)⟩ (show itsE b.p 0 b.its = 0 from its_zero h)
theorem short_sub {b : Bk} {m : List Ru} (h : Short b) (hm : m.Sublist b.rus) : Short ⟨b.p, b.its, m⟩ := ⟨h.1, Nat.le_trans hm.length_le h.2.1, h.2.2.1, fun x hx => h.2.2.2 x (hm.subset hx)⟩
section
variable {lo n c g : Nat} {w : World} {ps : List (Value × Value)} {l : List Ru}
end
end Go.Proofs.YtgoojcjfhghmgaaDoor
