/- slices.Clone f92, slices.Delete f91 at rules. -/
import Derived.Test.YtgoojcjfhghmgaaDoorDisHa
import Derived.Deep.RegionLaw
import Derived.Lib.SliceRun
set_option linter.unusedSimpArgs false
set_option linter.unusedVariables false
namespace Go.Proofs.YtgoojcjfhghmgaaDoor
open Go Go.RowKit

def layA : Array Value → Nat → List Value → Array Value
  | cs, _, [] => cs
  | cs, o, v :: vs => layA (cs.setIfInBounds o v) (o + 1) vs
theorem layA_list : ∀ (vs : List Value) (cs : Array Value) (o : Nat), o + vs.length ≤ cs.size → (layA cs o vs).toList = cs.toList.take o ++ vs ++ cs.toList.drop (o + vs.length)
  | [], cs, o, _ => by simp [layA]
  | v :: vs, cs, o, h => by
    simp only [List.length_cons] at h
    rw [layA, layA_list vs _ _ (by simp; omega)]
    have ho : o < cs.toList.length := by simp; omega
    rw [Array.toList_setIfInBounds, List.take_set, List.drop_set_of_lt (by omega), List.take_succ_eq_append_getElem ho]
    rw [List.set_append_right _ _ (by simp; omega)]
    simp only [List.length_take, List.append_assoc, List.length_cons, Nat.min_eq_left (Nat.le_of_lt ho), Nat.sub_self, List.set_cons_zero, List.cons_append, List.nil_append]
    rw [show o + 1 + vs.length = o + (vs.length + 1) by omega]
theorem layA_size : ∀ (vs : List Value) (cs : Array Value) (o : Nat), (layA cs o vs).size = cs.size
  | [], _, _ => rfl
  | v :: vs, cs, o => by rw [layA, layA_size vs]; simp
theorem Blk.lay {g : Nat} {t : TypeId} : ∀ (vs : List Value) {w : World} {cs : Array Value} (o : Nat), Blk w g t cs → Blk (w.setCells g o vs) g t (layA cs o vs)
  | [], _, _, _, h => h
  | v :: vs, _, _, o, h => Blk.lay vs (o + 1) (h.put o v)
theorem only_lay {g : Nat} : ∀ (vs : List Value) (o : Nat) {a w : World}, Only g a w → Only g a (w.setCells g o vs)
  | [], _, _, _, h => h
  | v :: vs, o, _, _, h => only_lay vs (o + 1) (h.put o v)
theorem own_blk {w : World} {base e s n c : Nat} {A : Option Addr} {xs : List Value} (h : w.ownsRow base e s (.slice A n c) n xs) (hn : 0 < n) : ∃ g cs, A = some ⟨g, 0, none⟩ ∧ base ≤ g ∧ Blk w g e cs ∧ n ≤ c ∧ c ≤ maxLen ∧ cs.size = c * s ∧ cs.toList.take (n * s) = xs := by
  rcases h.2 with ⟨_, h0⟩ | ⟨g, cap, cur, e1, hb, hg, h1, h2, h3, h4⟩
  · omega
  · injection e1 with e1 _ e3
    subst e1 e3
    exact ⟨g, cur, rfl, hb, hg, h1, h2, h3, h4⟩
theorem blk_own {w : World} {base e s n c g : Nat} {xs : List Value} {cs : Array Value} (hb : base ≤ g) (h : Blk w g e cs) (h1 : n ≤ c) (h2 : c ≤ maxLen) (h3 : cs.size = c * s) (h4 : cs.toList.take (n * s) = xs) : w.ownsRow base e s (.slice (some ⟨g, 0, none⟩) n c) n xs := by
  refine ⟨?_, .inr ⟨g, c, cs, rfl, hb, h, h1, h2, h3, h4⟩⟩
  rw [← h4, List.length_take, Array.length_toList, h3]
  exact Nat.min_eq_left (Nat.mul_le_mul_right s h1)
theorem flatV_append (a b : List (Value × Value)) : flatV (a ++ b) = flatV a ++ flatV b := by simp [flatV]
theorem flatV_one {ps : List (Value × Value)} (h : ∀ p ∈ ps, p.1.oneCell' = true ∧ p.2.oneCell' = true) : ∀ u ∈ flatV ps, u.oneCell' = true := by
  intro u hu
  simp only [flatV, List.mem_flatMap] at hu
  obtain ⟨p, hp, hu⟩ := hu
  simp only [List.mem_cons, List.not_mem_nil, or_false] at hu
  rcases hu with rfl | rfl
  · exact (h p hp).1
  · exact (h p hp).2

set_option maxRecDepth 100000 in
set_option maxHeartbeats 1000000 in
theorem cloneRu_any (A : Option Addr) (n c lo : Nat) (ps : List (Value × Value)) (w : World) (h : w.ownsRow lo 42 2 (.slice A n c) n (flatV ps)) (hn : 1 ≤ n) (hn2 : n ≤ 1000) (h1 : ∀ u ∈ flatV ps, u.oneCell' = true) :
    Calls Tryd.prog 92 #[.slice A n c] w fun e w' => ∃ A' c', e = .returned (.slice A' n c') ∧ w'.ownsRow w.heap.size 42 2 (.slice A' n c') n (flatV ps) ∧ Below w.heap.size w w' := by
  obtain ⟨i0, hi, hz0, hz1, hz2⟩ := info_parts info42
  obtain ⟨g, cs, rfl, hb, hblk, hc, hm, hs, ht⟩ := own_blk h hn
  have hlen := h.1
  have HO1 := Lib.hid (show (w.alloc (.cells #[] 42)).ownsRow w.heap.size 42 2 (.slice (some ⟨w.heap.size, 0, none⟩) 0 0) 0 [] from own_new 2 (Nat.le_refl _))
  have HB1 := Lib.hid (show Below w.heap.size w (w.alloc (.cells #[] 42)) from balloc (Below.refl _ _) _)
  have HN := Lib.hid (show ∀ ad, (some ⟨g, 0, none⟩ : Option Addr) = some ad → ∀ j u, (flatV ps)[j]? = some u → (w.alloc (.cells #[] 42)).cell? (ad.add j) = some u from fun ad had j u hu => by
    injection had with had
    subst had
    exact (own_below h (balloc (Below.refl _ _) _)).cells (g := g) rfl j u hu)
  have H1 := Lib.hid h1
  have Hlen := Lib.hid hlen
  have heq : ∀ w : World, (binOp .eql 23 (.slice (some ⟨g, 0, none⟩) n c) (.slice none 0 0)).run Tryd.prog w = .ok (.bool false) w := fun w => Lib.run_eql_slice_nil w 23 42 (some ⟨g, 0, none⟩) n c 0 0 Tryd.underlying23
  clear h h1 hblk hs ht hlen
  go_enter Tryd.func92, Tryd.ntmps92
  go_wp2_with (at_builtin; refine wpList_app _ rfl _ _ 23 rfl w.heap.size 42 i0 _ 2 32 Tryd.underlying23 hi hz0 hz1 hz2 rfl (by decide) _ 0 _ rfl HO1.out (some ⟨g, 0, none⟩) n c (flatV ps) rfl Hlen.out (fun e => by cases e) HN.out H1.out (by omega) (by decide) HB1.out.size n (by omega) (flatV ps) rfl ?_; intro A4 c4 w4 hown4 hg4 hlow4)
  go_ret
  exact ⟨A4, c4, rfl, hown4, HB1.out.grown hg4 HB1.out.size hlow4⟩

theorem run_clear_rule (w : World) (ty : TypeId) (b o c : Nat) (hc : ∀ j, j < 2 → (w.cell? ⟨b, o + j, none⟩).isSome = true) (hf : ∀ j, j < 2 → w.frozen? ⟨b, o + j, none⟩ = false) :
    (Builtin.clear_ #[23] ty #[.slice (some ⟨b, o, none⟩) 1 c]).run Tryd.prog w = .ok (.tuple #[]) (w.setCells b o [.slice none 0 0, .int .i64 0]) := by
  have hv : (zeroValue 42).run Tryd.prog w = .ok (.agg #[.slice none 0 0, .int .i64 0]) w := by kernel_rfl
  have hst := run_storeCells_cells (P := Tryd.prog) b o [.slice none 0 0, .int .i64 0] 0 w (by simpa using hc) (by simpa using hf) (by intro v hv'; simp at hv'; rcases hv' with rfl | rfl <;> rfl)
  simp only [Nat.add_zero] at hst
  have hzc : (Builtin.zeroCells (Value.agg #[.slice none 0 0, .int .i64 0]).cells 1).toList = [.slice none 0 0, .int .i64 0] := by kernel_rfl
  simp [Builtin.clear_, run_underlying Tryd.underlying23, hv, hzc, hst]

set_option maxRecDepth 100000 in
set_option maxHeartbeats 2000000 in
theorem deleteRu_any (A : Option Addr) (n c i lo : Nat) (ps : List (Value × Value)) (w : World) (h : w.ownsRow lo 42 2 (.slice A n c) n (flatV ps)) (hi : i < n) (hps : ps.length = n) (hn2 : n ≤ 1000) (h1 : ∀ u ∈ flatV ps, u.oneCell' = true) :
    Calls Tryd.prog 91 #[.slice A n c, .int .i64 (i : Nat), .int .i64 ((i : Int) + 1)] w fun e w' => ∃ A', e = .returned (.slice A' (n - 1) c) ∧ w'.ownsRow lo 42 2 (.slice A' (n - 1) c) (n - 1) (flatV (ps.eraseIdx i)) ∧ ∃ g, A = some ⟨g, 0, none⟩ ∧ lo ≤ g ∧ Only g w w' := by
  obtain ⟨i0, hi0, hz0, hz1, hz2⟩ := info_parts info42
  obtain ⟨g, cs, rfl, hb, hblk, hc, hm, hs, ht⟩ := own_blk h (by omega)
  have hfl := flatV_length ps
  have hcl : cs.toList.length = c * 2 := by simp [hs]
  have hex : cs.toList = flatV (ps.take i) ++ (flatV ((ps.drop i).take 1) ++ flatV (ps.drop (i + 1))) ++ cs.toList.drop (n * 2) := by
    have e1 : flatV ps = flatV (ps.take i) ++ (flatV ((ps.drop i).take 1) ++ flatV (ps.drop (i + 1))) := by
      rw [← flatV_append, ← flatV_append, show ps.drop (i + 1) = (ps.drop i).drop 1 by simp, List.take_append_drop, List.take_append_drop]
    rw [← e1, ← ht, List.take_append_drop]
  have l1 : (flatV (ps.take i)).length = i * 2 := by rw [flatV_length]; simp; omega
  have l2 : (flatV ((ps.drop i).take 1)).length = 2 := by rw [flatV_length]; simp; omega
  have l3 : (flatV (ps.drop (i + 1))).length = (n - (i + 1)) * 2 := by rw [flatV_length]; simp; omega
  have hgt : ∀ k u, cs.toList[k]? = some u → w.drew.cell? ⟨g, k, none⟩ = some u := fun k u hu => by
    show w.cell? ⟨g, k, none⟩ = some u
    rw [hblk.cell, ← hu]; simp
  have hdr : ∀ k u, (flatV (ps.drop (i + 1)))[k]? = some u → cs.toList[(i + 1) * 2 + k]? = some u := fun k u hu => by
    rw [hex, List.append_assoc, List.append_assoc, List.getElem?_append_right (by omega), List.getElem?_append_right (by omega), List.getElem?_append_left (by have := (List.getElem?_eq_some_iff.1 hu).1; omega), l1, l2, ← hu]
    congr 1
    omega
  have hsz : ∀ k, k < c * 2 → (w.drew.cell? ⟨g, k, none⟩).isSome = true := fun k hk => by
    rw [hgt k (cs.toList[k]'(by omega)) (List.getElem?_eq_getElem _)]; rfl
  have hfz : ∀ k, w.drew.frozen? ⟨g, k, none⟩ = false := fun k => hblk.frozen k
  obtain ⟨A, hA, hsrc⟩ : ∃ A : Addr, (if c = i + 1 then (some ⟨g, 0, none⟩ : Option Addr) else some ⟨g, (i + 1) * 2, none⟩) = some A ∧ Hid (∀ t u, (flatV (ps.drop (i + 1)))[t]? = some u → w.drew.cell? (A.add t) = some u) := by
    by_cases hci : c = i + 1
    · refine ⟨⟨g, 0, none⟩, by simp [hci], fun t u hu => ?_⟩
      have := (List.getElem?_eq_some_iff.1 hu).1
      omega
    · refine ⟨⟨g, (i + 1) * 2, none⟩, by simp [hci], fun t u hu => ?_⟩
      rw [Addr.add_lit]
      exact hgt _ u (hdr t u hu)
  have s1 := Lib.hid (show (flatV (ps.drop (i + 1))).length = (n - (i + 1)) * 2 from l3)
  have s2 := Lib.hid (show ∀ u ∈ flatV (ps.drop (i + 1)), u.oneCell' = true from fun u hu => h1 u (by
    have e1 : flatV ps = flatV (ps.take (i + 1)) ++ flatV (ps.drop (i + 1)) := by rw [← flatV_append, List.take_append_drop]
    rw [e1]; exact List.mem_append.2 (.inr hu)))
  have s3 := Lib.hid (show ∀ t, t < (flatV (ps.drop (i + 1))).length → (w.drew.cell? ⟨g, 0 + i * 2 + t, none⟩).isSome = true ∧ w.drew.frozen? ⟨g, 0 + i * 2 + t, none⟩ = false from fun t ht => ⟨hsz _ (by omega), hfz _⟩)
  obtain ⟨W1, hW1⟩ : ∃ W1, W1 = w.drew.setCells g (0 + i * 2) (flatV (ps.drop (i + 1))) := ⟨_, rfl⟩
  have hb1 : Blk W1 g 42 (layA cs (0 + i * 2) (flatV (ps.drop (i + 1)))) := by rw [hW1]; exact Blk.lay _ _ hblk.drew
  have hs1 : (layA cs (0 + i * 2) (flatV (ps.drop (i + 1)))).size = c * 2 := by rw [layA_size, hs]
  have hcl2 : ∀ ty, (Builtin.clear_ #[23] ty #[.slice (some ⟨g, (i + (n - (i + 1))) * 2, none⟩) (n - (i + (n - (i + 1)))) (c - (i + (n - (i + 1))))]).run Tryd.prog W1 = .ok (.tuple #[]) (W1.setCells g ((i + (n - (i + 1))) * 2) [.slice none 0 0, .int .i64 0]) := fun ty => by
    rw [show n - (i + (n - (i + 1))) = 1 by omega]
    exact run_clear_rule W1 ty g ((i + (n - (i + 1))) * 2) _ (fun j hj => by rw [hb1.cell, Array.getElem?_eq_getElem (by rw [hs1]; omega)]; rfl) (fun j hj => hb1.frozen _)
  have hW := Lib.hid hW1
  have hne : ((i : Int) == (i : Int) + 1) = false := by simp; omega
  have hic : i ≤ c := by omega
  have hjc : i + 1 ≤ c := by omega
  have hi0' : (0 : Int) ≤ (i : Int) + 1 := by omega
  have hi1 : (i : Int) + 1 ≤ (n : Int) := by omega
  have hi2 : (i : Int) + 1 ≤ (c : Int) := by omega
  have Hst := Lib.hid (And.intro hblk (And.intro hb1 (And.intro hs1 (And.intro hex (And.intro l1 (And.intro l3 hb))))))
  clear h h1 hblk hs ht hcl hex l1 l2 l3 hgt hdr hsz hfz hW1 hb1 hs1 hfl hb hps
  go_enter Tryd.func91, Tryd.ntmps91
  go_wp2_with fail
  go_region_law (refine step_append_room rfl (.tmp 22) (.tmp 25) 23 rfl 42 i0 2 Tryd.underlying23 hi0 hz1 g 0 i c (by simp [Act.eval, Act.put]) A (n - (i + 1)) (c - (i + 1)) (flatV (ps.drop (i + 1))) (by simp [Act.eval, Act.put]) s1.out hsrc.out s2.out (by omega) s3.out ?_; rw [← hW.out])
  go_wp2_with fail
  go_ret
  obtain ⟨hblk, hb1, hs1, hex, l1, l3, hb⟩ := Hst.out
  refine ⟨some ⟨g, 0, none⟩, by rw [show i + (n - (i + 1)) = n - 1 by omega]; rfl, ?_, g, rfl, hb, ?_⟩
  · have hb2 := Blk.lay [.slice none 0 0, .int .i64 0] ((i + (n - (i + 1))) * 2) hb1
    refine blk_own hb hb2 (by omega) hm (by rw [layA_size, hs1]) ?_
    have hps2 : ps.eraseIdx i = ps.take i ++ ps.drop (i + 1) := List.eraseIdx_eq_take_drop_succ ps i
    have hcl : cs.toList.length = c * 2 := by rw [layA_size] at hs1; simp [hs1]
    rw [hps2, flatV_append, layA_list _ _ _ (by rw [hs1]; simp; omega), List.append_assoc, List.take_append_of_le_length (by rw [List.length_take, Array.length_toList, hs1]; omega), List.take_take, Nat.min_eq_left (by omega)]
    rw [layA_list _ _ _ (by rw [← Array.length_toList, hcl, l3]; omega), Nat.zero_add, List.take_append_of_le_length (by rw [List.length_append, List.length_take, hcl, l3]; omega)]
    have e1 : cs.toList.take (i * 2) = flatV (ps.take i) := by
      rw [hex, List.append_assoc, List.take_append_of_le_length (by omega), List.take_of_length_le (by omega)]
    rw [e1, List.take_of_length_le (by rw [List.length_append, l1, l3]; omega)]
  · rw [hW.out]
    exact only_lay _ _ (only_lay _ _ (Only.refl _ _).drew)
end Go.Proofs.YtgoojcjfhghmgaaDoor
