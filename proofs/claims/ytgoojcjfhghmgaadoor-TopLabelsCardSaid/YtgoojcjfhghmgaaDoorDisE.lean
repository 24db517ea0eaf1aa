/- The program's Menus. -/
import Derived.Test.YtgoojcjfhghmgaaDoorDisD
namespace Go.Proofs.YtgoojcjfhghmgaaDoor
open Go.RowKit

/-- A smallest set of dishes. -/
def lsM (l : List Nat) (m : Nat) : Bool := fdR l m && (bl m).all fun i => !fdR l (m - 2 ^ i)
def mnTo (l : List Nat) (k : Nat) : List Nat := (List.range k).filter (lsM l)
theorem mnTo_succ (l : List Nat) (k : Nat) : mnTo l (k + 1) = mnTo l k ++ if lsM l k then [k] else [] := by
  simp only [mnTo, List.range_succ, List.filter_append, List.filter_cons, List.filter_nil]
theorem mnTo_length (l : List Nat) (k : Nat) : (mnTo l k).length ≤ k := by
  have := List.length_filter_le (lsM l) (List.range k)
  simpa [mnTo] using this
theorem andNot_bit {m i : Nat} (hm : m < 256) (hi : i < 8) (hb : m.testBit i = true) : bits BinOp.andNot IntKind.i64 (m : Int) (wrap64 ((2 : Int) ^ i)) = ((m - 2 ^ i : Nat) : Int) := by
  have : ∀ i : Nat, i < 8 → ∀ m : Nat, m < 256 → m.testBit i = true → bits BinOp.andNot IntKind.i64 (m : Int) (wrap64 ((2 : Int) ^ i)) = ((m - 2 ^ i : Nat) : Int) := by decide +kernel
  exact this i hi m hm hb
theorem own_cell {w : World} {base e n c : Nat} {A : Option Addr} {xs : List Value} (h : w.ownsRow base e 1 (.slice A n c) n xs) {k : Nat} (hk : k < n) {u : Value} (hu : xs[k]? = some u) :
    ∃ g, A = some ⟨g, 0, none⟩ ∧ g < w.heap.size ∧ base ≤ g ∧ w.cell? ⟨g, k, none⟩ = some u := by
  rcases h.2 with ⟨e1, e2⟩ | ⟨g, cap, cur, e1, hb, _⟩
  · omega
  · injection e1 with e1 e3 e4
    subst e1 e4
    have := h.cells (g := g) rfl k u hu
    rw [Addr.add_lit, Nat.zero_add] at this
    exact ⟨g, rfl, (h.lt g rfl).2, hb, this⟩
theorem natV_get {ds : List Nat} {j : Nat} (hj : j < ds.length) : (natV ds)[j]? = some (.int .i64 ((ds[j] : Nat) : Int)) := by simp [natV, hj]

set_option maxRecDepth 100000 in
set_option maxHeartbeats 2000000 in
theorem Menus_any (A : Option Addr) (c B : Nat) (l : List Nat) (d : Nat) (w : World) (hB : B ≤ w.heap.size) (h : IntsAt B w A (intL l)) (hm : l.length ≤ 60) (hT : Tab w) (hv : vtR (intL l) d = 0) (hl : ∀ x ∈ l, x < 1152921504606846976) (hd : d ≤ 8) :
    Calls Tryd.prog 23 #[.slice A l.length c, .int .i64 d] w fun e w' => ∃ v, e = .returned (.tuple #[v, .int .i64 0]) ∧ w'.ownsRow w.heap.size 3 1 v (mnTo l (2 ^ d)).length (natV (mnTo l (2 ^ d))) ∧ Below w.heap.size w w' := by
  have hll : (intL l).length = l.length := by simp [intL]
  have hI := h.below (Below.refl _ _) hB
  have cv0 := vt_any A c B (intL l) d w hB h (by omega)
  rw [hll, hv] at cv0
  have cv := Lib.hid cv0
  have cf := Lib.hid (fun (m : Nat) W (hW : Below w.heap.size w W) (hmm : m < 1152921504606846976) => feeds_any A c w.heap.size l m W hW.size (hI.below hW (Nat.le_refl _)) (by omega) hl hmm)
  have ct := Lib.hid (fun (m : Nat) (hmm : m < 256) W (hW : Below w.heap.size w W) => list_any m (by omega) W (hT.below hW hT.2) (by have := bl_length (n := 8) (m := m) (by simpa using hmm) (by decide); omega))
  have hp : wrap64 ((2 : Int) ^ d) = ((2 ^ d : Nat) : Int) := by rw [pow_wrap (show d < 63 by omega)]; simp
  have hN : 2 ^ d ≤ 256 := Nat.le_trans (Nat.pow_le_pow_right (by decide) hd) (by decide)
  obtain ⟨j0, hj, hy0, hy1, hy2⟩ := info_parts info3
  clear h hI cv0 hll hv hl hT
  generalize 2 ^ d = N at hp hN ⊢
  go_enter Tryd.func23, Tryd.ntmps23
  go_wp2_with (go_at_call 39; refine cv.out.mono ?_; rintro e w1 ⟨rfl, hb1⟩)
  try rw [hp]
  clear hp
  go_loopw [7, 20] (fun out i wr => ∃ k : Nat, k ≤ N ∧ i = .int .i64 k ∧ wr.ownsRow w.heap.size 3 1 out (mnTo l k).length (natV (mnTo l k)) ∧ Below w.heap.size w wr) (fun _ i _ => N - (intOf i).toNat)
  case atStart => exact ⟨0, Nat.zero_le _, rfl, World.ownsRow_nil _ _ _ _, hb1⟩
  case round =>
    obtain ⟨k, hk, rfl, hown, hb⟩ := hrel
    by_cases hlt : k < N
    · have HO := Lib.hid hown
      have hlen := mnTo_length l k
      have Hs := Lib.hid (mnTo_succ l k)
      have cf1 := Lib.hid (cf.out k wr hb (by omega))
      clear hown
      cases hf : fdR l k with
      | false =>
        rw [hf] at cf1
        have Hf := Lib.hid (show mnTo l (k + 1) = mnTo l k by rw [Hs.out, lsM, hf]; simp)
        clear hf
        go_wp2_with (go_at_call 64; refine cf1.out.mono ?_; rintro e w2 ⟨rfl, hb2⟩)
        go_roundw
        case rel => exact ⟨k + 1, by omega, by go_num, by rw [Hf.out]; exact own_below HO.out hb2, hb.trans (hb2.mono hb.size)⟩
        case measure => simp [intOf]; omega
      | true =>
        rw [hf] at cf1
        have Hls := Lib.hid (show lsM l k = (bl k).all fun i => !fdR l (k - 2 ^ i) by rw [lsM, hf]; simp)
        have hk256 : k < 256 := by omega
        clear hf
        go_wp2_with (first
          | (go_at_call 64; refine cf1.out.mono ?_; rintro e w2 ⟨rfl, hd2⟩; have hb2 := hb.trans (hd2.mono hb.size); have HO2 := Lib.hid (own_below HO.out hd2))
          | (go_at_call 65; refine (ct.out k hk256 _ hb2).mono ?_; rintro e w3 ⟨v3, rfl, hown3, hd3⟩; have hb3 := hb2.trans (hd3.mono hb2.size); have HO3 := Lib.hid (own_below HO2.out hd3); obtain ⟨A5, c5, rfl⟩ := own_form hown3))
        have hbll : (bl k).length ≤ 8 := bl_length (n := 8) (by simpa using hk256) (by decide)
        have hblm : ∀ i ∈ bl k, i < 8 ∧ k.testBit i = true := fun i hi => ⟨bl_lt (n := 8) (by simpa using hk256) (by decide) hi, (mem_bl k (by omega) i).1 hi⟩
        have Hbl := Lib.hid hblm
        generalize bl k = L at hown3 Hls hbll Hbl
        have HL := Lib.hid hown3
        clear hblm hown3
        go_loopw [9, 30] (fun x i wr => ∃ j : Nat, j ≤ L.length ∧ i = .int .i64 j ∧ x = .bool ((L.take j).all fun i => !fdR l (k - 2 ^ i)) ∧ Below w3.heap.size w3 wr) (fun _ i _ => L.length - (intOf i).toNat)
        case atStart => exact ⟨0, Nat.zero_le _, rfl, rfl, Below.refl _ _⟩
        case round =>
          obtain ⟨j, hj2, rfl, rfl, hb4⟩ := hrel
          by_cases hlt2 : j < L.length
          · obtain ⟨g5, rfl, hg5, _, hcell⟩ := own_cell HL.out hlt2 (natV_get hlt2)
            have q0 := (hb4.cell (p := ⟨g5, j, none⟩) hg5).trans hcell
            have hsn := Lib.hid (show (L.take (j + 1)).all (fun i => !fdR l (k - 2 ^ i)) = ((L.take j).all (fun i => !fdR l (k - 2 ^ i)) && !fdR l (k - 2 ^ L[j])) by rw [List.take_succ_eq_append_getElem hlt2, List.all_append]; simp)
            obtain ⟨hz1, hz2⟩ := Hbl.out L[j] (List.getElem_mem hlt2)
            have hb5 := hb3.trans (hb4.mono hb3.size)
            have cf2 := Lib.hid (cf.out (k - 2 ^ L[j]) wr hb5 (Nat.lt_of_le_of_lt (Nat.sub_le _ _) (by omega)))
            have ha := andNot_bit hk256 hz1 hz2
            generalize (L.take j).all (fun i => !fdR l (k - 2 ^ i)) = x at hsn ⊢
            generalize fdR l (k - 2 ^ L[j]) = y at hsn cf2
            generalize L[j] = z at q0 ha hz1 cf2
            clear hcell hz2
            cases x
            · go_wp2_with fail
              go_roundw
              case rel => exact ⟨j + 1, by omega, by go_num, by rw [hsn.out]; rfl, hb4⟩
              case measure => simp [intOf]; omega
            · go_wp2_with (go_at_call 64; refine cf2.out.mono ?_; rintro e w6 ⟨rfl, hd6⟩)
              go_roundw
              case rel => exact ⟨j + 1, by omega, by go_num, by rw [hsn.out]; rfl, hb4.trans (hd6.mono hb4.size)⟩
              case measure => simp [intOf]; omega
          · obtain rfl : j = L.length := by omega
            rw [List.take_length, ← Hls.out]
            have HO4 := Lib.hid (own_below HO3.out hb4)
            have hb5 := hb3.trans (hb4.mono hb3.size)
            cases hls : lsM l k with
            | false =>
              have Hf := Lib.hid (show mnTo l (k + 1) = mnTo l k by rw [Hs.out, hls]; simp)
              clear hls
              go_wp2_with fail
              go_roundw
              case rel => exact ⟨k + 1, by omega, by go_num, by rw [Hf.out]; exact HO4.out, hb5⟩
              case measure => simp [intOf]; omega
            | true =>
              have Hf := Lib.hid (show mnTo l (k + 1) = mnTo l k ++ [k] by rw [Hs.out, hls]; simp)
              clear hls
              go_wp2_with (at_builtin; refine wpList_append_own _ rfl _ _ 32 rfl w.heap.size 3 j0 _ 1 8 Tryd.underlying32 hj hy0 hy1 hy2 rfl (by decide) _ _ _ rfl (HO4.out.alloc _) ⟨wr.heap.size, 0, none⟩ 1 1 _ rfl rfl (cell_one_new _ _ _) (by simp [Value.oneCell']) (by simp only [maxLen]; omega) (by omega) (hb5.alloc hb5.size _).size ?_; intro v' w7 hown7 hg7 _)
              have b7 : Below w.heap.size w w7 := (hb5.alloc hb5.size _).grown hg7 (hb5.alloc hb5.size _).size (fun x hx => (HO4.out.lt x hx).1)
              go_roundw
              case rel => exact ⟨k + 1, by omega, by go_num, by rw [Hf.out, List.length_append, natV, List.map_append]; exact hown7, b7⟩
              case measure => simp [intOf]; omega
    · obtain rfl : k = N := by omega
      go_wp2_with fail
      go_ret2
      exact ⟨_, rfl, hown, hb⟩
end Go.Proofs.YtgoojcjfhghmgaaDoor
