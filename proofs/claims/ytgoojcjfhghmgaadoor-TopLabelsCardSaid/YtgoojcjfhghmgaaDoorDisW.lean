/- Pairs. -/
import Derived.Test.YtgoojcjfhghmgaaDoorDisV
namespace Go.Proofs.YtgoojcjfhghmgaaDoor
open Go.RowKit

def whole (l : List Nat) (d c : Nat) : Bool := eaS l d (comS l d c) == c
def prTo (l : List Nat) (d k : Nat) : List (Int × Int) := ((List.range k).filter (whole l d)).map fun c : Nat => ((c : Int), (comS l d c : Int))
theorem prTo_succ (l : List Nat) (d k : Nat) : prTo l d (k + 1) = prTo l d k ++ if whole l d k then [((k : Int), (comS l d k : Int))] else [] := by
  simp only [prTo, List.range_succ, List.filter_append, List.filter_cons, List.filter_nil, List.map_append]
  cases whole l d k <;> simp
theorem prTo_length (l : List Nat) (d k : Nat) : (prTo l d k).length ≤ k := by
  have := List.length_filter_le (whole l d) (List.range k)
  simpa [prTo] using this
def prL (l : List Int) (d : Int) : List (Int × Int) := if vtR l d = 0 then prTo (natL l) d.toNat (2 ^ l.length) else []
theorem info62 : (Tryd.prog.info? 62).map (fun i => (i.zero, i.size, i.bytes)) = some (some (.agg #[.int .i64 0, .int .i64 0]), 2, 16) := by kernel_rfl

set_option maxRecDepth 100000 in
set_option maxHeartbeats 2000000 in
theorem Pairs_any (A : Option Addr) (c B : Nat) (l : List Int) (d : Int) (w : World) (hB : B ≤ w.heap.size) (h : IntsAt B w A l) (hm : l.length ≤ 60) (hT : Tab w) :
    Calls Tryd.prog 44 #[.slice A l.length c, .int .i64 d] w fun e w' => ∃ A' c', e = .returned (.tuple #[.slice A' (prL l d).length c', .int .i64 (vtR l d)]) ∧ PairsAt w'.heap.size w' A' (prL l d) ∧ Below w.heap.size w w' := by
  have cv := Lib.hid (vt_any A c B l d w hB h (by omega))
  by_cases h0 : vtR l d = 0
  · obtain ⟨h1, h2, h3, h4, h5⟩ := vt_zero h0
    have e1 : prL l d = prTo (natL l) d.toNat (2 ^ l.length) := if_pos h0
    rw [h0] at cv ⊢
    rw [e1]
    have hI := fun W (hW : Below w.heap.size w W) => (h.below (Below.refl _ _) hB).below hW (Nat.le_refl w.heap.size)
    have ce := Lib.hid (fun (k : Nat) (hk : k < 2 ^ l.length) W (hW : Below w.heap.size w W) => eaten_any A c w.heap.size (natL l) d.toNat k W hW.size (by rw [h4]; exact hI W hW) (by rw [natL_length]; omega) (fun x hx => lt256 (h5 x hx) (by omega)) (by omega) (by rw [natL_length]; exact hk) (hT.below hW hT.2))
    have cf := Lib.hid (fun (m : Nat) (hm : m < 2 ^ d.toNat) W (hW : Below w.heap.size w W) => eaters_any A c w.heap.size (natL l) d.toNat m W (by rw [h4]; exact hI W hW) (by rw [natL_length]; omega) (fun x hx => lt256 (h5 x hx) (by omega)) (by omega) hm)
    rw [natL_length, Int.toNat_of_nonneg h1] at ce
    rw [natL_length] at cf
    have Hc := Lib.hid (fun k => show comS (natL l) d.toNat k < 2 ^ d.toNat from sumTo_lt _ _)
    have hN : 2 ^ l.length ≤ 256 := Nat.le_trans (Nat.pow_le_pow_right (by decide) h3) (by decide)
    have hp : wrap64 ((2 : Int) ^ l.length) = ((2 ^ l.length : Nat) : Int) := by rw [pow_wrap (show l.length < 63 by omega)]; simp
    have Hw := Lib.hid (fun k => show whole (natL l) d.toNat k = (eaS (natL l) d.toNat (comS (natL l) d.toNat k) == k) from rfl)
    have HsA := Lib.hid (fun k => prTo_succ (natL l) d.toNat k)
    have Hl := Lib.hid (fun k => prTo_length (natL l) d.toNat k)
    obtain ⟨j0, hj, hy0, hy1, hy2⟩ := info_parts info62
    have H0 := Lib.hid (show prTo (natL l) d.toNat 0 = [] from rfl)
    clear h hT h0 h4 h5 hI e1
    generalize prTo (natL l) d.toNat = P at HsA Hl H0 ⊢
    generalize whole (natL l) d.toNat = wh at HsA Hw
    generalize comS (natL l) d.toNat = cm at *
    generalize eaS (natL l) d.toNat = ea at *
    generalize 2 ^ l.length = N at *
    generalize 2 ^ d.toNat = M at *
    go_enter Tryd.func44, Tryd.ntmps44
    go_wp2_with (go_at_call 39; refine cv.out.mono ?_; rintro e w1 ⟨rfl, hb1⟩)
    try rw [hp]
    clear hp
    go_loopw [7, 19] (fun out i wr => ∃ k : Nat, k ≤ N ∧ i = .int .i64 k ∧ wr.ownsRow w.heap.size 62 2 out (P k).length (flat2 (P k)) ∧ Below w.heap.size w wr) (fun _ i _ => N - (intOf i).toNat)
    case atStart => exact ⟨0, Nat.zero_le _, rfl, by rw [H0.out]; exact World.ownsRow_nil _ _ _ _, hb1⟩
    case round =>
      obtain ⟨k, hk, rfl, hown, hb⟩ := hrel
      by_cases hlt : k < N
      · have HO := Lib.hid hown
        have hlen := Hl.out k
        have Hs := Lib.hid (HsA.out k)
        have ce1 := Lib.hid (ce.out k hlt wr hb)
        have cf1 := Lib.hid (fun W (hW : Below w.heap.size w W) => cf.out (cm k) (Hc.out k) W hW)
        have Hwk := Lib.hid (Hw.out k)
        clear hown
        generalize cm k = m at *
        generalize ea m = z at *
        have hzk : (((z : Nat) : Int) == (k : Int)) = (z == k) := by
          rw [Bool.eq_iff_iff, beq_iff_eq, beq_iff_eq]; omega
        cases hz : (z == k) with
        | false =>
          rw [hz] at hzk
          have Hf := Lib.hid (show P (k + 1) = P k by rw [Hs.out, Hwk.out, hz]; simp)
          clear hz
          go_wp2_with (first
            | (go_at_call 79; refine ce1.out.mono ?_; rintro e w2 ⟨rfl, hd2⟩; have hb2 := hb.trans (hd2.mono hb.size); have HO2 := Lib.hid (own_below HO.out hd2))
            | (go_at_call 81; refine (cf1.out _ hb2).mono ?_; rintro e w3 ⟨rfl, rfl⟩))
          go_roundw
          case rel => exact ⟨k + 1, by omega, by go_num, by rw [Hf.out]; exact HO2.out, hb2⟩
          case measure => simp [intOf]; omega
        | true =>
          rw [hz] at hzk
          have Hf := Lib.hid (show P (k + 1) = P k ++ [((k : Int), (m : Int))] by rw [Hs.out, Hwk.out, hz]; simp)
          clear hz
          go_wp2_with (first
            | (go_at_call 79; refine ce1.out.mono ?_; rintro e w2 ⟨rfl, hd2⟩; have hb2 := hb.trans (hd2.mono hb.size); have HO2 := Lib.hid (own_below HO.out hd2))
            | (go_at_call 81; refine (cf1.out _ hb2).mono ?_; rintro e w3 ⟨rfl, rfl⟩)
            | (at_builtin; refine wpList_append_own _ rfl _ _ 59 rfl w.heap.size 62 j0 _ 2 16 Tryd.underlying59 hj hy0 hy1 hy2 rfl (by decide) _ _ _ rfl (HO2.out.alloc _) ⟨w2.heap.size, 0, none⟩ 1 1 _ rfl rfl (cells_new w2 [.int .i64 k, .int .i64 m] 62) (by simp [Value.oneCell']) (by simp only [maxLen]; omega) (by omega) (hb2.alloc hb2.size _).size ?_; intro v' w7 hown7 hg7 _))
          have b7 : Below w.heap.size w w7 := (hb2.alloc hb2.size _).grown hg7 (hb2.alloc hb2.size _).size (fun x hx => (HO2.out.lt x hx).1)
          go_roundw
          case rel => exact ⟨k + 1, by omega, by go_num, by rw [Hf.out, List.length_append, flat2_append]; exact hown7, b7⟩
          case measure => simp [intOf]; omega
      · obtain rfl : k = N := by omega
        obtain ⟨A5, c5, rfl⟩ := own_form hown
        go_wp2_with fail
        go_ret2
        exact ⟨A5, c5, rfl, PairsAt.of_own hown, hb⟩
  · have e1 : prL l d = [] := if_neg h0
    rw [e1]
    have he2 : (vtR l d != 0) = true := by simpa using h0
    clear h hT
    generalize vtR l d = e0 at *
    go_enter Tryd.func44, Tryd.ntmps44
    go_wp2_with (go_at_call 39; refine cv.out.mono ?_; rintro e w1 ⟨rfl, hd⟩)
    go_ret2
    exact ⟨_, _, rfl, ElsAt.nil _ _ _ _ _, hd⟩
set_option maxRecDepth 100000 in
set_option maxHeartbeats 2000000 in
theorem Pairs_ref (A : Option Addr) (c B : Nat) (l : List Int) (d : Int) (w : World) (hB : B ≤ w.heap.size) (h : IntsAt B w A l) (hm : l.length ≤ 60) :
    Calls Tryd.prog 45 #[.slice A l.length c, .int .i64 d] w fun e w' => ∃ A' c', e = .returned (.tuple #[.slice A' (prL l d).length c', .int .i64 (vtR l d)]) ∧ PairsAt w'.heap.size w' A' (prL l d) ∧ Below w.heap.size w w' := by
  have cv := Lib.hid (vt_ref A c B l d w h (by omega))
  by_cases h0 : vtR l d = 0
  · obtain ⟨h1, h2, h3, h4, h5⟩ := vt_zero h0
    have e1 : prL l d = prTo (natL l) d.toNat (2 ^ l.length) := if_pos h0
    rw [h0] at cv ⊢
    rw [e1]
    have hI := fun W (hW : Below w.heap.size w W) => (h.below (Below.refl _ _) hB).below hW (Nat.le_refl w.heap.size)
    have ce := Lib.hid (fun (k : Nat) (hk : k < 2 ^ l.length) W (hW : Below w.heap.size w W) => common_ref A c w.heap.size (natL l) d.toNat k W (by rw [h4]; exact hI W hW) (by rw [natL_length]; omega) (fun x hx => lt256 (h5 x hx) (by omega)) (by omega) (by rw [natL_length]; exact hk))
    have cf := Lib.hid (fun (m : Nat) (hm : m < 2 ^ d.toNat) W (hW : Below w.heap.size w W) => eaters_ref A c w.heap.size (natL l) d.toNat m W (by rw [h4]; exact hI W hW) (by rw [natL_length]; omega) (fun x hx => lt256 (h5 x hx) (by omega)) (by omega) hm)
    rw [natL_length, Int.toNat_of_nonneg h1] at ce
    rw [natL_length, Int.toNat_of_nonneg h1] at cf
    have Hc := Lib.hid (fun k => show comS (natL l) d.toNat k < 2 ^ d.toNat from sumTo_lt _ _)
    have hN : 2 ^ l.length ≤ 256 := Nat.le_trans (Nat.pow_le_pow_right (by decide) h3) (by decide)
    have hp : wrap64 ((2 : Int) ^ l.length) = ((2 ^ l.length : Nat) : Int) := by rw [pow_wrap (show l.length < 63 by omega)]; simp
    have Hw := Lib.hid (fun k => show whole (natL l) d.toNat k = (eaS (natL l) d.toNat (comS (natL l) d.toNat k) == k) from rfl)
    have HsA := Lib.hid (fun k => prTo_succ (natL l) d.toNat k)
    have Hl := Lib.hid (fun k => prTo_length (natL l) d.toNat k)
    obtain ⟨j0, hj, hy0, hy1, hy2⟩ := info_parts info62
    have H0 := Lib.hid (show prTo (natL l) d.toNat 0 = [] from rfl)
    clear h h0 h4 h5 hI e1
    generalize prTo (natL l) d.toNat = P at HsA Hl H0 ⊢
    generalize whole (natL l) d.toNat = wh at HsA Hw
    generalize comS (natL l) d.toNat = cm at *
    generalize eaS (natL l) d.toNat = ea at *
    generalize 2 ^ l.length = N at *
    generalize 2 ^ d.toNat = M at *
    go_enter Tryd.func45, Tryd.ntmps45
    go_wp2_with (go_at_call 40; refine cv.out.mono ?_; rintro e w1 ⟨rfl, hb1⟩)
    go_loopw [7, 8] (fun out i wr => ∃ k : Nat, k ≤ N ∧ i = .int .i64 k ∧ wr.ownsRow w.heap.size 62 2 out (P k).length (flat2 (P k)) ∧ Below w.heap.size w wr) (fun _ i _ => N - (intOf i).toNat)
    case atStart => exact ⟨0, Nat.zero_le _, rfl, by rw [H0.out]; exact World.ownsRow_nil _ _ _ _, hb1⟩
    case round =>
      obtain ⟨k, hk, rfl, hown, hb⟩ := hrel
      by_cases hlt : k < N
      · have HO := Lib.hid hown
        have hlen := Hl.out k
        have Hs := Lib.hid (HsA.out k)
        have ce1 := Lib.hid (ce.out k hlt wr hb)
        have cf1 := Lib.hid (fun W (hW : Below w.heap.size w W) => cf.out (cm k) (Hc.out k) W hW)
        have Hwk := Lib.hid (Hw.out k)
        clear hown
        generalize cm k = m at *
        generalize ea m = z at *
        have hzk : (((z : Nat) : Int) == (k : Int)) = (z == k) := by
          rw [Bool.eq_iff_iff, beq_iff_eq, beq_iff_eq]; omega
        cases hz : (z == k) with
        | false =>
          rw [hz] at hzk
          have Hf := Lib.hid (show P (k + 1) = P k by rw [Hs.out, Hwk.out, hz]; simp)
          clear hz
          go_wp2_with (first
            | (go_at_call 80; refine ce1.out.mono ?_; rintro e w2 ⟨rfl, rfl⟩)
            | (go_at_call 82; refine (cf1.out _ hb).mono ?_; rintro e w3 ⟨rfl, rfl⟩))
          go_roundw
          case rel => exact ⟨k + 1, by omega, by go_num, by rw [Hf.out]; exact HO.out, hb⟩
          case measure => simp [intOf]; omega
        | true =>
          rw [hz] at hzk
          have Hf := Lib.hid (show P (k + 1) = P k ++ [((k : Int), (m : Int))] by rw [Hs.out, Hwk.out, hz]; simp)
          clear hz
          go_wp2_with (first
            | (go_at_call 80; refine ce1.out.mono ?_; rintro e w2 ⟨rfl, rfl⟩)
            | (go_at_call 82; refine (cf1.out _ hb).mono ?_; rintro e w3 ⟨rfl, rfl⟩)
            | (at_builtin; refine wpList_append_own _ rfl _ _ 59 rfl w.heap.size 62 j0 _ 2 16 Tryd.underlying59 hj hy0 hy1 hy2 rfl (by decide) _ _ _ rfl (HO.out.alloc _) ⟨wr.heap.size, 0, none⟩ 1 1 _ rfl rfl (cells_new wr [.int .i64 k, .int .i64 m] 62) (by simp [Value.oneCell']) (by simp only [maxLen]; omega) (by omega) (hb.alloc hb.size _).size ?_; intro v' w7 hown7 hg7 _))
          have b7 : Below w.heap.size w w7 := (hb.alloc hb.size _).grown hg7 (hb.alloc hb.size _).size (fun x hx => (HO.out.lt x hx).1)
          go_roundw
          case rel => exact ⟨k + 1, by omega, by go_num, by rw [Hf.out, List.length_append, flat2_append]; exact hown7, b7⟩
          case measure => simp [intOf]; omega
      · obtain rfl : k = N := by omega
        obtain ⟨A5, c5, rfl⟩ := own_form hown
        go_wp2_with fail
        go_ret2
        exact ⟨A5, c5, rfl, PairsAt.of_own hown, hb⟩
  · have e1 : prL l d = [] := if_neg h0
    rw [e1]
    have he2 : (vtR l d != 0) = true := by simpa using h0
    clear h
    generalize vtR l d = e0 at *
    go_enter Tryd.func45, Tryd.ntmps45
    go_wp2_with (go_at_call 40; refine cv.out.mono ?_; rintro e w1 ⟨rfl, hd⟩)
    go_ret2
    exact ⟨_, _, rfl, ElsAt.nil _ _ _ _ _, hd⟩
end Go.Proofs.YtgoojcjfhghmgaaDoor
