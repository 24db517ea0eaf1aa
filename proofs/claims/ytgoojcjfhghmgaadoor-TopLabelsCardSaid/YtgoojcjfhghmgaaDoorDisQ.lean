/- known. -/
import Derived.Test.YtgoojcjfhghmgaaDoorDisP
namespace Go.Proofs.YtgoojcjfhghmgaaDoor
open Go.RowKit

theorem IntsAt.of_blk {W : World} {g : Nat} {t : TypeId} {cs : Array Value} (l : List Int) (h : Blk W g t cs) (hc : cs.toList = l.map (Value.int .i64)) : IntsAt W.heap.size W (some ⟨g, 0, none⟩) l := by
  intro k hk
  refine ⟨g, 0, rfl, h.lt, fun j hj => ?_⟩
  obtain rfl : j = 0 := by omega
  rw [Nat.mul_one, Nat.add_zero, Nat.zero_add, h.cell k, ← Array.getElem?_toList, hc]
  simp [hk]
/-- A slice that a call owns, read as one of ints. -/
theorem IntsAt.of_nat {w : World} {base e : Nat} {v : Value} {ds : List Nat} (h : w.ownsRow base e 1 v ds.length (natV ds)) : ∃ A c, v = .slice A (intL ds).length c ∧ IntsAt w.heap.size w A (intL ds) := by
  have hl : (intL ds).length = ds.length := by simp [intL]
  have hm : natV ds = (intL ds).map (Value.int .i64) := by simp [natV, intL]
  rw [hm, ← hl] at h
  exact IntsAt.of_own' h

def b0 : Bk := ⟨3, [([], [0]), ([], [1]), ([0, 1], [])], [([0, 1], 2)]⟩
def kw (w : World) : World := (((((((w.alloc (.cells #[.int .i64 0] 3)).alloc (.cells #[.int .i64 1] 3)).alloc (.cells #[.int .i64 0, .int .i64 1] 3)).alloc
  (.cells #[.slice none 0 0, .slice (some ⟨w.heap.size, 0, none⟩) 1 1, .slice none 0 0, .slice (some ⟨w.heap.size + 1, 0, none⟩) 1 1, .slice (some ⟨w.heap.size + 1 + 1, 0, none⟩) 2 2, .slice none 0 0] 84)).alloc
  (.cells #[.int .i64 0, .int .i64 1] 3)).alloc (.cells #[.slice (some ⟨w.heap.size + 1 + 1 + 1 + 1, 0, none⟩) 2 2, .int .i64 2] 42)).alloc
  (.cells #[.int .i64 3, .slice (some ⟨w.heap.size + 1 + 1 + 1, 0, none⟩) 3 3, .slice (some ⟨w.heap.size + 1 + 1 + 1 + 1 + 1, 0, none⟩) 1 1] 25))
theorem kw_below (w : World) : Below w.heap.size w (kw w) := by
  unfold kw
  have h0 := Below.refl w.heap.size w
  have h1 := balloc h0 (.cells #[.int .i64 0] 3)
  have h2 := balloc h1 (.cells #[.int .i64 1] 3)
  have h3 := balloc h2 (.cells #[.int .i64 0, .int .i64 1] 3)
  exact balloc (balloc (balloc (balloc h3 _) _) _) _
theorem kw_its (w : World) : ItsAt (kw w).heap.size (kw w) (some ⟨w.heap.size + 1 + 1 + 1, 0, none⟩) b0.its ∧ RusAt (kw w).heap.size (kw w) (some ⟨w.heap.size + 1 + 1 + 1 + 1 + 1, 0, none⟩) b0.rus := by
  have hA : Blk (kw w) w.heap.size 3 #[.int .i64 0] := ((((((Blk.new w 3 #[.int .i64 0]).alloc _).alloc _).alloc _).alloc _).alloc _).alloc _
  have hB : Blk (kw w) (w.heap.size + 1) 3 #[.int .i64 1] := (((((blk_new' (by simp only [World.size_alloc])).alloc _).alloc _).alloc _).alloc _).alloc _
  have hC : Blk (kw w) (w.heap.size + 1 + 1) 3 #[.int .i64 0, .int .i64 1] := ((((blk_new' (by simp only [World.size_alloc])).alloc _).alloc _).alloc _).alloc _
  have hD : Blk (kw w) (w.heap.size + 1 + 1 + 1) 84 #[.slice none 0 0, .slice (some ⟨w.heap.size, 0, none⟩) 1 1, .slice none 0 0, .slice (some ⟨w.heap.size + 1, 0, none⟩) 1 1, .slice (some ⟨w.heap.size + 1 + 1, 0, none⟩) 2 2, .slice none 0 0] := (((blk_new' (by simp only [World.size_alloc])).alloc _).alloc _).alloc _
  have hE : Blk (kw w) (w.heap.size + 1 + 1 + 1 + 1) 3 #[.int .i64 0, .int .i64 1] := ((blk_new' (by simp only [World.size_alloc])).alloc _).alloc _
  have hF : Blk (kw w) (w.heap.size + 1 + 1 + 1 + 1 + 1) 42 #[.slice (some ⟨w.heap.size + 1 + 1 + 1 + 1, 0, none⟩) 2 2, .int .i64 2] := (blk_new' (by simp only [World.size_alloc])).alloc _
  have iA := IntsAt.of_blk [0] hA rfl
  have iB := IntsAt.of_blk [1] hB rfl
  have iC := IntsAt.of_blk [0, 1] hC rfl
  have iE := IntsAt.of_blk [0, 1] hE rfl
  constructor
  · intro k hk
    have hk3 : k < 3 := hk
    match k, hk3 with
    | 0, _ => exact ⟨_, 0, none, 0, _, 1, rfl, hD.lt, hD.cell 0, hD.cell 1, IntsAt.nil _ _ _, iA⟩
    | 1, _ => exact ⟨_, 0, none, 0, _, 1, rfl, hD.lt, hD.cell 2, hD.cell 3, IntsAt.nil _ _ _, iB⟩
    | 2, _ => exact ⟨_, 0, _, 2, none, 0, rfl, hD.lt, hD.cell 4, hD.cell 5, iC, IntsAt.nil _ _ _⟩
  · intro k hk
    have hk1 : k < 1 := hk
    match k, hk1 with
    | 0, _ => exact ⟨_, 0, _, 2, rfl, hF.lt, hF.cell 0, hF.cell 1, iE⟩
theorem b0_short : Short b0 := by
  refine ⟨by decide, by decide, ?_, ?_⟩ <;> decide
theorem isS_nil (n : Int) : isS [] n = true := rfl
theorem b0_vl : vlR b0 = 0 := by decide +kernel
theorem b0_nm : nmR b0 2 = 0 := by
  rw [nmR, b0_vl]; decide
theorem bl7 : bl 7 = [0, 1, 2] := by
  rw [bl_filter (m := 7) (n := 3) (by decide) (by decide)]; decide
theorem b0_bs : bsS b0 2 = 3 := by
  have h : cnS b0 2 = 7 := by decide +kernel
  rw [bsS, h, bl7]
  decide +kernel
theorem b0_lbl {x : Nat} (h : Lbl b0 (2 : Int).toNat x) : x = 7 := by
  obtain ⟨⟨⟨h1, _⟩, h2⟩, h3⟩ := h
  have e : bsS b0 (2 : Int).toNat = 3 := b0_bs
  rw [e] at h1
  have hx : x < 8 := h3
  have q0 := h1 0 (by decide)
  have q1 := h1 1 (by decide)
  have q2 := h2 ([0, 1], 2) (by simp [b0])
  have q3 : x.testBit 2 = true := q2 (by show allB x (natL [0, 1]) = true; simp [allB, natL, q0, q1]) rfl
  have key : ∀ x, x < 8 → (x.testBit 0 && x.testBit 1 && x.testBit 2) = true → x = 7 := by decide
  exact key x hx (by rw [q0, q1, q3]; rfl)
theorem b0_menus : mnTo [3, 6] (2 ^ 3) = [2, 5] := by
  have h0 : bl 0 = [] := bl_zero
  have h1 : bl 1 = [0] := by rw [bl_filter (m := 1) (n := 3) (by decide) (by decide)]; decide
  have h2 : bl 2 = [1] := by rw [bl_filter (m := 2) (n := 3) (by decide) (by decide)]; decide
  have h3 : bl 3 = [0, 1] := by rw [bl_filter (m := 3) (n := 3) (by decide) (by decide)]; decide
  have h4 : bl 4 = [2] := by rw [bl_filter (m := 4) (n := 3) (by decide) (by decide)]; decide
  have h5 : bl 5 = [0, 2] := by rw [bl_filter (m := 5) (n := 3) (by decide) (by decide)]; decide
  have h6 : bl 6 = [1, 2] := by rw [bl_filter (m := 6) (n := 3) (by decide) (by decide)]; decide
  have hr : List.range (2 ^ 3) = [0, 1, 2, 3, 4, 5, 6, 7] := by decide
  unfold mnTo
  rw [hr]
  simp only [List.filter, lsM, h0, h1, h2, h3, h4, h5, h6, bl7]
  decide +kernel

set_option maxRecDepth 100000 in
set_option maxHeartbeats 2000000 in
theorem known_any (w : World) (hT : Tab w) : Calls Tryd.prog 18 #[] w fun e w' => e = .returned (.bool true) ∧ Below w.heap.size w w' := by
  obtain ⟨hI, hR⟩ := kw_its w
  have hb := kw_below w
  have cl := Lib.hid (Label_any (some ⟨w.heap.size + 1 + 1 + 1, 0, none⟩) (some ⟨w.heap.size + 1 + 1 + 1 + 1 + 1, 0, none⟩) 3 1 _ b0 2 (kw w) (Nat.le_refl _) hI hR b0_short (hT.below hb hT.2))
  have HB := Lib.hid hb
  have HT := Lib.hid hT
  clear hI hR hb hT
  have tok := Lib.hid (Nat.le_refl 0)
  go_enter Tryd.func18, Tryd.ntmps18
  go_wp2_with (first
    | (have tk := tok; clear tok; go_at_call 28; refine cl.out.mono ?_; rintro e w1 ⟨v1, rfl, hv, hd⟩; rw [LbR, b0_nm, if_pos rfl] at hv; obtain ⟨x, hx, ho⟩ := hv; obtain rfl := b0_lbl hx; rw [bl7] at ho; rw [b0_nm]; obtain ⟨A1, c1, rfl, i1⟩ := IntsAt.of_nat ho; have tok2 := tk; have hb1 := HB.out.trans (hd.mono HB.out.size))
    | (have tk2 := tok2; clear tok2; go_at_call 23; refine (Menus_any (some ⟨w1.heap.size, 0, none⟩) 2 _ [3, 6] 3 _ (Nat.le_refl _) (IntsAt.of_blk (intL [3, 6]) (Blk.new w1 3 _) rfl) (by decide) (HT.out.below (hb1.alloc hb1.size _) HT.out.2) (by decide) (by decide) (by decide)).mono ?_; rintro e w2 ⟨v2, rfl, ho2, hd2⟩; rw [b0_menus] at ho2; obtain ⟨A2, c2, rfl, i2⟩ := IntsAt.of_nat ho2; have tok3 := tk2; have d12 := (balloc (Below.refl _ w1) _).trans (hd2.mono (balloc (Below.refl _ w1) _).size); have hb2 := hb1.trans (d12.mono hb1.size))
    | (have tk3 := tok3; clear tok3; go_at_call 25; refine (sameInts_ref A1 _ c1 3 _ (intL [0, 1, 2]) (intL [0, 1, 2]) _ (i1.below (balloc d12 _) (balloc d12 _).size) (IntsAt.of_blk (intL [0, 1, 2]) (Blk.new w2 3 _) rfl) (by decide)).mono ?_; rintro e w3 ⟨rfl, hd3⟩; have tok4 := tk3; have d23 := (balloc (Below.refl _ w2) _).trans (hd3.below _); have hb3 := hb2.trans (d23.mono hb2.size))
    | (have tk4 := tok4; clear tok4; go_at_call 25; refine (sameInts_ref A2 _ c2 2 _ (intL [2, 5]) (intL [2, 5]) _ (i2.below (balloc d23 _) (balloc d23 _).size) (IntsAt.of_blk (intL [2, 5]) (Blk.new w3 3 _) rfl) (by decide)).mono ?_; rintro e w4 ⟨rfl, hd4⟩; have hb4 := hb3.trans ((balloc (Below.refl _ w3) _).trans (hd4.below _) |>.mono hb3.size)))
  go_ret
  exact ⟨rfl, hb4⟩
end Go.Proofs.YtgoojcjfhghmgaaDoor
