/- The chapter's first example: the walk. -/
import Derived.Test.YtmodbpglopfghaaVanQ
set_option linter.unusedSimpArgs false
set_option linter.unusedVariables false
namespace Go.Proofs.Ytmodbpglopfghaa
open Go.RowKit

theorem TblAt.keep {B B' : Nat} {w w' : World} {A : Option Addr} {rows : List (List Int)} (h : TblAt B w A rows) (hB : B ≤ B') (hk : ∀ p : Addr, p.block < B → w'.cell? p = w.cell? p) : TblAt B' w' A rows := by
  intro k hkn
  obtain ⟨b, off, A1, c1, e, h1, h2, h3⟩ := h k hkn
  exact ⟨b, off, A1, c1, e, by omega, (hk ⟨b, off + k, none⟩ h1).trans h2, h3.keep hB hk⟩
theorem ints_new (w : World) (l : List Int) : IntsAt (w.alloc (.cells (l.map (Value.int .i64)).toArray 3)).heap.size (w.alloc (.cells (l.map (Value.int .i64)).toArray 3)) (some ⟨w.heap.size, 0, none⟩) l := by
  intro k hk
  refine ⟨w.heap.size, 0, rfl, by simp, fun j hj => ?_⟩
  obtain rfl : j = 0 := by omega
  rw [show 0 + k * 1 + 0 = k by omega, (Blk.new w 3 _).cell]
  simp [hk]
def wK (w : World) : World := (((w.alloc (.cells #[.int .i64 0, .int .i64 3, .int .i64 4] 3)).alloc (.cells #[.int .i64 3, .int .i64 0, .int .i64 5] 3)).alloc (.cells #[.int .i64 4, .int .i64 5, .int .i64 0] 3)).alloc
  (.cells #[.slice (some ⟨w.heap.size, 0, none⟩) 3 3, .slice (some ⟨w.heap.size + 1, 0, none⟩) 3 3, .slice (some ⟨w.heap.size + 2, 0, none⟩) 3 3] 28)
theorem wK_size (w : World) : (wK w).heap.size = w.heap.size + 4 := by simp [wK]
theorem wK_below (w : World) : Below w.heap.size w (wK w) := by
  unfold wK
  exact balloc (balloc (balloc (balloc (Below.refl _ _) _) _) _) _
theorem tblK (w : World) : TblAt (wK w).heap.size (wK w) (some ⟨w.heap.size + 3, 0, none⟩) rowsK := by
  have i0 := ints_new w [0, 3, 4]
  have i1 := ints_new (w.alloc (.cells #[.int .i64 0, .int .i64 3, .int .i64 4] 3)) [3, 0, 5]
  have i2 := ints_new ((w.alloc (.cells #[.int .i64 0, .int .i64 3, .int .i64 4] 3)).alloc (.cells #[.int .i64 3, .int .i64 0, .int .i64 5] 3)) [4, 5, 0]
  have b3 : Blk (wK w) (w.heap.size + 3) 28 #[.slice (some ⟨w.heap.size, 0, none⟩) 3 3, .slice (some ⟨w.heap.size + 1, 0, none⟩) 3 3, .slice (some ⟨w.heap.size + 2, 0, none⟩) 3 3] := blk_new' (by simp)
  have hb0 : Below (w.alloc (.cells #[.int .i64 0, .int .i64 3, .int .i64 4] 3)).heap.size (w.alloc (.cells #[.int .i64 0, .int .i64 3, .int .i64 4] 3)) (wK w) := balloc (balloc (balloc (Below.refl _ _) _) _) _
  have hb1 : Below ((w.alloc (.cells #[.int .i64 0, .int .i64 3, .int .i64 4] 3)).alloc (.cells #[.int .i64 3, .int .i64 0, .int .i64 5] 3)).heap.size ((w.alloc (.cells #[.int .i64 0, .int .i64 3, .int .i64 4] 3)).alloc (.cells #[.int .i64 3, .int .i64 0, .int .i64 5] 3)) (wK w) := balloc (balloc (Below.refl _ _) _) _
  have hb2 : Below (((w.alloc (.cells #[.int .i64 0, .int .i64 3, .int .i64 4] 3)).alloc (.cells #[.int .i64 3, .int .i64 0, .int .i64 5] 3)).alloc (.cells #[.int .i64 4, .int .i64 5, .int .i64 0] 3)).heap.size (((w.alloc (.cells #[.int .i64 0, .int .i64 3, .int .i64 4] 3)).alloc (.cells #[.int .i64 3, .int .i64 0, .int .i64 5] 3)).alloc (.cells #[.int .i64 4, .int .i64 5, .int .i64 0] 3)) (wK w) := balloc (Below.refl _ _) _
  intro k hk
  have hk3 : k = 0 ∨ k = 1 ∨ k = 2 := by
    have : rowsK.length = 3 := rfl
    omega
  rcases hk3 with rfl | rfl | rfl
  · exact ⟨_, 0, _, 3, rfl, b3.lt, b3.cell 0, IntsAt.below i0 hb0 hb0.size⟩
  · refine ⟨_, 0, some ⟨w.heap.size + 1, 0, none⟩, 3, rfl, b3.lt, b3.cell 1, ?_⟩
    have := IntsAt.below i1 hb1 hb1.size
    simp only [World.size_alloc] at this
    exact this
  · refine ⟨_, 0, some ⟨w.heap.size + 2, 0, none⟩, 3, rfl, b3.lt, b3.cell 2, ?_⟩
    have := IntsAt.below i2 hb2 hb2.size
    simp only [World.size_alloc] at this
    exact this
theorem zerosK (w : World) : IntsAt (w.alloc (.cells #[.int .i64 0, .int .i64 0, .int .i64 0] 3)).heap.size (w.alloc (.cells #[.int .i64 0, .int .i64 0, .int .i64 0] 3)) (some ⟨w.heap.size, 0, none⟩) [0, 0, 0] := ints_new w [0, 0, 0]

set_option maxRecDepth 100000 in
set_option maxHeartbeats 1000000 in
theorem known_any (w : World) : Calls Try.prog 18 #[] w fun e w' => e = .returned (.bool true) ∧ Below w.heap.size w w' := by
  have hT := tblK w
  have hb := wK_below w
  have hl : ∀ r ∈ rowsK, r.length ≤ 30 := by decide
  have v0 : vwR rowsK = 0 := vw_ok vwK
  have cs : ∀ W, Below (wK w).heap.size (wK w) W → Calls Try.prog 21 #[.slice (some ⟨w.heap.size + 3, 0, none⟩) 3 3] W fun e w' => e = .returned (.tuple #[.int .i64 12, .int .i64 0]) ∧ Below W.heap.size W w' := fun W hW => by
    have := Shortest_any (some ⟨w.heap.size + 3, 0, none⟩) 3 W.heap.size rowsK W (Nat.le_refl _) (hT.below hW hW.size) hl
    rw [v0] at this
    exact this.mono fun e w' ⟨z, h1, h2, h3⟩ => ⟨by rw [h1, shortK h2], h3⟩
  have ct : ∀ W, Below (wK w).heap.size (wK w) W → Calls Try.prog 19 #[.slice (some ⟨w.heap.size + 3, 0, none⟩) 3 3] W fun e w' => e = .returned (.tuple #[.int .i64 7, .int .i64 0]) ∧ Below W.heap.size W w' := fun W hW => by
    have := Tree_any (some ⟨w.heap.size + 3, 0, none⟩) 3 W.heap.size rowsK W (Nat.le_refl _) (hT.below hW hW.size) hl
    rw [v0] at this
    exact this.mono fun e w' ⟨z, h1, h2, h3⟩ => ⟨by rw [h1, treeK h2], h3⟩
  have cb : ∀ W, Below (wK w).heap.size (wK w) W → Calls Try.prog 23 #[.slice (some ⟨w.heap.size + 3, 0, none⟩) 3 3, .slice (some ⟨W.heap.size, 0, none⟩) 3 3] (W.alloc (.cells #[.int .i64 0, .int .i64 0, .int .i64 0] 3)) fun e w' => e = .returned (.tuple #[.int .i64 12, .int .i64 0]) ∧ Below W.heap.size W w' := fun W hW => by
    have hW2 : Below W.heap.size W (W.alloc (.cells #[.int .i64 0, .int .i64 0, .int .i64 0] 3)) := balloc (Below.refl _ _) _
    have := Bound_any (some ⟨w.heap.size + 3, 0, none⟩) (some ⟨W.heap.size, 0, none⟩) 3 3 (W.alloc (.cells #[.int .i64 0, .int .i64 0, .int .i64 0] 3)).heap.size rowsK [0, 0, 0] (W.alloc (.cells #[.int .i64 0, .int .i64 0, .int .i64 0] 3)) (Nat.le_refl _) (hT.below (hW.trans (hW2.mono hW.size)) (Nat.le_trans hW.size hW2.size)) (zerosK W) hl (by decide)
    rw [wg_ok wgK] at this
    exact this.mono fun e w' ⟨z, h1, h2, h3⟩ => ⟨by rw [h1, boundK h2], hW2.trans (h3.mono hW2.size)⟩
  have CS := Lib.hid cs
  have CT := Lib.hid ct
  have CB := Lib.hid cb
  have HB := Lib.hid hb
  have HK := Lib.hid (show wK w = (((w.alloc (.cells #[.int .i64 0, .int .i64 3, .int .i64 4] 3)).alloc (.cells #[.int .i64 3, .int .i64 0, .int .i64 5] 3)).alloc (.cells #[.int .i64 4, .int .i64 5, .int .i64 0] 3)).alloc
  (.cells #[.slice (some ⟨w.heap.size, 0, none⟩) 3 3, .slice (some ⟨w.heap.size + 1, 0, none⟩) 3 3, .slice (some ⟨w.heap.size + 2, 0, none⟩) 3 3] 28) from rfl)
  clear hT hb hl v0 cs ct cb
  generalize wK w = W0 at *
  go_enter Try.func18, Try.ntmps18
  go_wp2_with (first
    | (go_at_call 21; rw [← HK.out]; refine (CS.out _ (Below.refl _ _)).mono ?_; rintro e w1 ⟨rfl, hb1⟩)
    | (go_at_call 19; refine (CT.out _ hb1).mono ?_; rintro e w2 ⟨rfl, hb2⟩; have hb02 := hb1.trans (hb2.mono hb1.size))
    | (go_at_call 23; refine (CB.out _ hb02).mono ?_; rintro e w3 ⟨rfl, hb3⟩))
  go_ret
  exact ⟨rfl, HB.out.trans ((hb02.trans (hb3.mono hb02.size)).mono HB.out.size)⟩
end Go.Proofs.Ytmodbpglopfghaa
