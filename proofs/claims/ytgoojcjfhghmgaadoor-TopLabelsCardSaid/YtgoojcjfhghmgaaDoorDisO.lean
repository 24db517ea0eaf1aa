/- Label. -/
import Derived.Test.YtgoojcjfhghmgaaDoorDisN
namespace Go.Proofs.YtgoojcjfhghmgaaDoor
open Go.RowKit

theorem nm_zero {b : Bk} {item : Int} (h : nmR b item = 0) : vlR b = 0 ∧ 0 ≤ item ∧ item < b.its.length := by
  unfold nmR at h
  split at h
  · rename_i h0
    split at h
    · omega
    · rename_i h1; exact ⟨h0, by omega, by omega⟩
  · contradiction
theorem bl_short {x p : Nat} (hx : x < 2 ^ p) (hp : p ≤ 10) : (bl x).length ≤ 10 := Nat.le_trans (bl_length hx (by omega)) hp
/-- What Label returns. -/
def LbR (b : Bk) (item : Int) (base : Nat) (v : Value) (w : World) : Prop :=
  if nmR b item = 0 then ∃ x : Nat, Lbl b item.toNat x ∧ w.ownsRow base 3 1 v (bl x).length (natV (bl x)) else v = .slice none 0 0

set_option maxRecDepth 100000 in
set_option maxHeartbeats 2000000 in
theorem Label_any (AI AR : Option Addr) (cI cR B : Nat) (b : Bk) (item : Int) (w : World) (hB : B ≤ w.heap.size) (h : ItsAt B w AI b.its) (h' : RusAt B w AR b.rus) (hs : Short b) (hT : Tab w) :
    Calls Tryd.prog 28 #[.agg #[.int .i64 b.p, .slice AI b.its.length cI, .slice AR b.rus.length cR], .int .i64 item] w fun e w' => ∃ v, e = .returned (.tuple #[v, .int .i64 (nmR b item)]) ∧ LbR b item w.heap.size v w' ∧ Below w.heap.size w w' := by
  have hb0 := Blk.new w 25 #[.int .i64 b.p, .slice AI b.its.length cI, .slice AR b.rus.length cR]
  have hw0 : Below w.heap.size w (w.alloc (.cells #[.int .i64 b.p, .slice AI b.its.length cI, .slice AR b.rus.length cR] 25)) := (Below.refl _ _).alloc (Nat.le_refl _) _
  obtain ⟨W0, hW0⟩ : ∃ W0, W0 = w.alloc (.cells #[.int .i64 b.p, .slice AI b.its.length cI, .slice AR b.rus.length cR] 25) := ⟨_, rfl⟩
  rw [← hW0] at hb0 hw0
  have hlt : w.heap.size < W0.heap.size := hb0.lt
  have hI := (h.below (Below.refl _ _) hB).below hw0 (Nat.le_of_lt hlt)
  have hR := (h'.below (Below.refl _ _) hB).below hw0 (Nat.le_of_lt hlt)
  have hT0 := hT.below hw0 hT.2
  have cn := Lib.hid (named_any AI AR cI cR _ b item W0 (Nat.le_refl _) hI hR hs)
  have Hsh := Lib.hid (fun e0 (he : e0 = nmR b item) => show ∀ v W, LbR b item w.heap.size v W ↔ (if e0 = 0 then ∃ x : Nat, Lbl b item.toNat x ∧ W.ownsRow w.heap.size 3 1 v (bl x).length (natV (bl x)) else v = .slice none 0 0) from fun v W => by rw [he]; rfl)
  have HB := Lib.hid hb0
  have Hw := Lib.hid hw0
  by_cases h0 : nmR b item = 0
  · obtain ⟨hv0, hi0, hi1⟩ := nm_zero h0
    have hv := vl_zero hv0
    have hp := hv.p1
    have cl := Lib.hid (fun W (hW : Below W0.heap.size W0 W) => label_any AI AR cI cR W0.heap.size b item.toNat W hW.size (hI.below hW (Nat.le_refl _)) (hR.below hW (Nat.le_refl _)) hs hv (by omega) (hT0.below hW hT0.2))
    rw [Int.toNat_of_nonneg hi0] at cl
    have HT := Lib.hid hT0
    have Hp := Lib.hid (show ∀ x, Lbl b item.toNat x → x < 1152921504606846976 ∧ (bl x).length ≤ 1000 from fun x hx => ⟨Nat.lt_of_lt_of_le hx.2 (Nat.le_trans (Nat.pow_le_pow_right (by decide) (show b.p.toNat ≤ 10 by omega)) (by decide)), Nat.le_trans (bl_short hx.2 (by omega)) (by decide)⟩)
    have Hs0 := Lib.hid ((Hsh.out 0 h0.symm))
    rw [h0] at cn
    have Hz := Lib.hid h0
    clear h h' hs hI hR hb0 hw0 hT hT0 hv hv0 hp Hsh h0 hi0 hi1 hB
    go_enter Tryd.func28, Tryd.ntmps28
    have tok := Lib.hid (Nat.le_refl 0)
    go_wp2_with (first
      | (have tk := tok; clear tok; go_at_call 67; rw [← hW0]; clear hW0; refine cn.out.mono ?_; rintro e w1 ⟨rfl, hd⟩; have tok2 := tk; have hx1 := HB.out.below hd hlt; have z0 := hx1.cell 0; have z1 := hx1.cell 1; have z2 := hx1.cell 2)
      | (have tk2 := tok2; clear tok2; go_at_call 72; refine (cl.out _ hd).mono ?_; rintro e w2 ⟨x, rfl, hx, hd2⟩; have tok3 := tk2; have hd02 := hd.trans (hd2.mono hd.size); obtain ⟨hx60, hx10⟩ := Hp.out x hx)
      | (have tk3 := tok3; clear tok3; go_at_call 65; refine (list_any x hx60 _ (HT.out.below hd02 HT.out.2) hx10).mono ?_; rintro e w3 ⟨v, rfl, ho, hd3⟩))
    go_ret2
    refine ⟨v, by rw [Hz.out]; rfl, ?_, ?_⟩
    · rw [Hs0.out, if_pos trivial]
      exact ⟨x, hx, own_base ho (Nat.le_trans (Nat.le_of_lt hlt) hd02.size)⟩
    · exact (Hw.out.trans (hd02.mono Hw.out.size)).trans (hd3.mono (Nat.le_trans (Nat.le_of_lt hlt) hd02.size))
  · have he1 : (nmR b item == 0) = false := by simpa using h0
    have he2 : (nmR b item != 0) = true := by simpa using h0
    have Hs0 := Lib.hid ((Hsh.out _ rfl))
    generalize nmR b item = e0 at *
    clear h h' hs hI hR hb0 hw0 hT hT0 Hsh hB
    go_enter Tryd.func28, Tryd.ntmps28
    have tok := Lib.hid (Nat.le_refl 0)
    go_wp2_with (have tk := tok; clear tok; go_at_call 67; rw [← hW0]; clear hW0; refine cn.out.mono ?_; rintro e w1 ⟨rfl, hd⟩; have hx1 := HB.out.below hd hlt; have z0 := hx1.cell 0; have z1 := hx1.cell 1; have z2 := hx1.cell 2)
    go_ret2
    refine ⟨_, rfl, ?_, Hw.out.trans (hd.mono Hw.out.size)⟩
    rw [Hs0.out, if_neg h0]
    rfl
end Go.Proofs.YtgoojcjfhghmgaaDoor
