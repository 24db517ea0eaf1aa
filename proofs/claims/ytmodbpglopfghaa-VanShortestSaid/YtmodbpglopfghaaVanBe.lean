/- Tour f27: a tour of the smallest length. -/
import Derived.Test.YtmodbpglopfghaaVanBd
set_option linter.unusedSimpArgs false
set_option linter.unusedVariables false
namespace Go.Proofs.Ytmodbpglopfghaa
open Go.RowKit

section
variable (b off n c : Nat) (f : Nat → Nat → Int) (z : Int) (q1 q5 N0 : Nat) (W0 : World)
set_option maxRecDepth 100000 in
set_option maxHeartbeats 1000000 in
theorem acc_tour (hw : WaAt W0.heap.size W0 b off n f) (hf : ∀ i j, i < n → j < n → 0 ≤ f i j ∧ f i j ≤ 1000) (hn : 1 ≤ n) (hn7 : n ≤ 7) (k1 : W0.cell? ⟨q1, 0, none⟩ = some (.slice (some ⟨b, off, none⟩) n c)) (k5 : W0.cell? ⟨q5, 0, none⟩ = some (.int .i64 z)) :
    Acc65 N0 #[.pointer (some ⟨q1, 0, none⟩), .pointer (some ⟨q5, 0, none⟩)] (fun _ => False) (fun t => lenF f 0 t == z) (Tour n) (fun _ W => Below W0.heap.size W0 W) := by
  intro t A c' W done hok hI hN hA hc hcm hAb
  have hlen := hok.2
  have cl := Lib.hid (fun W' (hW : Below W.heap.size W W') => length_any b off n c c' W'.heap.size f A t W' ((hw.below hI hI.size).below hW hW.size) hf (hA.below hW hW.size) (fun x hx => (hok.1.2 x hx).2) hn (by omega))
  have m1 := (hI.cell (p := ⟨q1, 0, none⟩) (cell_lt k1)).trans k1
  have m5 := (hI.cell (p := ⟨q5, 0, none⟩) (cell_lt k5)).trans k5
  have HI := Lib.hid hI
  have HB := Lib.hid (Below.refl W.heap.size W)
  clear hw hf k1 k5 hok hI hA hAb hlen
  dsimp only
  generalize lenF f 0 t = y at cl ⊢
  go_enter Try.func65, Try.ntmps65
  go_wp2_with fail
  go_quiet ((go_at_call 66; exact Calls.quiet_of_same ((cl.out _ (by first | exact HB.out | exact HB.out.drew | exact below_drewN HB.out _)).mono fun _ _ h => ⟨h.1, h.2.symm⟩)))
  go_wp2_with fail
  go_ret
  exact ⟨rfl, fun _ => below_drewN HI.out _, Fr.of_below (below_drewN HB.out _)⟩
end

section
variable (A : Option Addr) (c B : Nat) (rows : List (List Int)) (w : World) (hB : B ≤ w.heap.size) (h : TblAt B w A rows) (hl : ∀ r ∈ rows, r.length ≤ 30)
include hB h hl
set_option maxRecDepth 100000 in
set_option maxHeartbeats 1000000 in
theorem Tour_any (hv : VW rows) :
    Calls Try.prog 27 #[.slice A rows.length c] w fun e w' => ∃ A2 c2 t, e = .returned (.tuple #[.slice A2 (rows.length - 1) c2, .int .i64 0]) ∧ Tour rows.length t ∧ IsShort rows.length (wy rows) (lenF (wy rows) 0 t) ∧ IntsAt w'.heap.size w' A2 (intL t) ∧ rows.length - 1 ≤ c2 ∧ Below w.heap.size w w' := by
  have hB0 : Below w.heap.size w (w.alloc (.cells #[.slice A rows.length c] 22)) := (Below.refl _ _).alloc (Nat.le_refl _) _
  have hT := h.below (Below.refl _ _) hB
  have cv := Lib.hid (fun W (hW : Below w.heap.size w W) => Validate_any A c w.heap.size rows W (hT.below hW (Nat.le_refl _)) hl)
  rw [vw_ok hv] at cv
  obtain ⟨b, off, rfl, hwa⟩ := WaAt.of_tbl hT hv
  have hn0 := hv.n0
  have hn7 := hv.n1
  have cs := Lib.hid (fun W (hW : Below w.heap.size w W) => shortest_any b off rows.length c w.heap.size (wy rows) W hW.size (hwa.below hW (Nat.le_refl _)) hv.bd (hv.diag hn0) hn0 hn7)
  have HA := Lib.hid (fun (z : Int) (q1 q5 N0 : Nat) (W0 : World) (hW : Below w.heap.size w W0) => acc_tour b off rows.length c (wy rows) z q1 q5 N0 W0 (hwa.below hW hW.size) hv.bd hn0 hn7)
  clear h hl hv hT hwa
  generalize wy rows = f at cs HA ⊢
  generalize rows.length = n at cv cs HA hn0 hn7 hB0 ⊢
  have HB0 := Lib.hid hB0
  go_enter Try.func27, Try.ntmps27
  go_wp2_with fail
  generalize hW0 : w.alloc (.cells #[.slice (some ⟨b, off, none⟩) n c] 22) = W0
  rw [hW0] at HB0
  have HK0 := Lib.hid (show Blk W0 w.heap.size 22 #[.slice (some ⟨b, off, none⟩) n c] by rw [← hW0]; exact Blk.new _ _ _)
  have HC := Lib.hid (show ∀ W, Below W0.heap.size W0 W → Blk W w.heap.size 22 #[.slice (some ⟨b, off, none⟩) n c] from fun W hW => HK0.out.below hW HK0.out.lt)
  have k0 := (blk1 (HC.out _ (Below.refl _ _))).1
  clear hW0 hB0
  go_wp2_with (first
    | (go_at_call 30; refine (cv.out _ HB0.out).mono ?_; rintro e w1 ⟨rfl, hw1⟩; obtain rfl := hw1.symm; clear hw1)
    | (go_at_call 57; refine (cs.out _ HB0.out).mono ?_; rintro e w2 ⟨z, rfl, hz, hz0, hz1, hb2⟩; clear k0; have k0 := (blk1 (HC.out _ hb2)).1; have hsz2 : w.heap.size < w2.heap.size := (HC.out _ hb2).lt))
  generalize hW3 : w2.alloc (.cells #[.int .i64 z] 3) = W3
  have hb23 : Below w2.heap.size w2 W3 := by rw [← hW3]; exact (Below.refl _ _).alloc (Nat.le_refl _) _
  have hb3 : Below W0.heap.size W0 W3 := hb2.trans (hb23.mono hb2.size)
  have k1 := (blk1 (HC.out _ hb3)).1
  have k5 : W3.cell? ⟨w2.heap.size, 0, none⟩ = some (.int .i64 z) := by rw [← hW3]; exact (blk1 (Blk.new w2 3 #[.int .i64 z])).1
  have hbw : Below w.heap.size w W3 := HB0.out.trans (hb3.mono HB0.out.size)
  have hs := search65_any #[.pointer (some ⟨w.heap.size, 0, none⟩), .pointer (some ⟨w2.heap.size, 0, none⟩)] (fun _ => False) (fun t => lenF f 0 t == z) (Tour n) (fun _ W => Below W3.heap.size W3 W) (some ⟨b, off, none⟩) n c W3 (by omega) (fun i h => h.elim) (fun _ W W' h h' => h.trans (h'.mono h.size)) (HA.out z _ _ _ W3 hbw k1 k5)
    (fun _ W h hs => h.trans (below_put (Below.refl _ _) (by omega) 0 _)) (fun s hs => by rw [uptN65_frm] at hs; exact exts_tour.1 hs) (Below.refl _ _)
  refine hs.mono ?_
  rintro e w4 ⟨A2, m, c2, rfl, hf, h4⟩
  have H4 := Lib.hid h4
  have HF := Lib.hid (hf.below (B := W3.heap.size) (Nat.le_refl _) (fun _ _ h => h))
  have HZ := Lib.hid hz
  have HW := Lib.hid hbw
  clear h4 hf hz hs k1 k5 hbw hb3 hb23 hW3 hb2 k0
  go_wp2_with fail
  go_ret2
  rcases H4.out with ⟨_, _, _, hrej, _⟩ | ⟨s, h1, h2, h3, h5, h6, h7⟩
  · obtain ⟨t, ht, e⟩ := HZ.out.2
    have := hrej t (by rw [uptN65_frm]; exact exts_tour.2 ht)
    rw [e] at this
    simp at this
  · rw [uptN65_frm] at h1
    have ht := exts_tour.1 h1
    have h8 : lenF f 0 s = z := by simpa using h2
    have h9 : m = n - 1 := by rw [h3, ht.2]
    subst h9
    refine ⟨A2, c2, s, rfl, ht, by rw [h8]; exact HZ.out, h5, by omega, HW.out.trans (HF.out.mono HW.out.size)⟩
set_option maxRecDepth 100000 in
set_option maxHeartbeats 1000000 in
theorem Tour_bad (hv : ¬ VW rows) :
    Calls Try.prog 27 #[.slice A rows.length c] w fun e w' => e = .returned (.tuple #[.slice none 0 0, .int .i64 (vwR rows)]) ∧ Below w.heap.size w w' := by
  have hT := h.below (Below.refl _ _) hB
  have cv := Lib.hid (fun W (hW : Below w.heap.size w W) => Validate_any A c w.heap.size rows W (hT.below hW (Nat.le_refl _)) hl)
  have HB0 := Lib.hid ((Below.refl w.heap.size w).alloc (Nat.le_refl _) (.cells #[.slice A rows.length c] 22))
  have hne : (vwR rows != 0) = true := by simpa using vw_ne hv
  generalize vwR rows = e0 at cv hne ⊢
  clear h hl hv hT
  go_enter Try.func27, Try.ntmps27
  go_wp2_with (go_at_call 30; refine (cv.out _ HB0.out).mono ?_; rintro e w1 ⟨rfl, hw1⟩; obtain rfl := hw1.symm; clear hw1)
  go_ret2
  exact ⟨rfl, HB0.out⟩
end
end Go.Proofs.Ytmodbpglopfghaa
