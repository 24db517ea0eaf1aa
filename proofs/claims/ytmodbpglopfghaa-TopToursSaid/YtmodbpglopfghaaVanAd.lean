/- VanImproves: the call returns true. -/
import Derived.Test.YtmodbpglopfghaaVanZ
import Derived.Test.YtmodbpglopfghaaVanV
set_option linter.unusedSimpArgs false
set_option linter.unusedVariables false
namespace Go.Proofs.Ytmodbpglopfghaa
open Go.RowKit

set_option maxRecDepth 100000 in
set_option maxHeartbeats 1000000 in
theorem Improve_bad (A A' : Option Addr) (c c' B : Nat) (rows : List (List Int)) (p : List Int) (w : World) (hB : B ≤ w.heap.size) (h : TblAt B w A rows) (h' : IntsAt B w A' p) (hl : ∀ r ∈ rows, r.length ≤ 30) (hm : p.length ≤ 1000) (h0 : ¬ wgR rows p = 0) :
    Calls Try.prog 25 #[.slice A rows.length c, .slice A' p.length c'] w fun e w' => e = .returned (.tuple #[.slice none 0 0, .int .i64 (wgR rows p)]) ∧ w = w' := by
  have cv := Lib.hid (weighed_any A A' c c' B rows p w hB h h' hl hm)
  have hne : (wgR rows p != 0) = true := by simpa using h0
  have hne2 : (wgR rows p == 0) = false := by simpa using h0
  generalize wgR rows p = e0 at cv hne hne2 ⊢
  clear h h' hl h0
  go_enter Try.func25, Try.ntmps25
  go_wp2_with (go_at_call 58; refine cv.out.mono ?_; rintro e w1 ⟨rfl, rfl⟩)
  go_ret2
  exact ⟨rfl, rfl⟩

set_option maxRecDepth 100000 in
set_option maxHeartbeats 2000000 in
theorem improves_law (A A' : Option Addr) (c c' : Nat) (rows : List (List Int)) (p : List Int) (w : World) (h : TblAt w.heap.size w A rows) (h' : IntsAt w.heap.size w A' p) :
    Calls Try.prog 5 #[.slice A rows.length c, .slice A' p.length c'] w fun e w' => e = .returned (.bool true) ∧ Below w.heap.size w w' := by
  have cl := Lib.hid (Large_any A c w.heap.size rows w h)
  have cg := Lib.hid (long_any A' p.length c' w)
  have hB0 := Below.refl w.heap.size w
  rcases lg2 (lgW rows) (decide (60 < (p.length : Int))) with hlg | ⟨hlg, hlo⟩ | ⟨hlg, hlo⟩
  · rw [hlg] at cl
    clear h h' hlg
    go_enter Try.func5, Try.ntmps5
    go_wp2_with (first | (go_at_call 17; refine cl.out.mono ?_; rintro e w1 ⟨rfl, hw1⟩; obtain rfl := hw1.symm; clear hw1) | (go_at_call 18; refine (known_any _).mono ?_; rintro e w5 ⟨rfl, hb5⟩))
    go_ret
    exact ⟨rfl, hb5⟩
  · rw [hlg] at cl
    rw [hlo] at cg
    clear h h' hlg hlo
    go_enter Try.func5, Try.ntmps5
    go_wp2_with (first | (go_at_call 17; refine cl.out.mono ?_; rintro e w1 ⟨rfl, hw1⟩; obtain rfl := hw1.symm; clear hw1) | (go_at_call 22; refine cg.out.mono ?_; rintro e w1 ⟨rfl, rfl⟩) | (go_at_call 18; refine (known_any _).mono ?_; rintro e w5 ⟨rfl, hb5⟩))
    go_ret
    exact ⟨rfl, hb5⟩
  · rw [hlg] at cl
    rw [hlo] at cg
    have hl := lgW_small hlg
    have hm : p.length ≤ 60 := by simp at hlo; omega
    have cr := Lib.hid (Bound_ref A A' c c' w.heap.size rows p w (Nat.le_refl _) h h' hl (by omega))
    by_cases he : wgR rows p = 0
    · have hw := wg_zero he
      have hn7 := hw.vw.n1
      obtain ⟨cs, hcs, hcz, hmk⟩ := make_ints rows.length (by omega)
      have ci := Lib.hid (fun W (hW : Below w.heap.size w W) => Improve_any A A' c c' w.heap.size rows p W hW.size (h.below hW (Nat.le_refl _)) (h'.below hW (Nat.le_refl _)) hl.2 (by omega) hw)
      have cbv : ∀ (A2 : Option Addr) (c2 : Nat) (q : List Int) (W : World), Below w.heap.size w W → WG rows q → IntsAt W.heap.size W A2 q → Calls Try.prog 24 #[.slice A rows.length c, .slice A2 rows.length c2] W fun e w' => e = .returned (.tuple #[.int .i64 (bV rows q), .int .i64 0]) ∧ (∃ z, BdIs rows.length (wy rows) q z) ∧ Below W.heap.size W w' := fun A2 c2 q W hW hq hI => by
        have := Bound_ref A A2 c c2 W.heap.size rows q W (Nat.le_refl _) (h.below hW hW.size) hI hl (by rw [hq.len]; omega)
        rw [wg_ok hq, hq.len] at this
        exact this.mono fun e w' ⟨z, h1, h2, h3⟩ => ⟨by rw [h1, bV_eq hq (h2.1 hq).1], ⟨z, (h2.1 hq).1⟩, h3⟩
      have CB := Lib.hid cbv
      have cs2 := Lib.hid (fun W (hW : Below w.heap.size w W) => Shortest_ref A c w.heap.size rows W hW.size (h.below hW (Nat.le_refl _)) hl)
      have hwz := wg_zeros hw
      have HZ := Lib.hid hwz
      have HIR := Lib.hid (fun W => (IR.made (n := rows.length) W hcs hcz).get)
      have hv0 := vw_ok hw.vw
      rw [hv0] at cs2
      have HQ := Lib.hid (show ∀ q n, Bt rows p q → (∃ z, BdIs rows.length (wy rows) q z) → ShortR rows n → bV rows p ≤ bV rows q ∧ bV rows (zerL rows.length) ≤ bV rows q ∧ bV rows q ≤ n from fun q n h1 ⟨z, hz⟩ h2 => ⟨h1.2.1, h1.2.2, by
        rw [bV_eq h1.1 hz]
        exact short_bound hz (h2.1 hw.vw).1 hw.vw.sym (fun i k hi hk => cg_bd hw.vw.bd h1.1.ok h1.1.len hi hk) hw.n3 h1.1.len⟩)
      have cr2 : Calls Try.prog 24 #[.slice A rows.length c, .slice A' p.length c'] w fun e w' => e = .returned (.tuple #[.int .i64 (bV rows p), .int .i64 0]) ∧ Below w.heap.size w w' := cr.out.mono fun e w' hx => by
        obtain ⟨z, h1, h2, h3⟩ := hx
        exact ⟨by rw [h1, he, bV_eq hw (h2.1 hw).1], h3⟩
      have CR := Lib.hid cr2
      have HW := Lib.hid hw.len
      clear cr cr2 h h' hlg hl hlo he hw cbv hwz hcs hcz hv0
      go_enter Try.func5, Try.ntmps5
      have tok := Lib.hid (Nat.le_refl 0)
      go_wp2_with (first
        | (go_at_call 17; refine cl.out.mono ?_; rintro e w1 ⟨rfl, hw1⟩; obtain rfl := hw1.symm; clear hw1)
        | (go_at_call 22; refine cg.out.mono ?_; rintro e w1 ⟨rfl, rfl⟩)
        | (go_at_call 24; have tk := tok; clear tok; refine CR.out.mono ?_; rintro e w1 ⟨rfl, hb1⟩; have tok2 := tk; have hB1 := hB0.trans (hb1.mono hB0.size))
        | (go_at_call 25; refine (ci.out _ hB1).mono ?_; rintro e w2 ⟨A2, c2, q, rfl, hI2, hBt, hb2⟩; have hB2 := hB1.trans (hb2.mono hB1.size); have HBt := Lib.hid hBt)
        | (go_at_call 24; have tk := tok2; clear tok2; refine (CB.out _ _ q _ hB2 HBt.out.1 hI2).mono ?_; rintro e w3 ⟨rfl, hz3, hb3⟩; have tok3 := tk; have HZ3 := Lib.hid hz3; clear hz3; have hB3 := hB2.trans (hb3.mono hB2.size); have hB3a := balloc (Below.refl w3.heap.size w3) (.cells cs 3); have HI3 := Lib.hid (HIR.out w3))
        | (go_at_call 24; have tk := tok3; clear tok3; refine (CB.out _ _ (zerL rows.length) _ (hB3.trans (hB3a.mono hB3.size)) HZ.out HI3.out).mono ?_; rintro e w4 ⟨rfl, hz4, hb4⟩; clear hz4; have hB4 := (hB3.trans (hB3a.mono hB3.size)).trans (hb4.mono (hB3.trans (hB3a.mono hB3.size)).size))
        | (go_at_call 26; refine (cs2.out _ hB4).mono ?_; rintro e w5 ⟨n, rfl, hs, hb5⟩; have hB5 := hB4.trans (hb5.mono hB4.size); obtain ⟨g1, g2, g3⟩ := HQ.out q n HBt.out HZ3.out hs; have d1 := decide_eq_true g1; have d2 := decide_eq_true g2; have d3 := decide_eq_true g3; clear g1 g2 g3)
        | (go_at_call 18; refine (known_any _).mono ?_; rintro e w7 ⟨rfl, hb7⟩))
      go_ret
      exact ⟨rfl, hB5.trans (hb7.mono hB5.size)⟩
    · have ci := Lib.hid (fun W (hW : Below w.heap.size w W) => Improve_bad A A' c c' w.heap.size rows p W hW.size (h.below hW (Nat.le_refl _)) (h'.below hW (Nat.le_refl _)) hl.2 (by omega) he)
      have hne : (wgR rows p != 0) = true := by simpa using he
      have hne2 : (wgR rows p == 0) = false := by simpa using he
      generalize wgR rows p = e0 at cr ci hne hne2
      clear h h' hlg hl hlo he
      go_enter Try.func5, Try.ntmps5
      go_wp2_with (first
        | (go_at_call 17; refine cl.out.mono ?_; rintro e w1 ⟨rfl, hw1⟩; obtain rfl := hw1.symm; clear hw1)
        | (go_at_call 22; refine cg.out.mono ?_; rintro e w1 ⟨rfl, rfl⟩)
        | (go_at_call 24; refine cr.out.mono ?_; rintro e w1 ⟨z1, rfl, hz1, hb1⟩; have hB1 := hB0.trans (hb1.mono hB0.size))
        | (go_at_call 25; refine (ci.out _ hB1).mono ?_; rintro e w2 ⟨rfl, rfl⟩)
        | (go_at_call 18; refine (known_any _).mono ?_; rintro e w7 ⟨rfl, hb7⟩))
      go_ret
      exact ⟨rfl, hB1.trans (hb7.mono hB1.size)⟩
end Go.Proofs.Ytmodbpglopfghaa
