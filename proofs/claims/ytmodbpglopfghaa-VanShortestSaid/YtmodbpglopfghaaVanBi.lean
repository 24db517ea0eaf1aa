/- VanShortest: the call returns true. -/
import Derived.Test.YtmodbpglopfghaaVanBe
import Derived.Test.YtmodbpglopfghaaVanZ
import Derived.Test.YtmodbpglopfghaaVanT
set_option linter.unusedSimpArgs false
set_option linter.unusedVariables false
namespace Go.Proofs.Ytmodbpglopfghaa
open Go.RowKit

set_option maxRecDepth 100000 in
set_option maxHeartbeats 2000000 in
theorem shortest_law (A : Option Addr) (c : Nat) (rows : List (List Int)) (w : World) (h : TblAt w.heap.size w A rows) :
    Calls Try.prog 6 #[.slice A rows.length c] w fun e w' => e = .returned (.bool true) ∧ Below w.heap.size w w' := by
  have cl := Lib.hid (Large_any A c w.heap.size rows w h)
  have hB0 := Below.refl w.heap.size w
  by_cases hlg : lgW rows = true
  · rw [hlg] at cl
    clear h hlg
    go_enter Try.func6, Try.ntmps6
    go_wp2_with (first | (go_at_call 17; refine cl.out.mono ?_; rintro e w1 ⟨rfl, hw1⟩; obtain rfl := hw1.symm; clear hw1) | (go_at_call 18; refine (known_any _).mono ?_; rintro e w5 ⟨rfl, hb5⟩))
    go_ret
    exact ⟨rfl, hb5⟩
  · have hlg' : lgW rows = false := by simpa using hlg
    rw [hlg'] at cl
    have hl := lgW_small hlg'
    have cs := Lib.hid (fun W (hW : Below w.heap.size w W) => Shortest_any A c w.heap.size rows W hW.size (h.below hW (Nat.le_refl _)) hl.2)
    have cr := Lib.hid (fun W (hW : Below w.heap.size w W) => Shortest_ref A c w.heap.size rows W hW.size (h.below hW (Nat.le_refl _)) hl)
    have HU := Lib.hid (fun y z => ShortR.unique (rows := rows) (y := y) (z := z))
    by_cases hv : VW rows
    · have ct := Lib.hid (fun W (hW : Below w.heap.size w W) => Tour_any A c w.heap.size rows W hW.size (h.below hW (Nat.le_refl _)) hl.2 hv)
      have hn0 := hv.n0
      have hn7 := hv.n1
      have cL := Lib.hid (fun (A2 : Option Addr) (c2 : Nat) (t : List Nat) (ht : Tour rows.length t) W (hW : Below w.heap.size w W) (hI : IntsAt W.heap.size W A2 (intL t)) => show Calls Try.prog 28 #[.slice A rows.length c, .slice A2 (rows.length - 1) c2] W fun e w' => e = .returned (.tuple #[.int .i64 (lenF (wy rows) 0 t), .int .i64 0]) ∧ Below W.heap.size W w' from by
        have hll : (intL t).length = rows.length - 1 := by rw [intL_length, ht.2]
        have htd : tdR rows (intL t) = 0 := by rw [td_vw _ hv, stp_tu ht.1]
        have := Length_ref A A2 c c2 W.heap.size rows (intL t) W (Nat.le_refl _) (h.below hW hW.size) hl hI (by rw [hll]; omega)
        rw [hll, htd, show lnR rows (intL t) = lenF (wy rows) 0 t by rw [lnR, if_pos htd, intL_toN]] at this
        exact this)
      rw [vw_ok hv] at cs cr
      have HQ := Lib.hid (show ∀ n t, ShortR rows n → IsShort rows.length (wy rows) (lenF (wy rows) 0 t) → lenF (wy rows) 0 t = n from fun n t hn ht => ht.unique (hn.1 hv).1)
      clear h hlg hlg' hl hv
      generalize rows.length = n at *
      have hw1 : IntKind.i64.wrap ((n : Int) - 1) = ((n - 1 : Nat) : Int) := by rw [IntWalk.i64_in _ (by omega)]; omega
      go_enter Try.func6, Try.ntmps6
      go_wp2_with (first
        | (go_at_call 17; refine cl.out.mono ?_; rintro e w1 ⟨rfl, hw1⟩; obtain rfl := hw1.symm; clear hw1)
        | (go_at_call 21; refine (cs.out _ hB0).mono ?_; rintro e w1 ⟨z1, rfl, hs1, hb1⟩; have hB1 := hB0.trans (hb1.mono hB0.size))
        | (go_at_call 26; refine (cr.out _ hB1).mono ?_; rintro e w2 ⟨z2, rfl, hs2, hb2⟩; have hB2 := hB1.trans (hb2.mono hB1.size); obtain rfl := HU.out _ _ hs1 hs2)
        | (go_at_call 27; refine (ct.out _ hB2).mono ?_; rintro e w3 ⟨A3, c3, t, rfl, ht, hsh, hI3, hc3, hb3⟩; have hB3 := hB2.trans (hb3.mono hB2.size); obtain rfl := HQ.out _ _ hs1 hsh; have HI3 := Lib.hid hI3; clear hI3 hc3)
        | (go_at_call 28; refine (cL.out A3 c3 t ht _ hB3 HI3.out).mono ?_; rintro e w4 ⟨rfl, hb4⟩; have hB4 := hB3.trans (hb4.mono hB3.size))
        | (go_at_call 18; refine (known_any _).mono ?_; rintro e w5 ⟨rfl, hb5⟩))
      go_ret
      exact ⟨rfl, hB4.trans (hb5.mono hB4.size)⟩
    · have ct := Lib.hid (fun W (hW : Below w.heap.size w W) => Tour_bad A c w.heap.size rows W hW.size (h.below hW (Nat.le_refl _)) hl.2 hv)
      have hne : (vwR rows != 0) = true := by simpa using vw_ne hv
      generalize vwR rows = e0 at *
      clear h hlg hlg' hl hv
      go_enter Try.func6, Try.ntmps6
      go_wp2_with (first
        | (go_at_call 17; refine cl.out.mono ?_; rintro e w1 ⟨rfl, hw1⟩; obtain rfl := hw1.symm; clear hw1)
        | (go_at_call 21; refine (cs.out _ hB0).mono ?_; rintro e w1 ⟨z1, rfl, hs1, hb1⟩; have hB1 := hB0.trans (hb1.mono hB0.size))
        | (go_at_call 26; refine (cr.out _ hB1).mono ?_; rintro e w2 ⟨z2, rfl, hs2, hb2⟩; have hB2 := hB1.trans (hb2.mono hB1.size); obtain rfl := HU.out _ _ hs1 hs2)
        | (go_at_call 27; refine (ct.out _ hB2).mono ?_; rintro e w3 ⟨rfl, hb3⟩; have hB3 := hB2.trans (hb3.mono hB2.size))
        | (go_at_call 18; refine (known_any _).mono ?_; rintro e w5 ⟨rfl, hb5⟩))
      go_ret
      exact ⟨rfl, hB3.trans (hb5.mono hB3.size)⟩
end Go.Proofs.Ytmodbpglopfghaa
