/- Improve. -/
import Derived.Test.YtmodbpglopfghaaVanU
import Derived.Laws.CopyOwn
set_option linter.unusedSimpArgs false
set_option linter.unusedVariables false
namespace Go.Proofs.Ytmodbpglopfghaa
open Go.RowKit

theorem four (j : Nat) (h : j < 4) : ∃ d, ([-8, -1, 1, 8] : List Int)[j]'h = d ∧ -8 ≤ d ∧ d ≤ 8 := by
  have : j = 0 ∨ j = 1 ∨ j = 2 ∨ j = 3 := by omega
  rcases this with rfl | rfl | rfl | rfl <;> exact ⟨_, rfl, by simp, by simp⟩

theorem copy_all {g n c' B : Nat} {cs : Array Value} {p : List Int} {w W : World} {b1 o1 : Nat} (hK : Blk W g 3 cs) (hs : cs.size = n) (hp : p.length = n) (hI : IntsAt W.heap.size W (some ⟨b1, o1, none⟩) p) (hB : Below B w W) (hg : B ≤ g) :
    ∃ w4, (Builtin.copy_ #[28, 28] 3 #[.slice (some ⟨g, 0, none⟩) n n, .slice (some ⟨b1, o1, none⟩) n c']).run Try.prog W = .ok (goInt n) w4 ∧ IR g p w4 ∧ Below B w w4 := by
  have hrun := run_copy_row (P := Try.prog) W 28 28 3 3 g 0 n n ⟨b1, o1, none⟩ n c' cs 3 (p.map (Value.int .i64)) Try.underlying28 (by kernel_rfl) hK (by rw [List.length_map, hp]; exact (Nat.min_self _).symm) (IntsAt.news hI _ rfl) (by rw [List.length_map, hp, hs]; omega) (ints_one p)
  rw [List.length_map, hp] at hrun
  refine ⟨_, hrun, ?_, below_setRow hB hg _⟩
  have := IR.copied hK hs hp
  rw [List.length_map, hp, ← List.append_assoc] at this
  exact this
set_option maxRecDepth 100000 in
set_option maxHeartbeats 4000000 in
theorem Improve_any (A A' : Option Addr) (c c' B : Nat) (rows : List (List Int)) (p : List Int) (w : World) (hB : B ≤ w.heap.size) (h : TblAt B w A rows) (h' : IntsAt B w A' p) (hl : ∀ r ∈ rows, r.length ≤ 30) (hm : p.length ≤ 1000) (hw : WG rows p) :
    Calls Try.prog 25 #[.slice A rows.length c, .slice A' p.length c'] w fun e w' => ∃ A2 c2 q, e = .returned (.tuple #[.slice A2 rows.length c2, .int .i64 0]) ∧ IntsAt w'.heap.size w' A2 q ∧ Bt rows p q ∧ Below w.heap.size w w' := by
  have cv := Lib.hid (weighed_any A A' c c' B rows p w hB h h' hl hm)
  rw [wg_ok hw] at cv
  obtain ⟨b, off, rfl, hwa⟩ := WaAt.of_tbl h hw.vw
  have hlen := hw.len
  rw [hlen] at cv ⊢
  obtain ⟨cs, hcs, hcz, hmk⟩ := make_ints rows.length (by have := hw.vw.n1; omega)
  have hwz := wg_zeros hw
  have cb : ∀ (A2 : Option Addr) (c2 : Nat) (q : List Int) (W : World), Below w.heap.size w W → WG rows q → IntsAt W.heap.size W A2 q → Calls Try.prog 59 #[.slice (some ⟨b, off, none⟩) rows.length c, .slice A2 rows.length c2] W fun e w' => e = .returned (.int .i64 (bV rows q)) ∧ Below W.heap.size W w' := fun A2 c2 q W hW hq hI =>
    bound_val b off c c2 w.heap.size rows A2 q W hW.size ((hwa.below (Below.refl _ _) hB).below hW (Nat.le_refl _)) hq hI
  have CB := Lib.hid cb
  have hp' : IntsAt w.heap.size w A' p := h'.below (Below.refl _ _) hB
  obtain ⟨b1, o1, rfl, hb1, hz1⟩ := hp'.at (k := 0) (by have := hw.n3; omega)
  clear hz1
  have HI := Lib.hid hp'
  have HW := Lib.hid hw
  have HZ := Lib.hid hwz
  have HIR0 := Lib.hid (IR.made w hcs hcz)
  have HBk0 := Lib.hid (Blk.new w 3 cs)
  have HB0 := Lib.hid ((Below.refl w.heap.size w).alloc (Nat.le_refl _) (.cells cs 3))
  have Hcs := Lib.hid hcs
  have Hlen := Lib.hid hlen
  have hn7 := hw.vw.n1
  have HC2 := Lib.hid (fun W (hb : Blk W w.heap.size 3 cs) => IR.copied hb hcs hlen)
  have hn0 : 1 ≤ rows.length := hw.vw.n0
  have h61 := Lib.hid (fun (g c1 : Nat) (q : List Int) (W : World) (hq : q.length = rows.length) (hI : IR g q W) => by
    have := clone_any (some ⟨g, 0, none⟩) c1 W.heap.size q W (by rw [hq]; omega) hI.get
    rw [hq] at this
    exact this)
  clear hlen hcs hcz hw hwz h h' hl hm cb hp' hwa
  have key : ∀ (W : World) (g c2 : Nat) (q : List Int), Bt rows p q → IR g q W → w.heap.size ≤ g → Below w.heap.size w W → True := fun _ _ _ _ _ _ _ _ => trivial
  clear key
  have tok := Lib.hid (Nat.le_refl 0)
  by_cases hgt : bV rows (zerL rows.length) < bV rows p
  case' pos =>
    have hd : decide (bV rows (zerL rows.length) < bV rows p) = true := by simpa using hgt
    have HBt := Lib.hid (show Bt rows p p from ⟨HW.out, Int.le_refl _, by omega⟩)
    clear hgt
    go_enter Try.func25, Try.ntmps25
    go_wp2_with (first
      | (go_at_call 58; refine cv.out.mono ?_; rintro e w1 ⟨rfl, rfl⟩)
      | (go_at_call 59; have tk := tok; clear tok; refine (CB.out _ _ p _ HB0.out HW.out (HI.out.below HB0.out HB0.out.size)).mono ?_; rintro e w2 ⟨rfl, hb2⟩; have tok2 := tk; have HB2 := Lib.hid (HB0.out.trans (hb2.mono HB0.out.size)); have HI2 := Lib.hid (HIR0.out.below hb2 HIR0.out.1); have HK2 := Lib.hid (HBk0.out.below hb2 HBk0.out.lt))
      | (go_at_call 59; have tk := tok2; clear tok2; refine (CB.out _ _ (zerL rows.length) _ HB2.out HZ.out HI2.out.get).mono ?_; rintro e w3 ⟨rfl, hb3⟩; have tok3 := tk; have HB3 := Lib.hid (HB2.out.trans (hb3.mono HB2.out.size)); obtain ⟨w4, hrun, hIp, hBp⟩ := copy_all (c' := c') (HK2.out.below hb3 HK2.out.lt) Hcs.out Hlen.out ((HI.out.below HB3.out HB3.out.size)) HB3.out (Nat.le_refl _); have HIp := Lib.hid hIp; have HBp := Lib.hid hBp; clear hIp hBp))
    generalize hq0 : p = q0 at HIp
    have HBt : Hid (Bt rows p q0) := by rw [← hq0]; exact HBt
    clear hrun hq0 HB3 hb3 HI2 HK2 hb2 HB2 hd
  case' neg =>
    have hd : decide (bV rows (zerL rows.length) < bV rows p) = false := by simpa using hgt
    have HBt := Lib.hid (show Bt rows p (zerL rows.length) from ⟨HZ.out, by omega, Int.le_refl _⟩)
    clear hgt
    go_enter Try.func25, Try.ntmps25
    go_wp2_with (first
      | (go_at_call 58; refine cv.out.mono ?_; rintro e w1 ⟨rfl, rfl⟩)
      | (go_at_call 59; have tk := tok; clear tok; refine (CB.out _ _ p _ HB0.out HW.out (HI.out.below HB0.out HB0.out.size)).mono ?_; rintro e w2 ⟨rfl, hb2⟩; have tok2 := tk; have HB2 := Lib.hid (HB0.out.trans (hb2.mono HB0.out.size)); have HI2 := Lib.hid (HIR0.out.below hb2 HIR0.out.1); have HK2 := Lib.hid (HBk0.out.below hb2 HBk0.out.lt))
      | (go_at_call 59; have tk := tok2; clear tok2; refine (CB.out _ _ (zerL rows.length) _ HB2.out HZ.out HI2.out.get).mono ?_; rintro e w4 ⟨rfl, hb3⟩; have tok3 := tk; have HBp := Lib.hid (HB2.out.trans (hb3.mono HB2.out.size)); have HIp := Lib.hid (HI2.out.below hb3 HI2.out.1)))
    generalize hq0 : zerL rows.length = q0 at HIp
    have HBt : Hid (Bt rows p q0) := by rw [← hq0]; exact HBt
    clear hq0 hb3 HI2 HK2 hb2 HB2 hd
  all_goals
    clear HBk0 HIR0 HB0
    go_loopw [7, 32] (fun vb vr wr => ∃ (k g c2 : Nat) (q : List Int), k ≤ 40 ∧ vr = .int .i64 k ∧ vb = .slice (some ⟨g, 0, none⟩) rows.length c2 ∧ IR g q wr ∧ w.heap.size ≤ g ∧ Aside (Bt rows p q) ∧ Below w.heap.size w wr) (fun _ vr _ => 40 - (intOf vr).toNat)
    case atStart => exact ⟨0, _, _, q0, by omega, rfl, rfl, HIp.out, Nat.le_refl _, HBt.out, HBp.out⟩
    case round =>
      obtain ⟨k, g, c2, q, hk, rfl, rfl, hIR, hg, hBt, hbr⟩ := hrel
      have HIR := Lib.hid hIR
      have HBt := Lib.hid hBt.out
      have HBr := Lib.hid hbr
      clear hIR hBt hbr HIp HBp
      by_cases hk40 : k < 40
      · have hkI : (k : Int) < 40 := by omega
        go_wp2_with fail
        go_loopw [7, 8, 36] (fun vb vf vi wr => ∃ (i g c2 : Nat) (q : List Int) (fl : Bool), i ≤ rows.length ∧ vi = .int .i64 i ∧ vf = .bool fl ∧ vb = .slice (some ⟨g, 0, none⟩) rows.length c2 ∧ IR g q wr ∧ w.heap.size ≤ g ∧ Aside (Bt rows p q) ∧ Below w.heap.size w wr) (fun _ _ vi _ => rows.length - (intOf vi).toNat)
        case atStart => exact ⟨0, g, c2, q, _, Nat.zero_le _, rfl, rfl, rfl, HIR.out, hg, HBt.out, HBr.out⟩
        case round =>
          clear HIR HBt HBr hg
          obtain ⟨i, g, c2, q, fl, hi, rfl, rfl, rfl, hIR, hg, hBt, hbr⟩ := hrel
          have HIR := Lib.hid hIR
          have HBt := Lib.hid hBt.out
          have HBr := Lib.hid hbr
          clear hIR hBt hbr
          by_cases hilt : i < rows.length
          · have hiI : (i : Int) < (rows.length : Int) := by omega
            have hi0 : (0 : Int) ≤ (i : Int) := by omega
            have hIw := ints_new wr [-8, -1, 1, 8]
            have hIRw := HIR.out.alloc (.cells #[.int .i64 (-8), .int .i64 (-1), .int .i64 1, .int .i64 8] 3)
            have hBw := HBr.out.alloc HBr.out.size (.cells #[.int .i64 (-8), .int .i64 (-1), .int .i64 1, .int .i64 8] 3)
            go_wp2_with fail
            obtain ⟨Wb, hWb⟩ : ∃ Wb, Wb = wr.alloc (.cells #[.int .i64 (-8), .int .i64 (-1), .int .i64 1, .int .i64 8] 3) := ⟨_, rfl⟩
            have hIw : IntsAt Wb.heap.size Wb (some ⟨wr.heap.size, 0, none⟩) [-8, -1, 1, 8] := by rw [hWb]; exact hIw
            rw [← hWb] at hIRw hBw ⊢
            have HIw := Lib.hid hIw
            have HIR := Lib.hid hIRw
            have HBw := Lib.hid hBw
            clear hWb hIw hIRw hBw HBr
            generalize wr.heap.size = gb at HIw ⊢
            go_loopw [7, 8, 41] (fun vb vf vj wr => ∃ (j g c2 : Nat) (q : List Int) (fl : Bool), j ≤ 4 ∧ vj = .int .i64 j ∧ vf = .bool fl ∧ vb = .slice (some ⟨g, 0, none⟩) rows.length c2 ∧ IR g q wr ∧ w.heap.size ≤ g ∧ Aside (Bt rows p q) ∧ Below Wb.heap.size Wb wr) (fun _ _ vj _ => 4 - (intOf vj).toNat)
            case atStart => exact ⟨0, g, c2, q, fl, Nat.zero_le _, rfl, rfl, rfl, HIR.out, hg, HBt.out, Below.refl _ _⟩
            case round =>
              clear HIR HBt hg
              obtain ⟨j, g, c2, q, fl, hj, rfl, rfl, rfl, hIR, hg, hBt, hbr⟩ := hrel
              have HIR := Lib.hid hIR
              have HBt := Lib.hid hBt.out
              have HBr := Lib.hid hbr
              clear hIR hBt hbr
              by_cases hjlt : j < 4
              · have hjI : (j : Int) < 4 := by omega
                have hj0 : (0 : Int) ≤ (j : Int) := by omega
                have y0 := ((HIw.out.below HBr.out HBr.out.size).cells (k := j) hjlt).2
                obtain ⟨d, hd, hd1, hd2⟩ := four j hjlt
                rw [hd] at y0
                rw [Nat.zero_add] at y0
                have hqn := HBt.out.1.len
                have hqi := HBt.out.1.ok _ (List.getElem_mem (show i < q.length by omega))
                have ccl := Lib.hid (fun W (hI : IR g q W) => h61.out g c2 q W hqn hI)
                obtain ⟨x, hx⟩ : ∃ x, x = q[i]'(by omega) + d := ⟨_, rfl⟩
                have hwx : IntKind.i64.wrap (q[i]'(by omega) + d) = x := by rw [hx]; exact IntWalk.i64_in _ (by omega)
                have HBw3 := Lib.hid (HBw.out.trans (HBr.out.mono HBw.out.size))
                have HQi := Lib.hid (show i < q.length by omega)
                have HQn := Lib.hid hqn
                have Hst := Lib.hid (fun g2 W (hI : IR g2 q W) => hI.put (i := i) (by omega) x)
                have Hcl := Lib.hid (fun g2 W (hI : IR g2 q W) => And.intro (hI.2 i (by omega)).1 (hI.2 i (by omega)).2)
                have Hgw := Lib.hid (fun (hr : -1000 ≤ x ∧ x ≤ 1000) => wg_set (i := i) HBt.out.1 hr)
                generalize hqv : q[i]'(by omega) = qi at hwx Hcl hqi
                clear hx hd hqn hqv
                by_cases hlo : -1000 ≤ x
                · have hd1 : decide (-1000 ≤ x) = true := by simpa using hlo
                  by_cases hhi : x ≤ 1000
                  · have hd2 : decide (x ≤ 1000) = true := by simpa using hhi
                    have HGq := Lib.hid (Hgw.out ⟨hlo, hhi⟩)
                    clear hlo hhi
                    by_cases hbt : bV rows q < bV rows (q.set i x)
                    · have hd3 : decide (bV rows q < bV rows (q.set i x)) = true := by simpa using hbt
                      have HBt2 := Lib.hid (show Bt rows p (q.set i x) from ⟨HGq.out, by have := HBt.out.2.1; omega, by have := HBt.out.2.2; omega⟩)
                      clear hbt
                      have tok := Lib.hid (Nat.le_refl 0)
                      go_wp2_with (first
                        | (go_at_call 61; refine (ccl.out _ HIR.out).mono ?_; rintro e w5 ⟨v5, rfl, hown5, hd5⟩; obtain ⟨A5, c5, rfl⟩ := own_form hown5; obtain ⟨g5, rfl, hg5, hc5, hm5, hI5⟩ := IR.of_own hown5 HQn.out (fun e => by injection e with _ e; omega); obtain ⟨z0, z1⟩ := Hcl.out g5 w5 hI5; have HI6 := Lib.hid (Hst.out g5 w5 hI5); have hB6 := Lib.hid (below_put (HBr.out.trans (hd5.mono HBr.out.size)) (Nat.le_trans HBr.out.size hg5) i (.int .i64 x)); have HIR6 := Lib.hid ((HIR.out.below hd5 HIR.out.1).kept ((Only.refl g5 w5).put i (.int .i64 x)) (fun e => by have := HIR.out.1; injection e with e; omega)); have HBw6 := Lib.hid (HBw.out.trans (hB6.out.mono HBw.out.size)); have hgg : w.heap.size ≤ g5 := Nat.le_trans HBw3.out.size hg5; clear hown5 hd5 hI5)
                        | (go_at_call 59; have tk := tok; clear tok; refine (CB.out _ _ (q.set i x) _ HBw6.out HGq.out HI6.out.get).mono ?_; rintro e w7 ⟨rfl, hb7⟩; have tok2 := tk; have hB7 := Lib.hid (hB6.out.trans (hb7.mono hB6.out.size)); have HBw7 := Lib.hid (HBw6.out.trans (hb7.mono HBw6.out.size)); have HIR7 := Lib.hid (HIR6.out.below hb7 HIR6.out.1); have HI7 := Lib.hid (HI6.out.below hb7 HI6.out.1))
                        | (go_at_call 59; have tk := tok2; clear tok2; refine (CB.out _ _ q _ HBw7.out HBt.out.1 HIR7.out.get).mono ?_; rintro e w8 ⟨rfl, hb8⟩; have tok3 := tk; have hB8 := Lib.hid (hB7.out.trans (hb8.mono hB7.out.size)); have HI8 := Lib.hid (HI7.out.below hb8 HI7.out.1)))
                      go_roundw
                      case rel => exact ⟨j + 1, g5, c5, q.set i x, true, by omega, by go_num, rfl, rfl, HI8.out, hgg, HBt2.out, hB8.out⟩
                      case measure => simp [intOf]; omega
                    · have hd3 : decide (bV rows q < bV rows (q.set i x)) = false := by simpa using hbt
                      clear hbt
                      have tok := Lib.hid (Nat.le_refl 0)
                      go_wp2_with (first
                        | (go_at_call 61; refine (ccl.out _ HIR.out).mono ?_; rintro e w5 ⟨v5, rfl, hown5, hd5⟩; obtain ⟨A5, c5, rfl⟩ := own_form hown5; obtain ⟨g5, rfl, hg5, hc5, hm5, hI5⟩ := IR.of_own hown5 HQn.out (fun e => by injection e with _ e; omega); obtain ⟨z0, z1⟩ := Hcl.out g5 w5 hI5; have HI6 := Lib.hid (Hst.out g5 w5 hI5); have hB6 := Lib.hid (below_put (HBr.out.trans (hd5.mono HBr.out.size)) (Nat.le_trans HBr.out.size hg5) i (.int .i64 x)); have HIR6 := Lib.hid ((HIR.out.below hd5 HIR.out.1).kept ((Only.refl g5 w5).put i (.int .i64 x)) (fun e => by have := HIR.out.1; injection e with e; omega)); have HBw6 := Lib.hid (HBw.out.trans (hB6.out.mono HBw.out.size)); have hgg : w.heap.size ≤ g5 := Nat.le_trans HBw3.out.size hg5; clear hown5 hd5 hI5)
                        | (go_at_call 59; have tk := tok; clear tok; refine (CB.out _ _ (q.set i x) _ HBw6.out HGq.out HI6.out.get).mono ?_; rintro e w7 ⟨rfl, hb7⟩; have tok2 := tk; have hB7 := Lib.hid (hB6.out.trans (hb7.mono hB6.out.size)); have HBw7 := Lib.hid (HBw6.out.trans (hb7.mono HBw6.out.size)); have HIR7 := Lib.hid (HIR6.out.below hb7 HIR6.out.1); have HI7 := Lib.hid (HI6.out.below hb7 HI6.out.1))
                        | (go_at_call 59; have tk := tok2; clear tok2; refine (CB.out _ _ q _ HBw7.out HBt.out.1 HIR7.out.get).mono ?_; rintro e w8 ⟨rfl, hb8⟩; have tok3 := tk; have hB8 := Lib.hid (hB7.out.trans (hb8.mono hB7.out.size)); have HIR8 := Lib.hid (HIR7.out.below hb8 HIR7.out.1)))
                      go_roundw
                      case rel => exact ⟨j + 1, g, c2, q, fl, by omega, by go_num, rfl, rfl, HIR8.out, hg, HBt.out, hB8.out⟩
                      case measure => simp [intOf]; omega
                  · have hd2 : decide (x ≤ 1000) = false := by simpa using hhi
                    clear hlo hhi Hgw
                    go_wp2_with ((go_at_call 61; refine (ccl.out _ HIR.out).mono ?_; rintro e w5 ⟨v5, rfl, hown5, hd5⟩; obtain ⟨A5, c5, rfl⟩ := own_form hown5; obtain ⟨g5, rfl, hg5, hc5, hm5, hI5⟩ := IR.of_own hown5 HQn.out (fun e => by injection e with _ e; omega); obtain ⟨z0, z1⟩ := Hcl.out g5 w5 hI5; have HI6 := Lib.hid (Hst.out g5 w5 hI5); have hB6 := Lib.hid (below_put (HBr.out.trans (hd5.mono HBr.out.size)) (Nat.le_trans HBr.out.size hg5) i (.int .i64 x)); have HIR6 := Lib.hid ((HIR.out.below hd5 HIR.out.1).kept ((Only.refl g5 w5).put i (.int .i64 x)) (fun e => by have := HIR.out.1; injection e with e; omega)); have HBw6 := Lib.hid (HBw.out.trans (hB6.out.mono HBw.out.size)); have hgg : w.heap.size ≤ g5 := Nat.le_trans HBw3.out.size hg5; clear hown5 hd5 hI5))
                    go_roundw
                    case rel => exact ⟨j + 1, g, c2, q, fl, by omega, by go_num, rfl, rfl, HIR6.out, hg, HBt.out, hB6.out⟩
                    case measure => simp [intOf]; omega
                · have hd1 : decide (-1000 ≤ x) = false := by simpa using hlo
                  clear hlo Hgw
                  go_wp2_with ((go_at_call 61; refine (ccl.out _ HIR.out).mono ?_; rintro e w5 ⟨v5, rfl, hown5, hd5⟩; obtain ⟨A5, c5, rfl⟩ := own_form hown5; obtain ⟨g5, rfl, hg5, hc5, hm5, hI5⟩ := IR.of_own hown5 HQn.out (fun e => by injection e with _ e; omega); obtain ⟨z0, z1⟩ := Hcl.out g5 w5 hI5; have HI6 := Lib.hid (Hst.out g5 w5 hI5); have hB6 := Lib.hid (below_put (HBr.out.trans (hd5.mono HBr.out.size)) (Nat.le_trans HBr.out.size hg5) i (.int .i64 x)); have HIR6 := Lib.hid ((HIR.out.below hd5 HIR.out.1).kept ((Only.refl g5 w5).put i (.int .i64 x)) (fun e => by have := HIR.out.1; injection e with e; omega)); have HBw6 := Lib.hid (HBw.out.trans (hB6.out.mono HBw.out.size)); have hgg : w.heap.size ≤ g5 := Nat.le_trans HBw3.out.size hg5; clear hown5 hd5 hI5))
                  go_roundw
                  case rel => exact ⟨j + 1, g, c2, q, fl, by omega, by go_num, rfl, rfl, HIR6.out, hg, HBt.out, hB6.out⟩
                  case measure => simp [intOf]; omega
              · obtain rfl : j = 4 := by omega
                have HBw3 := Lib.hid (HBw.out.trans (HBr.out.mono HBw.out.size))
                go_wp2_with fail
                go_roundw
                case rel => exact ⟨i + 1, g, c2, q, fl, by omega, by go_num, rfl, rfl, HIR.out, hg, HBt.out, HBw3.out⟩
                case measure => simp [intOf]; omega
          · obtain rfl : i = rows.length := by omega
            cases fl with
            | true =>
              go_wp2_with fail
              go_roundw
              case rel => exact ⟨k + 1, g, c2, q, by omega, by go_num, rfl, HIR.out, hg, HBt.out, HBr.out⟩
              case measure => simp [intOf]; omega
            | false =>
              have HIe := Lib.hid HIR.out.get
              go_wp2_with fail
              go_ret2
              exact ⟨_, _, q, rfl, HIe.out, HBt.out, HBr.out⟩
      · obtain rfl : k = 40 := by omega
        have HIe := Lib.hid HIR.out.get
        go_wp2_with fail
        go_ret2
        exact ⟨_, _, q, rfl, HIe.out, HBt.out, HBr.out⟩
end Go.Proofs.Ytmodbpglopfghaa
