/- Direct ways, of the reference. -/
import Derived.Test.YtmodbpglopfghaaVanAi
set_option linter.unusedSimpArgs false
set_option linter.unusedVariables false
namespace Go.Proofs.Ytmodbpglopfghaa
open Go.RowKit

/-- A square table as rows. -/
def rowsOf (D : Nat → Nat → Int) (n : Nat) : List (List Int) := (List.range n).map fun i => rowL D i n
theorem rowsOf_length (D : Nat → Nat → Int) (n : Nat) : (rowsOf D n).length = n := by simp [rowsOf]
theorem rowsOf_get (D : Nat → Nat → Int) (n : Nat) {i : Nat} (h : i < (rowsOf D n).length) : (rowsOf D n)[i] = rowL D i n := by simp [rowsOf]
theorem rowsOf_sq (D : Nat → Nat → Int) (n : Nat) : ∀ r ∈ rowsOf D n, r.length = n := fun r hr => by
  obtain ⟨i, _, rfl⟩ := List.mem_map.1 hr
  exact rowL_length D i n
theorem wy_rowsOf (D : Nat → Nat → Int) (n : Nat) {i j : Nat} (hi : i < n) (hj : j < n) : wy (rowsOf D n) i j = D i j := by
  simp [wy, rowsOf, rowL, hi, hj]
theorem WaAt.tbl {B b off n : Nat} {w : World} {D : Nat → Nat → Int} (h : WaAt B w b off n D) : TblAt B w (some ⟨b, off, none⟩) (rowsOf D n) := fun k hk => by
  have hk' : k < n := by rw [rowsOf_length] at hk; exact hk
  obtain ⟨b1, o1, c1, h1, h2, h3⟩ := wa_row h hk'
  exact ⟨b, off, some ⟨b1, o1, none⟩, c1, rfl, h.1, by rw [rowsOf_get, rowL_length]; exact h2, by rw [rowsOf_get]; exact h3⟩
theorem MT.base {base base' g n : Nat} {f : Nat → Nat → Int} {w : World} (h : MT base g n f w) (hb : base' ≤ base) : MT base' g n f w := by
  obtain ⟨h1, h2, bs, h3, h4, h5⟩ := h
  exact ⟨by omega, h2, bs, fun i hi => ⟨by have := (h3 i hi).1; omega, (h3 i hi).2⟩, h4, h5⟩
/-- A copy of a table. -/
theorem Copy_mt (g n c B : Nat) (off : Nat) (D : Nat → Nat → Int) (w : World) (hB : B ≤ w.heap.size) (h : WaAt B w g off n D) (hn1 : 1 ≤ n) (hn7 : n ≤ 7) :
    Calls Try.prog 45 #[.slice (some ⟨g, off, none⟩) n c] w fun e w' => ∃ g' c', e = .returned (.slice (some ⟨g', 0, none⟩) n c') ∧ MT w.heap.size g' n D w' ∧ Below w.heap.size w w' := by
  have := Copy_ref (some ⟨g, off, none⟩) c B (rowsOf D n) w hB h.tbl (by rw [rowsOf_length]; omega) (fun r hr => by rw [rowsOf_sq D n r hr]; omega)
  rw [rowsOf_length] at this
  refine this.mono ?_
  rintro e w' ⟨A', c', vs, rfl, h1, h2, h3⟩
  obtain ⟨g', rfl, hM⟩ := MT.of_copy (rowsOf_length D n) hn1 (rowsOf_sq D n) h1 h2
  exact ⟨g', c', rfl, hM.congr fun i k hi hk => wy_rowsOf D n hi hk, h3⟩
/-- How many last places were looked at. -/
def cntR (n i k o i' k' : Nat) : Nat := if i' < i ∨ (i' = i ∧ k' < k) then n else if i' = i ∧ k' = k then o else 0
/-- The next table, so far. -/
def InvR (n : Nat) (f D E : Nat → Nat → Int) (c : Nat → Nat → Nat) : Prop := ∀ i k, i < n → k < n → E i k ≤ D i k ∧ (∀ o, o < c i k → E i k ≤ D i o + f o k) ∧ (E i k = D i k ∨ ∃ o, o < n ∧ E i k = D i o + f o k)
section
variable {n : Nat} {f D E : Nat → Nat → Int}
theorem InvR.start (n : Nat) (f D : Nat → Nat → Int) : InvR n f D D (cntR n 0 0 0) := fun i k hi hk => ⟨Int.le_refl _, fun o ho => by
  unfold cntR at ho
  rw [if_neg (by omega)] at ho
  split at ho <;> omega, .inl rfl⟩
theorem InvR.cong {c c' : Nat → Nat → Nat} (h : InvR n f D E c) (hc : ∀ i k, i < n → k < n → c' i k ≤ c i k) : InvR n f D E c' := fun i k hi hk =>
  ⟨(h i k hi hk).1, fun o ho => (h i k hi hk).2.1 o (by have := hc i k hi hk; omega), (h i k hi hk).2.2⟩
theorem InvR.nextK {i k : Nat} (h : InvR n f D E (cntR n i k n)) : InvR n f D E (cntR n i (k + 1) 0) := h.cong fun i' k' hi hk => by
  unfold cntR
  split <;> split <;> (try split) <;> (try split) <;> omega
theorem InvR.nextI {i : Nat} (h : InvR n f D E (cntR n i n 0)) : InvR n f D E (cntR n (i + 1) 0 0) := h.cong fun i' k' hi hk => by
  unfold cntR
  split <;> split <;> (try split) <;> (try split) <;> omega
theorem InvR.step {i k o : Nat} (h : InvR n f D E (cntR n i k o)) (hi : i < n) (hk : k < n) (ho : o < n) : InvR n f D (updD E i k (min (E i k) (D i o + f o k))) (cntR n i k (o + 1)) := fun i' k' hi' hk' => by
  obtain ⟨h1, h2, h3⟩ := h i' k' hi' hk'
  unfold updD
  by_cases e : i' = i ∧ k' = k
  · obtain ⟨rfl, rfl⟩ := e
    rw [if_pos ⟨rfl, rfl⟩]
    refine ⟨Int.le_trans (Int.min_le_left _ _) h1, fun o' ho' => ?_, ?_⟩
    · unfold cntR at ho'
      rw [if_neg (by omega), if_pos ⟨rfl, rfl⟩] at ho'
      by_cases eo : o' = o
      · subst eo; exact Int.min_le_right _ _
      · refine Int.le_trans (Int.min_le_left _ _) (h2 o' ?_)
        unfold cntR
        rw [if_neg (by omega), if_pos ⟨rfl, rfl⟩]; omega
    · by_cases hc : E i' k' ≤ D i' o + f o k'
      · rw [Int.min_eq_left hc]; exact h3
      · rw [Int.min_eq_right (by omega)]; exact .inr ⟨o, ho, rfl⟩
  · rw [if_neg e]
    refine ⟨h1, fun o' ho' => h2 o' ?_, h3⟩
    unfold cntR at ho' ⊢
    split
    · rename_i hc; rw [if_pos hc] at ho'; exact ho'
    · rename_i hc; rw [if_neg hc, if_neg e] at ho'; omega
theorem InvR.done {r : Nat} (h : InvR n f D E (cntR n n 0 0)) (hF : Fl n f D (Rst r)) : Fl n f E (Rst (r + 1)) := hF.rnext (fun i j hi hj => ⟨(h i j hi hj).1, fun o ho => (h i j hi hj).2.1 o (by unfold cntR; rw [if_pos (.inl hi)]; exact ho)⟩) fun i j hi hj => (h i j hi hj).2.2
end

set_option maxRecDepth 100000 in
set_option maxHeartbeats 4000000 in
theorem Direct_ref (b off c B : Nat) (rows : List (List Int)) (w : World) (hB : B ≤ w.heap.size) (h : TblAt B w (some ⟨b, off, none⟩) rows) (hl : rows.length ≤ 30 ∧ ∀ r ∈ rows, r.length ≤ 30) (hv : VW rows) :
    Calls Try.prog 46 #[.slice (some ⟨b, off, none⟩) rows.length c] w fun e w' => ∃ g c' D, e = .returned (.tuple #[.slice (some ⟨g, 0, none⟩) rows.length c', .int .i64 0]) ∧ MT w.heap.size g rows.length D w' ∧ IsDist rows.length (wy rows) D ∧ Below w.heap.size w w' := by
  have cv := Lib.hid (Validate_ref (some ⟨b, off, none⟩) c B rows w hB h hl)
  rw [vw_ok hv] at cv
  obtain ⟨b', off', e', hwa⟩ := WaAt.of_tbl h hv
  obtain ⟨rfl, rfl⟩ : b = b' ∧ off = off' := by injection e' with e'; injection e' with q1 q2; exact ⟨q1, q2⟩
  have H := Lib.hid (show WaAt w.heap.size w b off rows.length (wy rows) from hwa.below (Below.refl _ _) hB)
  have hn7 := hv.n1
  have hn1 := hv.n0
  have Hf := Lib.hid hv.bd
  have cc0 := Lib.hid (fun W (hW : Below w.heap.size w W) => Copy_mt b rows.length c w.heap.size off (wy rows) W hW.size (H.out.below hW (Nat.le_refl _)) hn1 hn7)
  clear h hl hv hwa e' hB
  generalize wy rows = f at *
  generalize hn : rows.length = n at *
  clear hn
  have HF0 := Lib.hid (Fl.rstart n f)
  have Hbd := Lib.hid (show ∀ (D : Nat → Nat → Int) r, Fl n f D (Rst r) → ∀ x y, x < n → y < n → 0 ≤ D x y ∧ D x y ≤ 1000 from fun D r h x y hx hy => by
    obtain ⟨l, h1, h2⟩ := h.sound x y hx hy
    have h3 := wk_pos (fun a b ha hb => (Hf.out a b ha hb).1) hy l x hx h1
    have h4 := h.comp x y [] hx hy (by simp [Wl]) (by simp [Rst])
    have h5 := (Hf.out x y hx hy).2
    have : wk f y x [] = f x y := rfl
    omega)
  go_enter Try.func46, Try.ntmps46
  go_wp2_with (first | (go_at_call 31; refine cv.out.mono ?_; rintro e w1 ⟨rfl, hb1⟩; have HB1 := Lib.hid hb1) | (go_at_call 45; refine (cc0.out _ HB1.out).mono ?_; rintro e w2 ⟨g0, c0, rfl, hM0, hd2⟩; have HM0 := Lib.hid (hM0.base HB1.out.size); have HB2 := Lib.hid (HB1.out.trans (hd2.mono HB1.out.size)); clear hM0 hd2))
  clear hb1
  go_loopw [5, 6] (fun vn vr wr => ∃ (r g c' : Nat) (D : Nat → Nat → Int), r ≤ n ∧ vr = .int .i64 r ∧ vn = .slice (some ⟨g, 0, none⟩) n c' ∧ MT w.heap.size g n D wr ∧ Aside (Fl n f D (Rst r)) ∧ Below w.heap.size w wr) (fun _ vr _ => n - (intOf vr).toNat)
  case atStart => exact ⟨0, g0, c0, f, Nat.zero_le _, rfl, rfl, HM0.out, HF0.out, HB2.out⟩
  case round =>
    clear HM0 HF0 HB2
    obtain ⟨r, g, c', D, hr, rfl, rfl, hM, hF, hbr⟩ := hrel
    have HM := Lib.hid hM
    have HF := Lib.hid hF.out
    have HBr := Lib.hid hbr
    clear hM hF hbr
    by_cases hrlt : r < n
    · have hrI : (r : Int) < (n : Int) := by omega
      have cc := Lib.hid (Copy_mt g n c' wr.heap.size 0 D wr (Nat.le_refl _) HM.out.wa hn1 hn7)
      have HWn := Lib.hid HM.out.wa
      obtain ⟨wo, rfl⟩ : ∃ wo : World, wo = wr := ⟨_, rfl⟩
      go_wp2_with (go_at_call 45; refine cc.out.mono ?_; rintro e w3 ⟨gx, cx, rfl, hM3, hd3⟩; have HM3 := Lib.hid hM3; have HB3 := Lib.hid hd3; clear hM3 hd3)
      have HI0 := Lib.hid (InvR.start n f D)
      go_loopw [8] (fun vi wr => ∃ (i : Nat) (E : Nat → Nat → Int), i ≤ n ∧ vi = .int .i64 i ∧ MT wo.heap.size gx n E wr ∧ Aside (InvR n f D E (cntR n i 0 0)) ∧ Below wo.heap.size wo wr) (fun vi _ => n - (intOf vi).toNat)
      case atStart => exact ⟨0, D, Nat.zero_le _, rfl, HM3.out, HI0.out, HB3.out⟩
      case round =>
        clear HM3 HI0 HB3
        obtain ⟨i, E, hi, rfl, hM, hI, hbx⟩ := hrel
        have HM := Lib.hid hM
        have HI := Lib.hid hI.out
        have HBx := Lib.hid hbx
        clear hM hI hbx
        by_cases hilt : i < n
        · have hiI : (i : Int) < (n : Int) := by omega
          have hi0 : (0 : Int) ≤ (i : Int) := by omega
          go_wp2_with fail
          go_loopw [9] (fun vk wr => ∃ (k : Nat) (E : Nat → Nat → Int), k ≤ n ∧ vk = .int .i64 k ∧ MT wo.heap.size gx n E wr ∧ Aside (InvR n f D E (cntR n i k 0)) ∧ Below wo.heap.size wo wr) (fun vk _ => n - (intOf vk).toNat)
          case atStart => exact ⟨0, E, Nat.zero_le _, rfl, HM.out, HI.out, HBx.out⟩
          case round =>
            clear HM HI HBx
            obtain ⟨k, E, hk, rfl, hM, hI, hbx⟩ := hrel
            have HM := Lib.hid hM
            have HI := Lib.hid hI.out
            have HBx := Lib.hid hbx
            clear hM hI hbx
            by_cases hklt : k < n
            · have hkI : (k : Int) < (n : Int) := by omega
              have hk0 : (0 : Int) ≤ (k : Int) := by omega
              go_wp2_with fail
              go_loopw [10] (fun vo wr => ∃ (o : Nat) (E : Nat → Nat → Int), o ≤ n ∧ vo = .int .i64 o ∧ MT wo.heap.size gx n E wr ∧ Aside (InvR n f D E (cntR n i k o)) ∧ Below wo.heap.size wo wr) (fun vo _ => n - (intOf vo).toNat)
              case atStart => exact ⟨0, E, Nat.zero_le _, rfl, HM.out, HI.out, HBx.out⟩
              case round =>
                clear HM HI HBx
                obtain ⟨o, E, ho, rfl, hM, hI, hbx⟩ := hrel
                have HI := Lib.hid hI.out
                have HBx := Lib.hid hbx
                by_cases holt : o < n
                · have hoI : (o : Int) < (n : Int) := by omega
                  have ho0 : (0 : Int) ≤ (o : Int) := by omega
                  obtain ⟨bi, ci, q1, q2, e0, e1, hput⟩ := hM.at hilt
                  obtain ⟨x0, x1⟩ := e1 k hklt
                  obtain ⟨bn, on, cn, r1, r2, r3⟩ := (HWn.out.below hbx (Nat.le_refl _)).2 i hilt
                  have y1 := r3 o holt
                  obtain ⟨bw, ow, cw, s1, s2, s3⟩ := (H.out.below (HBr.out.trans (hbx.mono HBr.out.size)) (Nat.le_refl _)).2 o holt
                  have y2 := s3 k hklt
                  have b1 := Hbd.out D r HF.out i o hilt holt
                  have b2 := Hf.out o k holt hklt
                  have HI2 := Lib.hid (HI.out.step hilt hklt holt)
                  have hp2 := hput (updD E i k (min (E i k) (D i o + f o k))) k hklt (fun i' j' h1 h2 h3 => by unfold updD; rw [if_neg h3])
                  have hup : updD E i k (min (E i k) (D i o + f o k)) i k = min (E i k) (D i o + f o k) := by unfold updD; rw [if_pos ⟨rfl, rfl⟩]
                  rw [hup] at hp2
                  have HP2 := Lib.hid hp2
                  have HBn := Lib.hid (fun v => below_put (below_drewN HBx.out 1) q1 k v)
                  generalize updD E i k (min (E i k) (D i o + f o k)) = E2 at HI2 HP2
                  have hw1 : IntKind.i64.wrap (D i o + f o k) = D i o + f o k := IntWalk.i64_in _ (by omega)
                  generalize E i k = d1 at x0 HP2
                  generalize D i o = d2 at y1 HP2 hw1
                  generalize f o k = d3 at y2 HP2 hw1
                  rw [Nat.zero_add] at r2
                  clear hput hp2 hup e1 r3 s3 hM hI hbx HI b1 b2
                  go_wp2_with fail
                  go_still_tail 28, (by kernel_rfl)
                  change wpList _ _ _ _ _ (wr.drewN 1)
                  go_wp2_with fail
                  go_roundw
                  case rel => exact ⟨o + 1, E2, by omega, by go_num, HP2.out, HI2.out, HBn.out _⟩
                  case measure => simp [intOf]; omega
                · obtain rfl : n = o := by omega
                  have HM := Lib.hid hM
                  have HI2 := Lib.hid HI.out.nextK
                  clear hM hI hbx
                  go_wp2_with fail
                  go_roundw
                  case rel => exact ⟨k + 1, E, by omega, by go_num, HM.out, HI2.out, HBx.out⟩
                  case measure => simp [intOf]; omega
            · obtain rfl : n = k := by omega
              have HI2 := Lib.hid HI.out.nextI
              go_wp2_with fail
              go_roundw
              case rel => exact ⟨i + 1, E, by omega, by go_num, HM.out, HI2.out, HBx.out⟩
              case measure => simp [intOf]; omega
        · obtain rfl : n = i := by omega
          have HF2 := Lib.hid (HI.out.done HF.out)
          have HM2 := Lib.hid (HM.out.base HBr.out.size)
          have HB2 := Lib.hid (HBr.out.trans (HBx.out.mono HBr.out.size))
          go_wp2_with fail
          go_roundw
          case rel => exact ⟨r + 1, gx, cx, E, by omega, by go_num, rfl, HM2.out, HF2.out, HB2.out⟩
          case measure => simp [intOf]; omega
    · obtain rfl : n = r := by omega
      have HD := Lib.hid (HF.out.rdone (fun a b ha hb => (Hf.out a b ha hb).1))
      go_wp2_with fail
      go_ret2
      exact ⟨g, c', D, rfl, HM.out, HD.out, HBr.out⟩
end Go.Proofs.Ytmodbpglopfghaa
