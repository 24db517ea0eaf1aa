/- The reference's base. -/
import Derived.Test.YtgoojcjfhghmgaaDoorDisEh
namespace Go.Proofs.YtgoojcjfhghmgaaDoor
open Go.RowKit

def bsN (b : Bk) (C k : Nat) : Nat := (List.range k).foldl (fun m i => if C.testBit i then m ||| mk (hasL b i) else m) 0
theorem bsN_succ (b : Bk) (C k : Nat) : bsN b C (k + 1) = if C.testBit k then bsN b C k ||| mk (hasL b k) else bsN b C k := by
  unfold bsN
  rw [List.range_succ, List.foldl_append]; rfl
theorem bsN_all {b : Bk} (hv : VBk b) {item : Nat} (hi : item < b.its.length) : bsN b (cnS b item) b.its.length = bsS b item := by
  have hC : cnS b item < 2 ^ b.its.length := Nat.lt_of_lt_of_le (cnS_lt hv hi) (Nat.pow_le_pow_right (by decide) hi)
  unfold bsN bsS
  rw [bl_filter hC (by have := hv.ni; omega), List.foldl_filter]
theorem bsN_lt {b : Bk} (hv : VBk b) (C : Nat) : ∀ k, k ≤ b.its.length → bsN b C k < 2 ^ b.p.toNat
  | 0, _ => by simp [bsN]; exact Nat.two_pow_pos _
  | k + 1, hk => by
    have ih := bsN_lt hv C k (by omega)
    rw [bsN_succ]
    split
    · exact or_lt ih (mk_lt (hasL_lt hv (by omega)))
    · exact ih
theorem BB.far {g n x : Nat} {W : World} (h : BB g n x W) {p : Addr} (hp : g ≠ p.block) (u : Value) : BB g n x (W.setCell p u) := by
  obtain ⟨cs, h1, h2, h3⟩ := h
  exact ⟨cs, h1.far hp u, h2, h3⟩
theorem has_at {b : Bk} (hv : VBk b) {i : Nat} (hil : i < b.its.length) {B : Nat} {w : World} {A2 : Option Addr} (i2 : IntsAt B w A2 b.its[i].2) : IntsAt B w A2 (intL (hasL b i)) ∧ b.its[i].2.length = (hasL b i).length ∧ ∀ x ∈ hasL b i, x < b.p.toNat := by
  have hpr : hasL b i = natL b.its[i].2 := by simp [hasL, hil]
  have hin : intL (hasL b i) = b.its[i].2 := by rw [hpr]; exact int_nat fun x hx => (isS_mem (hv.parts i hil).2.2 x hx).1
  have hlen : b.its[i].2.length = (hasL b i).length := by rw [hpr, natL_length]
  exact ⟨by rw [hin]; exact i2, hlen, hasL_lt hv hil⟩

set_option maxRecDepth 100000 in
set_option maxHeartbeats 4000000 in
theorem base_ref (AI AR : Option Addr) (cI cR B : Nat) (b : Bk) (item : Nat) (w : World) (hB : B ≤ w.heap.size) (h : ItsAt B w AI b.its) (hs : Short b) (hv : VBk b) (hi : item < b.its.length) :
    Calls Tryd.prog 74 #[.agg #[.int .i64 b.p, .slice AI b.its.length cI, .slice AR b.rus.length cR], .int .i64 item] w fun e w' => e = .returned (.slice (some ⟨w.heap.size + 1, 0, none⟩) b.p.toNat b.p.toNat) ∧ BB (w.heap.size + 1) b.p.toNat (bsS b item) w' ∧ Below w.heap.size w w' := by
  obtain ⟨W0, hW0⟩ : ∃ W0, W0 = w.alloc (.cells #[.int .i64 b.p, .slice AI b.its.length cI, .slice AR b.rus.length cR] 25) := ⟨_, rfl⟩
  have hw0 : Below w.heap.size w W0 := by rw [hW0]; exact balloc (Below.refl _ _) _
  have hb0 : Blk W0 w.heap.size 25 #[.int .i64 b.p, .slice AI b.its.length cI, .slice AR b.rus.length cR] := by rw [hW0]; exact Blk.new w 25 _
  have hsz : W0.heap.size = w.heap.size + 1 := by rw [hW0]; simp only [World.size_alloc]
  have ni := hv.ni
  have hp1 := hv.p1
  have hp0 := hv.p0
  obtain ⟨cs, hs1, hz, mk0⟩ := make_bools b.p.toNat (by omega)
  rw [Int.toNat_of_nonneg hp0] at mk0
  have H := Lib.hid (h.below (Below.refl _ _) hB)
  have hbm : BB (w.heap.size + 1) b.p.toNat 0 (W0.alloc (.cells cs 4)) := by rw [← hsz]; exact BB.made W0 hs1 hz
  have HB0 := Lib.hid hbm
  have hw1 := hw0.alloc hw0.size (.cells cs 4)
  have Hw := Lib.hid hw1
  have hk1 := hb0.alloc (.cells cs 4)
  have HK := Lib.hid hk1
  have x0 := hb0.cell 0
  obtain ⟨z0, z1, z2, _⟩ := blk3 hk1
  have hg1 : (W0.alloc (.cells cs 4)).heap.size = w.heap.size + 1 + 1 := by simp only [World.size_alloc, hsz]
  have cin0 := inside_ref AI AR cI cR _ b item (W0.alloc (.cells cs 4)) (Nat.le_refl _) ((h.below (Below.refl _ _) hB).below hw1 hw1.size) hv hi
  rw [hg1] at cin0
  have cin := Lib.hid cin0
  clear cin0
  have Hall := Lib.hid (bsN_all hv hi)
  have Hlt := Lib.hid (bsN_lt hv (cnS b item))
  have Hsu := Lib.hid (bsN_succ b (cnS b item))
  have Hh := Lib.hid (fun i (hil : i < b.its.length) A2 (i2 : IntsAt w.heap.size w A2 b.its[i].2) => has_at hv hil i2)
  have Hl := Lib.hid hs.2.2.1
  have H0 := Lib.hid (show bsN b (cnS b item) 0 = 0 from rfl)
  generalize bsS b item = S at Hall ⊢
  generalize bsN b (cnS b item) = N at Hall Hlt Hsu H0
  generalize cnS b item = C at cin Hsu
  clear h hw0 hb0 hbm hs1 hz hv hB hsz hw1 hk1 hs hi
  subst hW0
  go_enter Tryd.func74, Tryd.ntmps74
  go_wp2_with (go_at_call 71; refine cin.out.mono ?_; rintro e w1 ⟨rfl, hbin, hd1⟩)
  have HI := Lib.hid hbin
  have HBo := Lib.hid (HB0.out.below hd1 (Nat.lt_succ_self _))
  have HKo := Lib.hid (HK.out.below hd1 (Nat.lt_succ_of_lt (Nat.lt_succ_self _)))
  have Hbo := Lib.hid (Hw.out.trans (hd1.mono (show w.heap.size ≤ w.heap.size + 1 + 1 by omega)))
  clear hbin hd1 HB0 HK Hw x0 z0 z1 z2 hg1
  go_loopw [7] (fun s7 wr => ∃ i : Nat, i ≤ b.its.length ∧ s7 = .int .i64 i ∧ Aside (BB (w.heap.size + 1) b.p.toNat (N i) wr) ∧ Aside (BB (w.heap.size + 1 + 1 + 1) b.its.length C wr) ∧ Below w.heap.size w wr ∧ Aside (Blk wr w.heap.size 25 #[.int .i64 b.p, .slice AI b.its.length cI, .slice AR b.rus.length cR])) (fun s7 _ => b.its.length - (intOf s7).toNat)
  case atStart => exact ⟨0, Nat.zero_le _, rfl, by rw [H0.out]; exact HBo.out, HI.out, Hbo.out, HKo.out⟩
  case round =>
    clear HI HBo HKo Hbo
    obtain ⟨i, hik, rfl, hbb, hbi, hb, hblk⟩ := hrel
    by_cases hil : i < b.its.length
    · obtain ⟨bb, off, A1, c1, A2, c2, rfl, hbB, _, e1, _, i2⟩ := H.out i hil
      obtain ⟨i2', hlen, hpl⟩ := Hh.out i hil A2 i2
      have hl40 := (Hl.out b.its[i] (List.getElem_mem hil)).2
      have HBB := Lib.hid hbb.out
      have HBI := Lib.hid hbi.out
      have HBK := Lib.hid hblk.out
      have Hb := Lib.hid hb
      have Hs := Lib.hid (Hsu.out i)
      have Hli := Lib.hid (Hlt.out i (by omega))
      rw [hlen] at e1 hl40
      clear hbb hbi hblk hb i2 hlen
      generalize hasL b i = L at i2' e1 hpl Hs hl40
      generalize N i = m at HBB Hs Hli
      obtain ⟨W1, hW1⟩ : ∃ W1, W1 = wr := ⟨_, rfl⟩
      subst hW1
      go_wp2_with fail
      go_loopw [8] (fun s8 wy => ∃ j : Nat, j ≤ L.length ∧ s8 = .int .i64 j ∧ Aside (C.testBit i = false → j = 0) ∧ Aside (BB (w.heap.size + 1) b.p.toNat (m ||| mkTo L j) wy) ∧ Aside (BB (w.heap.size + 1 + 1 + 1) b.its.length C wy) ∧ Below w.heap.size w wy ∧ Aside (Blk wy w.heap.size 25 #[.int .i64 b.p, .slice (some ⟨bb, off, none⟩) b.its.length cI, .slice AR b.rus.length cR])) (fun s8 _ => L.length - (intOf s8).toNat)
      case atStart => exact ⟨0, Nat.zero_le _, rfl, fun _ => rfl, by rw [mkTo_zero, Nat.or_zero]; exact HBB.out, HBI.out, Hb.out, HBK.out⟩
      case round =>
        obtain ⟨j, hj, rfl, hz, hbb, hbi, hb, hblk⟩ := hrel
        have z1 := hblk.out.cell 1
        have d1 := (hb.cell (p := ⟨bb, off + i * 2 + 1, none⟩) hbB).trans e1
        have b0 := hbi.out.cell hil
        have HBy := Lib.hid hbb.out
        have HIy := Lib.hid hbi.out
        have HKy := Lib.hid hblk.out
        have Hby := Lib.hid hb
        have Hz := Lib.hid hz.out
        clear hz hbb hbi hblk hb Hb HBB HBI HBK
        by_cases hjl : j < L.length
        · cases hbit : C.testBit i with
          | false =>
            have hj0 := Hz.out hbit
            subst hj0
            rw [hbit] at b0 Hs
            rw [mkTo_zero, Nat.or_zero] at HBy
            clear hbit Hz
            have jd : decide ((0 : Int) < (L.length : Int)) = true := by simp; omega
            go_wp2_with fail
            go_roundw
            case rel => exact ⟨i + 1, by omega, by go_num, by rw [Hs.out]; exact HBy.out, HIy.out, Hby.out, HKy.out⟩
            case measure => simp [intOf]; omega
          | true =>
            rw [hbit] at b0
            obtain ⟨b3, o3, rfl, hb3, c3⟩ := i2'.at (k := j) (by simp [intL]; omega)
            have e3 : (intL L)[j]'(by simp [intL]; omega) = ((L[j] : Nat) : Int) := by simp [intL]
            rw [e3] at c3
            have c3' := (Hby.out.cell (p := ⟨b3, o3 + j, none⟩) hb3).trans c3
            have hq := hpl L[j] (List.getElem_mem hjl)
            have hqm : ((L[j] : Nat) : Int) < max b.p 0 := by omega
            have y0 := HBy.out.cell hq
            have y1 := HBy.out.frozen L[j]
            have Hs2 := Lib.hid (mkTo_succ hjl)
            have hjd : decide ((j : Int) < (L.length : Int)) = true := by simp; omega
            clear c3 e3
            generalize L[j] = q at c3' hq hqm y0 y1 Hs2
            have HBp := Lib.hid (HBy.out.put q)
            rw [Nat.or_assoc] at HBp
            go_wp2_with fail
            go_roundw
            case rel => exact ⟨j + 1, by omega, by go_num, fun h => absurd h (by decide), by rw [Hs2.out]; exact HBp.out, HIy.out.far (show w.heap.size + 1 + 1 + 1 ≠ w.heap.size + 1 by omega) _, below_put Hby.out (Nat.le_succ _) _ _, HKy.out.far (show w.heap.size ≠ w.heap.size + 1 by omega) _⟩
            case measure => simp [intOf]; omega
        · obtain rfl : j = L.length := by omega
          have Ha := Lib.hid (mkTo_all L)
          have hjd : decide ((L.length : Int) < (L.length : Int)) = false := by simp
          clear b0
          go_wp2_with fail
          go_roundw
          case rel =>
            refine ⟨i + 1, by omega, by go_num, ?_, HIy.out, Hby.out, HKy.out⟩
            have hb9 : BB (w.heap.size + 1) b.p.toNat (m ||| mkTo L L.length) _ := HBy.out
            rw [Ha.out] at hb9
            rw [Hs.out]
            cases hbit : C.testBit i with
            | true => exact (show BB (w.heap.size + 1) b.p.toNat (if true = true then m ||| mk L else m) _ by simpa using hb9)
            | false =>
              have h0 := Hz.out hbit
              have hl0 : mk L = 0 := by rw [← Ha.out, h0, mkTo_zero]
              rw [hl0, Nat.or_zero] at hb9
              exact (show BB (w.heap.size + 1) b.p.toNat (if false = true then m ||| mk L else m) _ by simpa using hb9)
          case measure => simp [intOf]; omega
    · obtain rfl : i = b.its.length := by omega
      have HBB := Lib.hid hbb.out
      rw [Hall.out] at HBB
      clear hbb hbi hblk
      go_wp2_with fail
      go_ret
      exact ⟨by rfl, HBB.out, hb⟩
end Go.Proofs.YtgoojcjfhghmgaaDoor
