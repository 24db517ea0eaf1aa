/- Sorted, the reference's. -/
import Derived.Test.YtoegemlpboeodaaKitH
namespace Go.Proofs.Ytoegemlpboeodaa
open Go.RowKit

/-- Every batch of the first k may come ahead of all behind it. -/
def SrtF (b : List Bt) (k : Nat) : Prop := ∀ i j, i < k → i < j → j < b.length → befB (b[i]?.getD (0, 0)) (b[j]?.getD (0, 0)) = true
/-- Batch k may come ahead of those behind it up to place j. -/
def BefF (b : List Bt) (k j : Nat) : Prop := ∀ i, k < i → i < j → befB (b[k]?.getD (0, 0)) (b[i]?.getD (0, 0)) = true
theorem BefF.succ {b : List Bt} {k j : Nat} (h : BefF b k j) (hj : befB (b[k]?.getD (0, 0)) (b[j]?.getD (0, 0)) = true) : BefF b k (j + 1) := fun i hk hi => by
  rcases Nat.lt_succ_iff_lt_or_eq.1 hi with h1 | rfl
  · exact h i hk h1
  · exact hj
theorem SrtF.succ {b : List Bt} {k j : Nat} (h : SrtF b k) (hj : b.length ≤ j) (hb : BefF b k j) : SrtF b (k + 1) := fun i i' hi hii hi' => by
  rcases Nat.lt_succ_iff_lt_or_eq.1 hi with h1 | rfl
  · exact h i i' h1 hii hi'
  · exact hb i' hii (by omega)
theorem srtF_good {l : List Bt} {o : List Int} {k : Nat} (hx : exB l o = 0) (hk : o.length ≤ k) (h : SrtF (bts l o) k) : srtR l o = true := by
  unfold srtR
  rw [decide_eq_true_eq]
  refine ⟨hx, ?_⟩
  unfold Srt
  rw [List.pairwise_iff_getElem]
  intro i j hi hj hij
  have := h i j (by rw [bts_length] at hi; omega) hij hj
  simpa [hi, hj] using this

set_option maxRecDepth 100000 in
set_option maxHeartbeats 2000000 in
theorem Sorted_ref (A A' : Option Addr) (c c' B : Nat) (l : List Bt) (o : List Int) (w : World) (hB : B ≤ w.heap.size) (h : PairsAt B w A l) (h' : IntsAt B w A' o) (hm : l.length ≤ 1000) (hm' : o.length ≤ 1000) :
    Calls Try.prog 51 #[.slice A l.length c, .slice A' o.length c'] w fun e w' => e = .returned (.tuple #[.bool (srtR l o), .int .i64 (exB l o)]) ∧ Below w.heap.size w w' := by
  have ce := Lib.hid (ordered_ref A A' c c' B l o w h h' hm hm')
  by_cases hx : exB l o = 0
  · obtain ⟨hv, hp⟩ := exB_zero hx
    have Hx := Lib.hid hx
    rw [hx] at ce
    clear hx
    go_enter Try.func51, Try.ntmps51
    go_wp2_with (first | (go_at_call 62; refine ce.out.mono ?_; rintro e w1 ⟨rfl, rfl⟩))
    go_loopw [7] (fun i wr => ∃ k : Nat, k ≤ o.length ∧ i = .int .i64 k ∧ SrtF (bts l o) k ∧ Below w.heap.size w wr) (fun i _ => o.length - (intOf i).toNat)
    case atStart => exact ⟨0, Nat.zero_le _, rfl, fun i j hi => by omega, Below.refl _ _⟩
    case round =>
      obtain ⟨k, hk, rfl, hst, hbO⟩ := hrel
      obtain ⟨wo, rfl⟩ : ∃ wo : World, wo = wr := ⟨_, rfl⟩
      by_cases hlt : k < o.length
      · obtain ⟨m, b, off, b', off', hmk, hml, rfl, rfl, hbB, hbB', c0, c1, c2⟩ := ord_cells h h' hp hlt
        have Hgk := Lib.hid (bts_at l o hlt)
        have Hmk := Lib.hid hmk
        clear hmk c0 c1 c2
        go_wp2_with fail
        go_loopw [8] (fun i wr => ∃ j : Nat, k < j ∧ j ≤ o.length ∧ i = .int .i64 j ∧ BefF (bts l o) k j ∧ Below w.heap.size w wr) (fun i _ => o.length - (intOf i).toNat)
        case atStart => exact ⟨k + 1, by omega, by omega, by go_num, fun i hi hj => by omega, hbO⟩
        case round =>
          obtain ⟨j, hkj, hj, rfl, hbf, hb⟩ := hrel
          by_cases hltj : j < o.length
          · obtain ⟨m2, b2, off2, b2', off2', hmj, hml2, e1, e2, hbB2, hbB2', c0, c1, c2⟩ := ord_cells h h' hp hltj
            obtain ⟨rfl, rfl⟩ : b = b2 ∧ off = off2 := by injection e1 with e1; injection e1 with e3 e4; exact ⟨e3, e4⟩
            obtain ⟨rfl, rfl⟩ : b' = b2' ∧ off' = off2' := by injection e2 with e2; injection e2 with e3 e4; exact ⟨e3, e4⟩
            obtain ⟨m3, b3, off3, b3', off3', hmk3, hml3, e3, e4', hbB3, hbB3', y0, y1, y2⟩ := ord_cells h h' hp hlt
            obtain ⟨rfl, rfl⟩ : b = b3 ∧ off = off3 := by injection e3 with e3; injection e3 with e4 e5; exact ⟨e4, e5⟩
            obtain ⟨rfl, rfl⟩ : b' = b3' ∧ off' = off3' := by injection e4' with e2; injection e2 with e3 e4; exact ⟨e3, e4⟩
            obtain rfl : m = m3 := by have := Hmk.out; omega
            have f0 := (hb.cell (p := ⟨b', off' + j, none⟩) (by simp; omega)).trans c0
            have g0 := (hb.cell (p := ⟨b', off' + k, none⟩) (by simp; omega)).trans y0
            have f1 := (hb.cell (p := ⟨b, off + m2 * 2, none⟩) (by simp; omega)).trans c1
            have f2 := (hb.cell (p := ⟨b, off + m2 * 2 + 1, none⟩) (by simp; omega)).trans c2
            have g1 := (hb.cell (p := ⟨b, off + m * 2, none⟩) (by simp; omega)).trans y1
            have g2 := (hb.cell (p := ⟨b, off + m * 2 + 1, none⟩) (by simp; omega)).trans y2
            have i0 : (0 : Int) ≤ (m : Int) := by omega
            have i1 : (m : Int) < (l.length : Int) := by omega
            have i2 : (0 : Int) ≤ (m2 : Int) := by omega
            have i3 : (m2 : Int) < (l.length : Int) := by omega
            have i4 : (0 : Int) ≤ (k : Int) := by omega
            have i5 : (k : Int) < (o.length : Int) := by omega
            have i6 : (0 : Int) ≤ (j : Int) := by omega
            have i7 : (j : Int) < (o.length : Int) := by omega
            have Hgj := Lib.hid (bts_at l o hltj)
            have Hbad := Lib.hid (fun hf => srt_bad (l := l) hkj hltj hf)
            generalize hxj : bt l o[j] = xj at f1 f2 Hgj Hbad
            generalize hxk : bt l o[k] = xk at g1 g2 Hgk Hbad
            clear c0 c1 c2 y0 y1 y2 hmj hmk3 e1 e2 e3 e4' hxj hxk hbB3 hbB3'
            go_wp2_with fail
            go_still_tail 14, (by kernel_rfl)
            change wpList _ _ _ _ _ wr.drew
            have hbd := hb.drew
            generalize hW1 : wr.drew = W1 at hbd ⊢
            cases hq : befB (xk.1, xk.2) (xj.1, xj.2)
            · have hbad := Lib.hid (Hbad.out hq)
              go_wp2_with (go_at_call 20; refine (before_ref _ _ _ _ _).mono ?_; rintro e w3 ⟨rfl, rfl⟩)
              go_ret2
              exact ⟨by rw [hbad.out, Hx.out]; rfl, (hbd.alloc hbd.size _).alloc (by have := hbd.size; simp; omega) _⟩
            · have hgood := Lib.hid (hbf.succ (by rw [Hgj.out, Hgk.out]; exact hq))
              go_wp2_with (go_at_call 20; refine (before_ref _ _ _ _ _).mono ?_; rintro e w3 ⟨rfl, rfl⟩)
              go_roundw
              case rel => exact ⟨j + 1, by omega, by omega, by go_num, hgood.out, (hbd.alloc hbd.size _).alloc (by have := hbd.size; simp; omega) _⟩
              case measure => simp [intOf]; omega
          · obtain rfl : j = o.length := by omega
            have hs := Lib.hid (hst.succ (by rw [bts_length]; exact Nat.le_refl _) hbf)
            go_wp2_with fail
            go_roundw
            case rel => exact ⟨k + 1, by omega, by go_num, hs.out, hb⟩
            case measure => simp [intOf]; omega
      · obtain rfl : k = o.length := by omega
        have hs := Lib.hid (srtF_good Hx.out (Nat.le_refl _) hst)
        go_wp2_with fail
        go_ret2
        exact ⟨by rw [hs.out, Hx.out]; rfl, hbO⟩
  · have Hr := Lib.hid (show srtR l o = false by simp [srtR, hx])
    clear h h'
    have hne : (exB l o == 0) = false := by simpa using hx
    generalize exB l o = e0 at ce hx hne ⊢
    clear hx
    go_enter Try.func51, Try.ntmps51
    go_wp2_with (first | (go_at_call 62; refine ce.out.mono ?_; rintro e w1 ⟨rfl, rfl⟩))
    go_ret2
    exact ⟨by rw [Hr.out]; rfl, Below.refl _ _⟩
end Go.Proofs.Ytoegemlpboeodaa
