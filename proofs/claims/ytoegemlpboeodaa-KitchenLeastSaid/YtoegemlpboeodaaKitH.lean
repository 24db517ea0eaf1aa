/- Sorted, the program's and the reference's. -/
import Derived.Test.YtoegemlpboeodaaLawB
import Derived.Test.YtoegemlpboeodaaKitD
import Derived.StillTailTactics
namespace Go.Proofs.Ytoegemlpboeodaa
open Go.RowKit

/-- Every two batches may come as they do. -/
def Srt (b : List Bt) : Prop := b.Pairwise fun x y => befB x y = true
instance (b : List Bt) : Decidable (Srt b) := by unfold Srt; exact inferInstance
def srtR (l : List Bt) (o : List Int) : Bool := decide (exB l o = 0 ∧ Srt (bts l o))
/-- The first k batches are sorted. -/
def SrtTo (b : List Bt) (k : Nat) : Prop := Srt (b.take k)
/-- The first j of them may come ahead of batch k. -/
def BefTo (b : List Bt) (k j : Nat) : Prop := ∀ i, i < j → befB (b[i]?.getD (0, 0)) (b[k]?.getD (0, 0)) = true
theorem BefTo.succ {b : List Bt} {k j : Nat} (h : BefTo b k j) (hj : befB (b[j]?.getD (0, 0)) (b[k]?.getD (0, 0)) = true) : BefTo b k (j + 1) := fun i hi => by
  rcases Nat.lt_succ_iff_lt_or_eq.1 hi with h1 | rfl
  · exact h i h1
  · exact hj
theorem SrtTo.succ {b : List Bt} {k : Nat} (h : SrtTo b k) (hk : k < b.length) (hb : BefTo b k k) : SrtTo b (k + 1) := by
  unfold SrtTo Srt at h ⊢
  rw [List.take_succ_eq_append_getElem hk, List.pairwise_append]
  refine ⟨h, by simp, fun x hx y hy => ?_⟩
  obtain ⟨i, hi, rfl⟩ := List.mem_iff_getElem.1 hx
  simp at hi hy
  subst hy
  have := hb i (by omega)
  simpa [show i < b.length by omega, hk] using this
theorem srt_bad {l : List Bt} {o : List Int} {i k : Nat} (hik : i < k) (hk : k < o.length) (h : befB (bt l (o[i]'(by omega))) (bt l o[k]) = false) : srtR l o = false := by
  unfold srtR
  rw [decide_eq_false_iff_not]
  rintro ⟨_, hs⟩
  unfold Srt at hs
  rw [List.pairwise_iff_getElem] at hs
  have := hs i k (by rw [bts_length]; omega) (by rw [bts_length]; omega) hik
  simp [bts] at this
  rw [h] at this; cases this
theorem srt_good {l : List Bt} {o : List Int} (hx : exB l o = 0) (h : SrtTo (bts l o) o.length) : srtR l o = true := by
  unfold srtR
  rw [decide_eq_true_eq]
  refine ⟨hx, ?_⟩
  unfold SrtTo at h
  rwa [← bts_length l o, List.take_length] at h
theorem bts_at (l : List Bt) (o : List Int) {k : Nat} (hk : k < o.length) : (bts l o)[k]?.getD (0, 0) = bt l o[k] := by simp [bts, hk]

set_option maxRecDepth 100000 in
set_option maxHeartbeats 2000000 in
theorem Sorted_any (A A' : Option Addr) (c c' B : Nat) (l : List Bt) (o : List Int) (w : World) (hB : B ≤ w.heap.size) (h : PairsAt B w A l) (h' : IntsAt B w A' o) (hm : l.length ≤ 1000) (hm' : o.length ≤ 1000) (hcap : o.length ≤ c') (hcap2 : c' ≤ 9223372036854775807) :
    Calls Try.prog 50 #[.slice A l.length c, .slice A' o.length c'] w fun e w' => e = .returned (.tuple #[.bool (srtR l o), .int .i64 (exB l o)]) ∧ Below w.heap.size w w' := by
  have ce := Lib.hid (examine_any A A' c c' B l o w hB h h' hm hm')
  by_cases hx : exB l o = 0
  · obtain ⟨hv, hp⟩ := exB_zero hx
    have Hx := Lib.hid hx
    rw [hx] at ce
    clear hx
    go_enter Try.func50, Try.ntmps50
    go_wp2_with (first | (go_at_call 57; refine ce.out.mono ?_; rintro e w1 ⟨rfl, hb1⟩))
    go_loopw [19] (fun i wr => ∃ k : Nat, k ≤ o.length ∧ i = .int .i64 k ∧ SrtTo (bts l o) k ∧ Below w.heap.size w wr) (fun i _ => o.length - (intOf i).toNat)
    case atStart => exact ⟨0, Nat.zero_le _, rfl, by simp [SrtTo, Srt], hb1⟩
    case round =>
      obtain ⟨k, hk, rfl, hst, hbO⟩ := hrel
      obtain ⟨wo, rfl⟩ : ∃ wo : World, wo = wr := ⟨_, rfl⟩
      by_cases hlt : k < o.length
      · obtain ⟨m, b, off, b', off', hmk, hml, rfl, rfl, hbB, hbB', c0, c1, c2⟩ := ord_cells h h' hp hlt
        have d0 := (hbO.cell (p := ⟨b', off' + k, none⟩) (by simp; omega)).trans c0
        have hkc : k ≤ c' := by omega
        have Hgk := Lib.hid (bts_at l o hlt)
        have Hmk := Lib.hid hmk
        clear hmk c0 c1 c2
        go_wp2_with fail
        go_loopw [28] (fun i wr => ∃ j : Nat, j ≤ k ∧ i = .int .i64 j ∧ BefTo (bts l o) k j ∧ Below w.heap.size w wr) (fun i _ => k - (intOf i).toNat)
        case atStart => exact ⟨0, Nat.zero_le _, rfl, fun i hi => by omega, hbO⟩
        case round =>
          obtain ⟨j, hj, rfl, hbf, hb⟩ := hrel
          by_cases hltj : j < k
          · have hjo : j < o.length := by omega
            obtain ⟨m2, b2, off2, b2', off2', hmj, hml2, e1, e2, hbB2, hbB2', c0, c1, c2⟩ := ord_cells h h' hp hjo
            obtain ⟨rfl, rfl⟩ : b = b2 ∧ off = off2 := by injection e1 with e1; injection e1 with e3 e4; exact ⟨e3, e4⟩
            obtain ⟨rfl, rfl⟩ : b' = b2' ∧ off' = off2' := by injection e2 with e2; injection e2 with e3 e4; exact ⟨e3, e4⟩
            obtain ⟨m3, b3, off3, b3', off3', hmk3, hml3, e3, e4', hbB3, hbB3', y0, y1, y2⟩ := ord_cells h h' hp hlt
            clear e4' y0 hbB3 hbB3'
            obtain ⟨rfl, rfl⟩ : b = b3 ∧ off = off3 := by injection e3 with e3; injection e3 with e4 e5; exact ⟨e4, e5⟩
            obtain rfl : m = m3 := by have := Hmk.out; omega
            have f0 := (hb.cell (p := ⟨b', off' + j, none⟩) (by simp; omega)).trans c0
            have f1 := (hb.cell (p := ⟨b, off + m2 * 2, none⟩) (by simp; omega)).trans c1
            have f2 := (hb.cell (p := ⟨b, off + m2 * 2 + 1, none⟩) (by simp; omega)).trans c2
            have g1 := (hb.cell (p := ⟨b, off + m * 2, none⟩) (by simp; omega)).trans y1
            have g2 := (hb.cell (p := ⟨b, off + m * 2 + 1, none⟩) (by simp; omega)).trans y2
            have i0 : (0 : Int) ≤ (m : Int) := by omega
            have i1 : (m : Int) < (l.length : Int) := by omega
            have i2 : (0 : Int) ≤ (m2 : Int) := by omega
            have i3 : (m2 : Int) < (l.length : Int) := by omega
            have Hgj := Lib.hid (bts_at l o hjo)
            have Hbad := Lib.hid (fun hf => srt_bad (l := l) hltj hlt hf)
            generalize hxj : bt l o[j] = xj at f1 f2 Hgj Hbad
            generalize hxk : bt l o[k] = xk at g1 g2 Hgk Hbad
            clear c0 c1 c2 y1 y2 hmj hmk3 e1 e2 e3 hxj hxk
            go_wp2_with fail
            go_still_tail 8, (by kernel_rfl)
            change wpList _ _ _ _ _ wr.drew
            have hbd := hb.drew
            generalize hW1 : wr.drew = W1 at hbd ⊢
            cases hq : befB (xj.1, xj.2) (xk.1, xk.2)
            · have hbad := Lib.hid (Hbad.out hq)
              go_wp2_with (go_at_call 19; refine (before_any _ _ _ _ _).mono ?_; rintro e w3 ⟨rfl, rfl⟩)
              go_ret2
              exact ⟨by rw [hbad.out, Hx.out]; rfl, (hbd.alloc hbd.size _).alloc (by have := hbd.size; simp; omega) _⟩
            · have hgood := Lib.hid (hbf.succ (by rw [Hgj.out, Hgk.out]; exact hq))
              go_wp2_with (go_at_call 19; refine (before_any _ _ _ _ _).mono ?_; rintro e w3 ⟨rfl, rfl⟩)
              go_roundw
              case rel => exact ⟨j + 1, by omega, by go_num, hgood.out, (hbd.alloc hbd.size _).alloc (by have := hbd.size; simp; omega) _⟩
              case measure => simp [intOf]; omega
          · obtain rfl : j = k := by omega
            have hs := Lib.hid (hst.succ (by rw [bts_length]; exact hlt) hbf)
            go_wp2_with fail
            go_roundw
            case rel => exact ⟨j + 1, by omega, by go_num, hs.out, hb⟩
            case measure => simp [intOf]; omega
      · obtain rfl : k = o.length := by omega
        have hs := Lib.hid (srt_good Hx.out hst)
        go_wp2_with fail
        go_ret2
        exact ⟨by rw [hs.out, Hx.out]; rfl, hbO⟩
  · have Hr := Lib.hid (show srtR l o = false by simp [srtR, hx])
    clear h h'
    have hne : (exB l o == 0) = false := by simpa using hx
    generalize exB l o = e0 at ce hx hne ⊢
    clear hx
    go_enter Try.func50, Try.ntmps50
    go_wp2_with (first | (go_at_call 57; refine ce.out.mono ?_; rintro e w1 ⟨rfl, hb1⟩))
    go_ret2
    exact ⟨by rw [Hr.out]; rfl, hb1⟩
end Go.Proofs.Ytoegemlpboeodaa
