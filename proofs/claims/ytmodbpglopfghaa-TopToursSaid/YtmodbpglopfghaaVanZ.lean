/- The reference's smallest length. -/
import Derived.Test.YtmodbpglopfghaaVanY
import Derived.Test.YtmodbpglopfghaaVanAb
set_option linter.unusedSimpArgs false
set_option linter.unusedVariables false
namespace Go.Proofs.Ytmodbpglopfghaa
open Go.RowKit

/-- The least of the first k tours. -/
def MinS (f : Nat → Nat → Int) (os : List (List Int)) (k : Nat) (z : Int) : Prop := (∀ j (hj : j < os.length), j < k → z ≤ lenF f 0 (toN os[j])) ∧ ∃ j, ∃ (hj : j < os.length), j < k ∧ z = lenF f 0 (toN os[j])
theorem MinS.step {f : Nat → Nat → Int} {os : List (List Int)} {k : Nat} {z : Int} (h : MinS f os k z) (hk : k < os.length) : MinS f os (k + 1) (min z (lenF f 0 (toN os[k]))) := by
  refine ⟨fun j hj hjk => ?_, ?_⟩
  · by_cases e : j = k
    · subst e; exact Int.min_le_right _ _
    · exact Int.le_trans (Int.min_le_left _ _) (h.1 j hj (by omega))
  · obtain ⟨j, hj, hjk, e⟩ := h.2
    by_cases hc : z ≤ lenF f 0 (toN os[k])
    · exact ⟨j, hj, by omega, by rw [Int.min_eq_left hc]; exact e⟩
    · exact ⟨k, hk, by omega, by rw [Int.min_eq_right (by omega)]⟩
theorem MinS.one {f : Nat → Nat → Int} {os : List (List Int)} (h : 0 < os.length) : MinS f os 1 (lenF f 0 (toN os[0])) :=
  ⟨fun j hj hj1 => by
    obtain rfl : j = 0 := by omega
    exact Int.le_refl _, 0, h, by omega, rfl⟩
theorem MinS.short {n : Nat} {f : Nat → Nat → Int} {z : Int} (hn : 1 ≤ n) (h : MinS f (trS n) (trS n).length z) : IsShort n f z := by
  constructor
  · intro t ht
    obtain ⟨j, hj, e⟩ := List.mem_iff_getElem.1 (tour_trS hn ht)
    have := h.1 j hj hj
    rw [e, intL_toN] at this
    exact this
  · obtain ⟨j, hj, _, e⟩ := h.2
    obtain ⟨t, ht, e2⟩ := trS_tour hn (List.getElem_mem hj)
    refine ⟨t, ht, ?_⟩
    rw [e, e2, intL_toN]

set_option maxRecDepth 100000 in
set_option maxHeartbeats 1000000 in
theorem Shortest_ref (A : Option Addr) (c B : Nat) (rows : List (List Int)) (w : World) (hB : B ≤ w.heap.size) (h : TblAt B w A rows) (hl : rows.length ≤ 30 ∧ ∀ r ∈ rows, r.length ≤ 30) :
    Calls Try.prog 26 #[.slice A rows.length c] w fun e w' => ∃ z, e = .returned (.tuple #[.int .i64 z, .int .i64 (vwR rows)]) ∧ ShortR rows z ∧ Below w.heap.size w w' := by
  have cv := Lib.hid (Validate_ref A c B rows w hB h hl)
  by_cases hv : VW rows
  · rw [vw_ok hv] at cv ⊢
    obtain ⟨b, off, rfl, hwa⟩ := WaAt.of_tbl h hv
    have hn0 := hv.n0
    have hn7 := hv.n1
    have hwa2 := hwa.below (Below.refl _ _) hB
    have ct := Lib.hid (fun W => tours_ref (some ⟨b, off, none⟩) rows.length c W hn0 hn7)
    have hlen : ∀ (A2 : Option Addr) (c2 : Nat) (o : List Int) (W : World), Below w.heap.size w W → o ∈ trS rows.length → IntsAt W.heap.size W A2 o → Calls Try.prog 63 #[.slice (some ⟨b, off, none⟩) rows.length c, .slice A2 (rows.length - 1) c2] W fun e w' => e = .returned (.int .i64 (lenF (wy rows) 0 (toN o))) ∧ Below W.heap.size W w' := fun A2 c2 o W hW ho hI => by
      obtain ⟨t, ht, rfl⟩ := trS_tour hn0 ho
      have := length_ref b off rows.length c c2 W.heap.size (wy rows) A2 t W (Nat.le_refl _) (hwa2.below hW hW.size) hv.bd hI (fun x hx => (ht.1.2 x hx).2) hn0 (by rw [ht.2]; omega)
      rw [ht.2] at this
      rw [intL_toN]
      exact this
    have HLn := Lib.hid hlen
    have hbz : ∀ o ∈ trS rows.length, 0 ≤ lenF (wy rows) 0 (toN o) ∧ lenF (wy rows) 0 (toN o) ≤ 8000 := fun o ho => by
      obtain ⟨t, ht, rfl⟩ := trS_tour hn0 ho
      rw [intL_toN, lnT_all]
      have h1 := lnT_bd hv.bd (fun x hx => (ht.1.2 x hx).2) hn0 t.length (Nat.le_refl _)
      have h2 := hv.bd _ 0 (atT_lt (fun x hx => (ht.1.2 x hx).2) hn0 t.length) hn0
      have h3 := ht.2
      omega
    have HBz := Lib.hid hbz
    have HS := Lib.hid (show ∀ z, MinS (wy rows) (trS rows.length) (trS rows.length).length z → 0 ≤ z → z ≤ 8000 → ShortR rows z from fun z h1 h2 h3 => ⟨fun _ => ⟨h1.short hn0, h2, h3⟩, fun h => absurd hv h⟩)
    have hpos : 0 < (trS rows.length).length := by rw [trS_length]; exact ordS_pos _
    have hol : ∀ o ∈ trS rows.length, o.length = rows.length - 1 := fun o ho => by
      obtain ⟨t, ht, rfl⟩ := trS_tour hn0 ho
      rw [intL_length, ht.2]
    have HOl := Lib.hid hol
    have hbd2 : (trS rows.length).length ≤ 5040 := by rw [trS_length]; exact ordS_bd (by omega)
    clear h hl hv hwa hwa2 hlen hbz hol
    generalize trS rows.length = os at *
    go_enter Try.func26, Try.ntmps26
    have tok := Lib.hid (Nat.le_refl 0)
    go_wp2_with (first
      | (go_at_call 31; refine cv.out.mono ?_; rintro e w1 ⟨rfl, hb1⟩)
      | (go_at_call 62; refine (ct.out _).mono ?_; rintro e w2 ⟨A0, c0, vs, rfl, hown, hR, hb2⟩; have HB2 := Lib.hid (hb1.trans (hb2.mono hb1.size)); obtain ⟨A1, c1, hv1, hw1, _⟩ := hR.2.1 0 hpos; have hI1 := IntsAt.of_own hw1; have hl0 := HOl.out _ (List.getElem_mem hpos); rw [hl0] at hv1; obtain ⟨g0, rfl, hg0, _, hcell⟩ := own_cell hown hpos hv1; have CL0 := Lib.hid (HLn.out A1 c1 _ w2 HB2.out (List.getElem_mem hpos) hI1); clear hI1 hw1)
      | (go_at_call 63; have tk := tok; clear tok; refine CL0.out.mono ?_; rintro e w3 ⟨rfl, hb3⟩))
    have HR := Lib.hid hR
    have HO := Lib.hid hown
    have hb0 := HBz.out _ (List.getElem_mem hpos)
    have HM := Lib.hid (MinS.one (f := wy rows) hpos)
    generalize lenF (wy rows) 0 (toN os[0]) = z0 at hb0 HM ⊢
    clear hR hown hv1
    have Hb3 := Lib.hid hb3
    clear hb3 hb2
    go_loopw [6, 7] (fun vz vk wr => ∃ (k : Nat) (z : Int), 1 ≤ k ∧ k ≤ os.length ∧ vk = .int .i64 k ∧ vz = .int .i64 z ∧ (0 ≤ z ∧ z ≤ 8000) ∧ Aside (MinS (wy rows) os k z) ∧ Below w2.heap.size w2 wr) (fun _ vk _ => os.length - (intOf vk).toNat)
    case atStart => exact ⟨1, z0, Nat.le_refl _, hpos, rfl, rfl, hb0, HM.out, Hb3.out⟩
    case round =>
      clear HM
      obtain ⟨k, z, hk1, hk, rfl, rfl, hz, hM, hbr⟩ := hrel
      have HM := Lib.hid hM.out
      have HBr := Lib.hid hbr
      clear hM hbr
      by_cases hlt : k < os.length
      · obtain ⟨A2, c2, hv2, hw2, _⟩ := HR.out.2.1 k hlt
        have hl2 := HOl.out _ (List.getElem_mem hlt)
        rw [hl2] at hv2
        obtain ⟨g', e', _, _, hc2⟩ := own_cell HO.out hlt hv2
        injection e' with e'
        injection e' with e'
        subst e'
        have d0 := (HBr.out.cell (p := ⟨g0, k, none⟩) hg0).trans hc2
        have hI2 := (IntsAt.of_own hw2).below HBr.out HBr.out.size
        have CL := Lib.hid (HLn.out A2 c2 _ wr (HB2.out.trans (HBr.out.mono HB2.out.size)) (List.getElem_mem hlt) hI2)
        have hbk := HBz.out _ (List.getElem_mem hlt)
        have HM2 := Lib.hid (HM.out.step hlt)
        have hmn : 0 ≤ min z (lenF (wy rows) 0 (toN os[k])) ∧ min z (lenF (wy rows) 0 (toN os[k])) ≤ 8000 := by omega
        generalize lenF (wy rows) 0 (toN os[k]) = y at CL HM2 hmn
        clear hw2 hv2 hI2 hc2 hl2 hbk
        go_wp2_with (go_at_call 63; refine CL.out.mono ?_; rintro e w4 ⟨rfl, hb4⟩)
        go_roundw
        case rel => exact ⟨k + 1, _, by omega, by omega, by go_num, rfl, hmn, HM2.out, HBr.out.trans (hb4.mono HBr.out.size)⟩
        case measure => simp [intOf]; omega
      · obtain rfl : k = os.length := by omega
        go_wp2_with fail
        go_ret2
        exact ⟨z, rfl, HS.out z HM.out hz.1 hz.2, HB2.out.trans (HBr.out.mono HB2.out.size)⟩
  · have hne : (vwR rows != 0) = true := by simpa using vw_ne hv
    have hne2 : (vwR rows == 0) = false := by simpa using vw_ne hv
    have HV := Lib.hid hv
    generalize vwR rows = e0 at cv hne hne2 ⊢
    clear h hl hv
    go_enter Try.func26, Try.ntmps26
    go_wp2_with (go_at_call 31; refine cv.out.mono ?_; rintro e w1 ⟨rfl, hb1⟩)
    go_ret2
    exact ⟨0, rfl, ⟨fun h => absurd h HV.out, fun _ => rfl⟩, hb1⟩
end Go.Proofs.Ytmodbpglopfghaa
