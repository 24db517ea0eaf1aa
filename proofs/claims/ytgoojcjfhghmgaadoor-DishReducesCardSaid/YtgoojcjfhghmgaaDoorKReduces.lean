/- DishReduces returns true for every input, and its arguments read as they did; the library's tables start as its text lays them. -/
import Derived.Test.YtgoojcjfhghmgaaDoorMergeC
import Derived.Test.YtgoojcjfhghmgaaDoorMergeA
import Derived.Test.YtgoojcjfhghmgaaDoorDisEe
import Derived.Test.YtgoojcjfhghmgaaDoorDisZb
import Derived.Deep.RegionHeld3
import Derived.Test.YtgoojcjfhghmgaaDoorRows
import Derived.Test.YtgoojcjfhghmgaaDoorCards
import Derived.Test.YtgoojcjfhghmgaaDoorTie
import Derived.Test.YtgoojcjfhghmgaaDoorOpen
import Derived.Test.YtgoojcjfhghmgaaDoorOpen4
import Derived.Test.YtgoojcjfhghmgaaDoorOpenM
import Derived.Test.YtgoojcjfhghmgaaDoorOpen5
import Derived.Carry
import Derived.ShutString

set_option linter.unusedSimpArgs false
set_option linter.unusedVariables false
namespace Go.Proofs.YtgoojcjfhghmgaaDoor
open Go Go.RowKit

noncomputable def shB (l : List Ru) (x : Nat) : Bool := @decide (Shut l allW x) (Classical.propDecidable _)
theorem shB_iff {l : List Ru} {x : Nat} : shB l x = true ↔ Shut l allW x := by unfold shB; simp
/-- The number of closed sets below n. -/
noncomputable def cntS (l : List Ru) (n : Nat) : Nat := ((List.range n).filter (shB l)).length
theorem cntS_zero (l : List Ru) : cntS l 0 = 0 := rfl
theorem cntS_succ (l : List Ru) (n : Nat) : cntS l (n + 1) = cntS l n + if shB l n then 1 else 0 := by
  unfold cntS
  rw [List.range_succ, List.filter_append, List.length_append]
  congr 1
  cases h : shB l n <;> simp [h]
theorem cntS_le (l : List Ru) (n : Nat) : cntS l n ≤ n := by
  have := List.length_filter_le (shB l) (List.range n)
  simpa [cntS] using this
theorem cntS_congr {l m : List Ru} (h : ∀ y, Shut m allW y ↔ Shut l allW y) (n : Nat) : cntS m n = cntS l n := by
  unfold cntS
  have : shB m = shB l := by
    funext x
    rw [Bool.eq_iff_iff, shB_iff, shB_iff]
    exact h x
  rw [this]
theorem cl_self {l : List Ru} {k x : Nat} (h : Cl l k allW x) : x = k ↔ shB l k = true := by
  rw [shB_iff]
  constructor
  · rintro rfl; exact h.2
  · intro hs
    exact h.unique ⟨⟨fun _ h => h, fun y hy _ => hy⟩, hs⟩
theorem filt_eq {a b : Nat → Bool} : ∀ l : List Nat, (∀ i ∈ l, a i = true → b i = true) → (l.filter b).length = (l.filter a).length → ∀ i ∈ l, b i = a i
  | [], _, _, i, hi => by simp at hi
  | x :: l, h, hl, i, hi => by
    have hle : ∀ l : List Nat, (∀ i ∈ l, a i = true → b i = true) → (l.filter a).length ≤ (l.filter b).length := fun l => by
      induction l with
      | nil => intro _; simp
      | cons y l ih =>
        intro h
        have h1 := ih fun i hi => h i (List.mem_cons_of_mem y hi)
        have h2 := h y (by simp)
        cases ha : a y <;> cases hb : b y <;> simp [ha, hb] at * <;> omega
    have h1 := hle l fun i hi => h i (List.mem_cons_of_mem x hi)
    have h2 := h x (by simp)
    have key : b x = a x ∧ (l.filter b).length = (l.filter a).length := by
      cases ha : a x <;> cases hb : b x <;> simp [ha, hb] at * <;> omega
    rcases List.mem_cons.1 hi with rfl | hi
    · exact key.1
    · exact filt_eq l (fun i hi => h i (List.mem_cons_of_mem x hi)) key.2 i hi
theorem bl_len {k x p : Nat} (hk : k < 2 ^ p) (hx : x < 2 ^ p) (hp : p ≤ 10) (hs : Sub k x) : ((bl x).length = (bl k).length) ↔ x = k := by
  constructor
  · intro h
    rw [bl_filter hx (by omega), bl_filter hk (by omega)] at h
    refine bits_eq (fun q hq => ?_) hs
    by_cases e : q < p
    · have := filt_eq (a := k.testBit) (b := x.testBit) (List.range p) (fun i _ hi => hs i hi) h q (List.mem_range.2 e)
      rw [← this]; exact hq
    · rw [Nat.testBit_lt_two_pow (Nat.lt_of_lt_of_le hx (Nat.pow_le_pow_right (by decide) (by omega)))] at hq; cases hq
  · rintro rfl; rfl
noncomputable def cdR (b : Bk) : Nat := if vlR b = 0 then cntS b.rus (2 ^ b.p.toNat) else 0

set_option maxRecDepth 100000 in
set_option maxHeartbeats 4000000 in
theorem Closed_any (AI AR : Option Addr) (cI cR B : Nat) (b : Bk) (w : World) (hB : B ≤ w.heap.size) (h : ItsAt B w AI b.its) (h' : RusAt B w AR b.rus) (hs : Short b) :
    Calls Tryd.prog 49 #[.agg #[.int .i64 b.p, .slice AI b.its.length cI, .slice AR b.rus.length cR]] w fun e w' => e = .returned (.tuple #[.int .i64 (cdR b : Nat), .int .i64 (vlR b)]) ∧ Below w.heap.size w w' := by
  have hT := h.below (Below.refl _ _) hB
  have hT' := h'.below (Below.refl _ _) hB
  have cv := Lib.hid (fun W (hW : Below w.heap.size w W) => Validate_any AI AR cI cR w.heap.size b W hW.size (hT.below hW (Nat.le_refl _)) (hT'.below hW (Nat.le_refl _)) hs)
  have HB0 := Lib.hid (show Below w.heap.size w (w.alloc (.cells #[.int .i64 b.p, .slice AI b.its.length cI, .slice AR b.rus.length cR] 25)) from balloc (Below.refl _ _) _)
  have HK0 := Lib.hid (Blk.new w 25 #[.int .i64 b.p, .slice AI b.its.length cI, .slice AR b.rus.length cR])
  have HX := Lib.hid (fun W (hW : Below (w.alloc (.cells #[.int .i64 b.p, .slice AI b.its.length cI, .slice AR b.rus.length cR] 25)).heap.size (w.alloc (.cells #[.int .i64 b.p, .slice AI b.its.length cI, .slice AR b.rus.length cR] 25)) W) => blk3 (HK0.out.below hW HK0.out.lt))
  by_cases h0 : vlR b = 0
  · have hv := vl_zero h0
    have hc : cdR b = cntS b.rus (2 ^ b.p.toNat) := if_pos h0
    rw [h0] at cv ⊢
    rw [hc]
    obtain ⟨bp, its, rus⟩ := b
    simp only at hv cv hs HB0 HK0 HX hT' ⊢
    obtain ⟨p, rfl⟩ := Int.eq_ofNat_of_zero_le hv.p0
    have hp10 : p ≤ 10 := by have := hv.p1; simp at this; omega
    have hN10 : 2 ^ p ≤ 1024 := Nat.pow_le_pow_right (by decide) hp10
    have cc := Lib.hid (fun (k : Nat) (hk : k < 2 ^ p) W (hW : Below w.heap.size w W) => show Calls Tryd.prog 75 #[.slice AR rus.length cR, .int .i64 (k : Int), .int .i64 (-1)] W fun e w' => ∃ x : Nat, e = .returned (.int .i64 x) ∧ (x = k ↔ shB rus k = true) ∧ Below W.heap.size W w' from
      (closure_any AR cR w.heap.size rus p k (-1) allW W hW.size (hT'.below hW (Nat.le_refl _)) hs.2.1 hs.2.2.2 (fun x hx => hv.rules x hx) hp10 hk minus_one).mono (by
        rintro e w' ⟨x, he, hc, _, hb⟩
        exact ⟨x, he, cl_self hc, hb⟩))
    have hp : wrap64 ((2 : Int) ^ p) = ((2 ^ p : Nat) : Int) := by rw [pow_wrap (show p < 63 by omega)]; simp
    have Hst := Lib.hid (fun k => cntS_succ rus k)
    have Hle := Lib.hid (fun k => cntS_le rus k)
    have Hz := Lib.hid (cntS_zero rus)
    simp only [Int.toNat_natCast]
    clear h h' hT hT' hs hv h0 hc hB
    generalize hNe : 2 ^ p = N at *
    have HNe := Lib.hid hNe
    have p0 : (0 : Int) ≤ (p : Int) := by omega
    clear hNe
    generalize shB rus = sb at *
    generalize cntS rus = cn at *
    go_enter Tryd.func49, Tryd.ntmps49
    go_wp2_with (go_at_call 20; refine (cv.out _ HB0.out).mono ?_; rintro e w1 ⟨rfl, hb1⟩; obtain ⟨z0, z1, z2, _⟩ := HX.out _ hb1)
    rw [hp]
    have HBs := Lib.hid HB0.out.size
    go_loopw [5, 15] (fun s5 s15 wr => ∃ k : Nat, k ≤ N ∧ s5 = .int .i64 (cn k : Nat) ∧ s15 = .int .i64 k ∧ Below (w.alloc (.cells #[.int .i64 p, .slice AI its.length cI, .slice AR rus.length cR] 25)).heap.size (w.alloc (.cells #[.int .i64 p, .slice AI its.length cI, .slice AR rus.length cR] 25)) wr) (fun _ s _ => N - (intOf s).toNat)
    case atStart => exact ⟨0, Nat.zero_le _, by rw [Hz.out]; rfl, rfl, hb1⟩
    case round =>
      clear hb1 z0 z1 z2
      obtain ⟨k, hk, rfl, rfl, hb⟩ := hrel
      obtain ⟨z0, z1, z2, _⟩ := HX.out _ hb
      have Hb := Lib.hid hb
      have hckN := Hle.out k
      by_cases hlt : k < N
      · have hlN : (k : Int) < (N : Int) := by omega
        have cck := Lib.hid (cc.out k hlt)
        have Hs := Lib.hid (Hst.out k)
        cases hs : sb k with
        | false =>
          rw [hs] at Hs
          have Hx := Lib.hid (fun (x : Nat) (h : x = k ↔ sb k = true) => show ((x : Int) == (k : Int)) = false by
            rw [hs] at h
            have : x ≠ k := fun e => absurd (h.1 e) (by decide)
            simp; omega)
          clear hs hb
          go_wp2_with (go_at_call 75; refine (cck.out _ (HB0.out.trans (Hb.out.mono HBs.out))).mono ?_; rintro e w4 ⟨x, rfl, hx, hd⟩; have hb4 := Hb.out.trans (hd.mono Hb.out.size); have hxk := Hx.out x hx; clear hx hd)
          go_roundw
          case rel => exact ⟨k + 1, by omega, by rw [Hs.out]; simp, by go_num, hb4⟩
          case measure => simp [intOf]; omega
        | true =>
          rw [hs] at Hs
          have Hx := Lib.hid (fun (x : Nat) (h : x = k ↔ sb k = true) => show ((x : Int) == (k : Int)) = true by
            rw [hs] at h
            have : x = k := h.2 rfl
            simp; omega)
          have hw1 : IntKind.i64.wrap ((cn k : Int) + 1) = (cn k : Int) + 1 := IntWalk.i64_in _ (by omega)
          clear hs hb
          go_wp2_with (go_at_call 75; refine (cck.out _ (HB0.out.trans (Hb.out.mono HBs.out))).mono ?_; rintro e w4 ⟨x, rfl, hx, hd⟩; have hb4 := Hb.out.trans (hd.mono Hb.out.size); have hxk := Hx.out x hx; clear hx hd)
          go_roundw
          case rel => exact ⟨k + 1, by omega, by rw [Hs.out]; simp, by go_num, hb4⟩
          case measure => simp [intOf]; omega
      · obtain rfl : k = N := by omega
        go_wp2_with fail
        go_ret2
        exact ⟨rfl, HB0.out.trans (Hb.out.mono HBs.out)⟩
  · have hc : cdR b = 0 := if_neg h0
    have hne : (vlR b != 0) = true := by simpa using h0
    rw [hc]
    generalize vlR b = e0 at *
    clear h h' hT hT' hs h0 hc hB
    go_enter Tryd.func49, Tryd.ntmps49
    go_wp2_with (go_at_call 20; refine (cv.out _ HB0.out).mono ?_; rintro e w1 ⟨rfl, hb1⟩; obtain ⟨z0, z1, z2, _⟩ := HX.out _ hb1)
    go_ret2
    exact ⟨rfl, HB0.out.trans (hb1.mono HB0.out.size)⟩


set_option maxRecDepth 100000 in
set_option maxHeartbeats 4000000 in
theorem Closed_ref (AI AR : Option Addr) (cI cR B : Nat) (b : Bk) (w : World) (hB : B ≤ w.heap.size) (h : ItsAt B w AI b.its) (h' : RusAt B w AR b.rus) (hs : Short b) :
    Calls Tryd.prog 50 #[.agg #[.int .i64 b.p, .slice AI b.its.length cI, .slice AR b.rus.length cR]] w fun e w' => e = .returned (.tuple #[.int .i64 (cdR b : Nat), .int .i64 (vlR b)]) ∧ Below w.heap.size w w' := by
  have hT := h.below (Below.refl _ _) hB
  have hT' := h'.below (Below.refl _ _) hB
  have cv := Lib.hid (fun W (hW : Below w.heap.size w W) => Validate_ref AI AR cI cR w.heap.size b W hW.size (hT.below hW (Nat.le_refl _)) (hT'.below hW (Nat.le_refl _)) hs)
  have HB0 := Lib.hid (show Below w.heap.size w (w.alloc (.cells #[.int .i64 b.p, .slice AI b.its.length cI, .slice AR b.rus.length cR] 25)) from balloc (Below.refl _ _) _)
  have HK0 := Lib.hid (Blk.new w 25 #[.int .i64 b.p, .slice AI b.its.length cI, .slice AR b.rus.length cR])
  have HX := Lib.hid (fun W (hW : Below (w.alloc (.cells #[.int .i64 b.p, .slice AI b.its.length cI, .slice AR b.rus.length cR] 25)).heap.size (w.alloc (.cells #[.int .i64 b.p, .slice AI b.its.length cI, .slice AR b.rus.length cR] 25)) W) => blk3 (HK0.out.below hW HK0.out.lt))
  by_cases h0 : vlR b = 0
  · have hv := vl_zero h0
    have hc : cdR b = cntS b.rus (2 ^ b.p.toNat) := if_pos h0
    rw [h0] at cv ⊢
    rw [hc]
    obtain ⟨bp, its, rus⟩ := b
    simp only at hv cv hs HB0 HK0 HX hT' ⊢
    obtain ⟨p, rfl⟩ := Int.eq_ofNat_of_zero_le hv.p0
    have hp10 : p ≤ 10 := by have := hv.p1; simp at this; omega
    have hN10 : 2 ^ p ≤ 1024 := Nat.pow_le_pow_right (by decide) hp10
    have cb := Lib.hid (fun (k : Nat) (hk : k < 2 ^ p) W => bits_ref' k (Nat.lt_of_lt_of_le hk (Nat.pow_le_pow_right (by decide) hp10)) W)
    have hlb := fun (k : Nat) (hk : k < 2 ^ p) => bl_length hk (by omega : p ≤ 60)
    have cm := Lib.hid (fun (A : Option Addr) (c k : Nat) (hk : k < 2 ^ p) W (hI : IntsAt W.heap.size W A (intL (bl k))) => show Calls Tryd.prog 77 #[.slice A (bl k).length c, .int .i64 (p : Nat)] W fun e w' => e = .returned (.slice (some ⟨W.heap.size, 0, none⟩) p p) ∧ BB W.heap.size p k w' ∧ Below W.heap.size W w' from by
      have := marks_ref A c W.heap.size (bl k) p W (Nat.le_refl _) hI (by have := hlb k hk; omega) (fun x hx => bl_lt hk (by omega) hx) (by omega)
      rw [mk_bl hk hp10] at this
      exact this)
    have cd := Lib.hid (fun (g0 k : Nat) (hk : k < 2 ^ p) W (hW : Below w.heap.size w W) (hbr : BR g0 p k W) => closed_ref AR cR w.heap.size g0 p p k rus W hW.size (hT'.below hW (Nat.le_refl _)) hbr hs.2.1 hs.2.2.2 (fun x hx => hv.rules x hx) hp10 hk)
    have HLn := Lib.hid (fun (k x : Nat) (hk : k < 2 ^ p) (hx : x < 2 ^ p) (hc : Cl rus k allW x) => show ((bl x).length = (bl k).length) ↔ shB rus k = true from (bl_len hk hx hp10 hc.1.1).trans (cl_self hc))
    have Hlb := Lib.hid hlb
    have hp : wrap64 ((2 : Int) ^ p) = ((2 ^ p : Nat) : Int) := by rw [pow_wrap (show p < 63 by omega)]; simp
    have Hst := Lib.hid (fun k => cntS_succ rus k)
    have Hle := Lib.hid (fun k => cntS_le rus k)
    have Hz := Lib.hid (cntS_zero rus)
    simp only [Int.toNat_natCast]
    clear h h' hT hT' hs hv h0 hc hB hlb
    generalize hNe : 2 ^ p = N at *
    have HNe := Lib.hid hNe
    have p0 : (0 : Int) ≤ (p : Int) := by omega
    clear hNe
    generalize shB rus = sb at *
    generalize cntS rus = cn at *
    go_enter Tryd.func50, Tryd.ntmps50
    go_wp2_with (go_at_call 21; refine (cv.out _ HB0.out).mono ?_; rintro e w1 ⟨rfl, hb1⟩; obtain ⟨z0, z1, z2, _⟩ := HX.out _ hb1)
    have HBs := Lib.hid HB0.out.size
    go_loopw [5, 6] (fun s5 s6 wr => ∃ k : Nat, k ≤ N ∧ s5 = .int .i64 (cn k : Nat) ∧ s6 = .int .i64 k ∧ Below (w.alloc (.cells #[.int .i64 p, .slice AI its.length cI, .slice AR rus.length cR] 25)).heap.size (w.alloc (.cells #[.int .i64 p, .slice AI its.length cI, .slice AR rus.length cR] 25)) wr) (fun _ s _ => N - (intOf s).toNat)
    case atStart => exact ⟨0, Nat.zero_le _, by rw [Hz.out]; rfl, rfl, hb1⟩
    case round =>
      clear hb1 z0 z1 z2
      obtain ⟨k, hk, rfl, rfl, hb⟩ := hrel
      obtain ⟨z0, z1, z2, _⟩ := HX.out _ hb
      have Hb := Lib.hid hb
      have hckN := Hle.out k
      by_cases hlt : k < N
      · have hlN : (k : Int) < (N : Int) := by omega
        have Hs := Lib.hid (Hst.out k)
        have hlk := Hlb.out k hlt
        have cbk := Lib.hid (cb.out k hlt wr)
        have cmk := Lib.hid (fun A c W hI => cm.out A c k hlt W hI)
        have cdk := Lib.hid (fun g0 W hW hbr => cd.out g0 k hlt W hW hbr)
        have HLk := Lib.hid (fun x hx hc => HLn.out k x hlt hx hc)
        have Hll := Lib.hid (fun (x : Nat) (hx : x < N) => Hlb.out x hx)
        clear hb cb cm cd HLn Hlb
        generalize hnk : (bl k).length = nk at *
        have Hnk := Lib.hid hnk
        clear hnk
        go_wp2_with (go_at_call 93; refine cbk.out.mono ?_; rintro e w5 ⟨A5, c5, rfl, hI5, hd5⟩; have HI5 := Lib.hid hI5; have Hb5 := Lib.hid (Hb.out.trans (hd5.mono Hb.out.size)); clear hI5 hd5)
        refine wp_region_E (S := fun W => W.cell? ⟨w.heap.size, 0, none⟩ = some (.int .i64 (p : Nat)) ∧ W.cell? ⟨w.heap.size, 2, none⟩ = some (.slice AR rus.length cR)) (E := fun _ => false) (by kernel_rfl) ?_
        have Hbi := Lib.hid Hb5.out.drew
        have HI5 := Lib.hid (IntsAt.below HI5.out (Below.refl w5.heap.size w5).drew (Nat.le_refl _))
        have hsz5 : w5.heap.size = w5.drew.heap.size := rfl
        rw [hsz5] at HI5
        clear hsz5 Hb5 z0 z1 z2
        generalize w5.drew = wi0 at *
        have HBi := Lib.hid (Below.refl wi0.heap.size wi0)
        have Keep := Lib.hid (show ∀ W, Below wi0.heap.size wi0 W → W.cell? ⟨w.heap.size, 0, none⟩ = some (.int .i64 (p : Nat)) ∧ W.cell? ⟨w.heap.size, 2, none⟩ = some (.slice AR rus.length cR) from fun W hW => by
          obtain ⟨q0, q1, q2, _⟩ := HX.out _ (Hbi.out.trans (hW.mono Hbi.out.size))
          exact ⟨q0, q2⟩)
        have hS := Keep.out _ HBi.out
        have cm := Lib.hid (fun (_ : Unit) => cmk.out A5 c5 wi0 HI5.out)
        have cd := Lib.hid (fun (g0 : Nat) W (hW : Below wi0.heap.size wi0 W) hbr => cdk.out g0 W (HB0.out.trans ((Hbi.out.trans (hW.mono Hbi.out.size)).mono HBs.out)) hbr)
        clear cmk cdk cbk
        refine anyE_tk 0 22 (oi := ?oi1) (v := ?v1) ?hi1 ?hd1 (by kernel_rfl) (by kernel_rfl) (by kernel_rfl) ?hQ1 ?hy1 hS ?rest1
        case hi1 => simp only [List.getElem?_toArray, List.getElem?_cons_zero, List.getElem?_cons_succ]; rfl
        case hd1 => rfl
        case hQ1 => exact fun _ _ _ h => h
        case hy1 => (refine Or.inl ⟨by rfl, ?_⟩; intro w hSw; (try dsimp only at hSw); go_simp; try with_reducible rfl)
        simp only [List.setIfInBounds_toArray, List.set_cons_zero, List.set_cons_succ]
        refine anyE_tk 1 23 (oi := ?oi2) (v := ?v2) ?hi2 ?hd2 (by kernel_rfl) (by kernel_rfl) (by kernel_rfl) ?hQ2 ?hy2 hS ?rest2
        case hi2 => simp only [List.getElem?_toArray, List.getElem?_cons_zero, List.getElem?_cons_succ]; rfl
        case hd2 => rfl
        case hQ2 => exact fun _ _ _ h => h
        case hy2 => (refine Or.inl ⟨by rfl, ?_⟩; intro w hSw; (try dsimp only at hSw); go_simp; try with_reducible rfl)
        simp only [List.setIfInBounds_toArray, List.set_cons_zero, List.set_cons_succ]
        refine anyE_tk 2 24 (oi := ?oi3) (v := ?v3) ?hi3 ?hd3 (by kernel_rfl) (by kernel_rfl) (by kernel_rfl) ?hQ3 ?hy3 hS ?rest3
        case hi3 => simp only [List.getElem?_toArray, List.getElem?_cons_zero, List.getElem?_cons_succ]; rfl
        case hd3 => rfl
        case hQ3 => exact fun _ _ _ h => h
        case hy3 => (refine Or.inl ⟨by rfl, ?_⟩; intro w hSw; (try dsimp only at hSw); go_simp; try with_reducible rfl)
        simp only [List.setIfInBounds_toArray, List.set_cons_zero, List.set_cons_succ]
        refine anyE_tk 3 25 (oi := ?oi4) (v := ?v4) ?hi4 ?hd4 (by kernel_rfl) (by kernel_rfl) (by kernel_rfl) ?hQ4 ?hy4 hS ?rest4
        case hi4 => simp only [List.getElem?_toArray, List.getElem?_cons_zero, List.getElem?_cons_succ]; rfl
        case hd4 => rfl
        case hQ4 => exact fun _ _ _ h => h
        case hy4 => (refine Or.inl ⟨by rfl, ?_⟩; intro w hSw; (try dsimp only at hSw); go_simp; try with_reducible rfl)
        simp only [List.setIfInBounds_toArray, List.set_cons_zero, List.set_cons_succ]
        refine anyE_tk 4 26 (oi := ?oi5) (v := ?v5) ?hi5 ?hd5 (by kernel_rfl) (by kernel_rfl) (by kernel_rfl) ?hQ5 ?hy5 hS ?rest5
        case hi5 => simp only [List.getElem?_toArray, List.getElem?_cons_zero, List.getElem?_cons_succ]; rfl
        case hd5 => rfl
        case hQ5 => exact fun _ _ _ h => h
        case hy5 => (refine Or.inl ⟨by rfl, ?_⟩; intro w hSw; (try dsimp only at hSw); go_simp; try with_reducible rfl)
        simp only [List.setIfInBounds_toArray, List.set_cons_zero, List.set_cons_succ]
        refine anyE_tk 9 31 (oi := ?oi6) (v := ?v6) ?hi6 ?hd6 (by kernel_rfl) (by kernel_rfl) (by kernel_rfl) ?hQ6 ?hy6 hS ?rest6
        case hi6 => simp only [List.getElem?_toArray, List.getElem?_cons_zero, List.getElem?_cons_succ]; rfl
        case hd6 => rfl
        case hQ6 => exact fun _ _ _ h => h
        case hy6 => (refine Or.inl ⟨by rfl, ?_⟩; intro w hSw; (try dsimp only at hSw); go_simp; try with_reducible rfl)
        simp only [List.setIfInBounds_toArray, List.set_cons_zero, List.set_cons_succ]
        refine anyE_tk 10 32 (oi := ?oi7) (v := ?v7) ?hi7 ?hd7 (by kernel_rfl) (by kernel_rfl) (by kernel_rfl) ?hQ7 ?hy7 hS ?rest7
        case hi7 => simp only [List.getElem?_toArray, List.getElem?_cons_zero, List.getElem?_cons_succ]; rfl
        case hd7 => rfl
        case hQ7 => exact fun _ _ _ h => h
        case hy7 => (refine Or.inl ⟨by rfl, ?_⟩; intro w hSw; (try dsimp only at hSw); go_simp; try with_reducible rfl)
        simp only [List.setIfInBounds_toArray, List.set_cons_zero, List.set_cons_succ]
        refine anyE_one (i := 5) (o := ?oi8) (by kernel_rfl) ?hi8 (fun K hK => ?step8)
        case hi8 => simp only [List.getElem?_toArray, List.getElem?_cons_zero, List.getElem?_cons_succ]; rfl
        go_simp
        refine (cm.out ()).mono ?_
        rintro e w6 ⟨rfl, hbb6, hd6⟩
        have HBB6 := Lib.hid hbb6
        have HB6 := Lib.hid (HBi.out.trans (hd6.mono HBi.out.size))
        clear hbb6 hd6
        go_wp2_with fail
        refine hK.out _ _ (fun _ => Keep.out _ HB6.out) ?_
        clear hK K
        try simp only [Act.put, List.setIfInBounds_toArray, List.set_cons_zero, List.set_cons_succ]
        refine anyE_one (i := 6) (o := ?oi9) (by kernel_rfl) ?hi9 (fun K hK => ?step9)
        case hi9 => simp only [List.getElem?_toArray, List.getElem?_cons_zero, List.getElem?_cons_succ]; rfl
        go_simp
        refine (cd.out _ _ HB6.out HBB6.out.br).mono ?_
        rintro e w7 ⟨g7, k7, x, rfl, hcl, hxl, hbb7, hg7, hd7⟩
        have HCl := Lib.hid (And.intro hcl hxl)
        have HBB7 := Lib.hid hbb7
        have HB7 := Lib.hid (HB6.out.trans (hd7.mono HB6.out.size))
        clear hcl hxl hbb7 hd7 hg7
        go_wp2_with fail
        refine hK.out _ _ (fun _ => Keep.out _ HB7.out) ?_
        clear hK K
        try simp only [Act.put, List.setIfInBounds_toArray, List.set_cons_zero, List.set_cons_succ]
        refine anyE_one (i := 7) (o := ?oi10) (by kernel_rfl) ?hi10 (fun K hK => ?step10)
        case hi10 => simp only [List.getElem?_toArray, List.getElem?_cons_zero, List.getElem?_cons_succ]; rfl
        go_simp
        refine (places_ref g7 k7 x p _ HBB7.out.br (by omega) (by rw [HNe.out]; exact HCl.out.2)).mono ?_
        rintro e w8 ⟨v8, rfl, ho8, hd8⟩
        obtain ⟨A8, c8, rfl⟩ := own_form ho8
        have HB8 := Lib.hid (HB7.out.trans (hd8.mono HB7.out.size))
        clear ho8 hd8
        go_wp2_with fail
        refine hK.out _ _ (fun _ => Keep.out _ HB8.out) ?_
        clear hK K
        try simp only [Act.put, List.setIfInBounds_toArray, List.set_cons_zero, List.set_cons_succ]
        refine anyE_tk 8 30 (oi := ?oi11) (v := ?v11) ?hi11 ?hd11 (by kernel_rfl) (by kernel_rfl) (by kernel_rfl) ?hQ11 ?hy11 (Keep.out _ HB8.out) ?rest11
        case hi11 => simp only [List.getElem?_toArray, List.getElem?_cons_zero, List.getElem?_cons_succ]; rfl
        case hd11 => rfl
        case hQ11 => exact fun _ _ _ h => h
        case hy11 => (refine Or.inl ⟨by rfl, ?_⟩; intro w hSw; (try dsimp only at hSw); go_simp; try with_reducible rfl)
        simp only [List.setIfInBounds_toArray, List.set_cons_zero, List.set_cons_succ]
        refine anyE_tk 11 33 (oi := ?oi12) (v := ?v12) ?hi12 ?hd12 (by kernel_rfl) (by kernel_rfl) (by kernel_rfl) ?hQ12 ?hy12 (Keep.out _ HB8.out) ?rest12
        case hi12 => simp only [List.getElem?_toArray, List.getElem?_cons_zero, List.getElem?_cons_succ]; rfl
        case hd12 => rfl
        case hQ12 => exact fun _ _ _ h => h
        case hy12 => (refine Or.inl ⟨by rfl, ?_⟩; intro w hSw; (try dsimp only at hSw); go_simp; try with_reducible rfl)
        simp only [List.setIfInBounds_toArray, List.set_cons_zero, List.set_cons_succ]
        refine anyE_done (by kernel_rfl) ?_ _
        have hlx := Hll.out x HCl.out.2
        have HLx := Lib.hid (HLk.out x HCl.out.2 HCl.out.1)
        have Hbe := Lib.hid (Hbi.out.trans (HB8.out.mono Hbi.out.size))
        generalize (bl x).length = nx at *
        cases hs : sb k with
        | false =>
          rw [hs] at Hs HLx
          have hx : (((nx : Nat) : Int) == ((nk : Nat) : Int)) = false := by
            have : nx ≠ nk := fun e => absurd (HLx.out.1 e) (by decide)
            simp; omega
          clear hs
          go_wp2_with fail
          go_roundw
          case rel => exact ⟨k + 1, by omega, by rw [Hs.out]; simp, by go_num, Hbe.out⟩
          case measure => simp [intOf]; omega
        | true =>
          rw [hs] at Hs HLx
          have hx : (((nx : Nat) : Int) == ((nk : Nat) : Int)) = true := by
            have : nx = nk := HLx.out.2 rfl
            simp; omega
          have hw1 : IntKind.i64.wrap ((cn k : Int) + 1) = (cn k : Int) + 1 := IntWalk.i64_in _ (by omega)
          clear hs
          go_wp2_with fail
          go_roundw
          case rel => exact ⟨k + 1, by omega, by rw [Hs.out]; simp, by go_num, Hbe.out⟩
          case measure => simp [intOf]; omega
      · obtain rfl : k = N := by omega
        go_wp2_with fail
        go_ret2
        exact ⟨rfl, HB0.out.trans (Hb.out.mono HBs.out)⟩
  · have hc : cdR b = 0 := if_neg h0
    have hne : (vlR b != 0) = true := by simpa using h0
    rw [hc]
    generalize vlR b = e0 at *
    clear h h' hT hT' hs h0 hc hB
    go_enter Tryd.func50, Tryd.ntmps50
    go_wp2_with (go_at_call 21; refine (cv.out _ HB0.out).mono ?_; rintro e w1 ⟨rfl, hb1⟩; obtain ⟨z0, z1, z2, _⟩ := HX.out _ hb1)
    go_ret2
    exact ⟨rfl, HB0.out.trans (hb1.mono HB0.out.size)⟩

end Go.Proofs.YtgoojcjfhghmgaaDoor


set_option linter.unusedSimpArgs false
set_option linter.unusedVariables false
namespace Go.Proofs.YtgoojcjfhghmgaaDoor
open Go Go.RowKit

theorem vl_of {b : Bk} (h : VBk b) (hi : itsE b.p 0 b.its = 0) : vlR b = 0 := by
  unfold vlR
  have := h.p0; have := h.p1; have := h.ni; have := h.nr
  rw [if_neg (by omega), if_neg (by omega), if_pos hi, if_pos (List.all_eq_true.2 h.rules)]
theorem its_zero {b : Bk} (h : vlR b = 0) : itsE b.p 0 b.its = 0 := by
  unfold vlR at h
  split at h
  · cases h
  · split at h
    · cases h
    · split at h
      · assumption
      · exact absurd h ‹_›
theorem vl_sub {b : Bk} {m : List Ru} (h : vlR b = 0) (hm : m.Sublist b.rus) : vlR ⟨b.p, b.its, m⟩ = 0 := by
  have hv := vl_zero h
  exact vl_of ⟨hv.p0, hv.p1, hv.ni, Nat.le_trans hm.length_le hv.nr, hv.parts, fun x hx => hv.rules x (hm.subset hx)⟩ (show itsE b.p 0 b.its = 0 from its_zero h)
theorem short_sub {b : Bk} {m : List Ru} (h : Short b) (hm : m.Sublist b.rus) : Short ⟨b.p, b.its, m⟩ := ⟨h.1, Nat.le_trans hm.length_le h.2.1, h.2.2.1, fun x hx => h.2.2.2 x (hm.subset hx)⟩
theorem clE_sub {b : Bk} {m : List Ru} (h : vlR b = 0) (hm : m.Sublist b.rus) (ps : List Int) : clE ⟨b.p, b.its, m⟩ ps = clE b ps := by
  unfold clE
  rw [if_pos h, if_pos (vl_sub h hm)]
theorem ClL.sub {b : Bk} {m : List Ru} {ps L : List Int} (h : vlR b = 0) (hm : m.Sublist b.rus) (hs : ∀ y, Shut m allW y ↔ Shut b.rus allW y) (hL : ClL ⟨b.p, b.its, m⟩ ps L) : ClL b ps L := by
  unfold ClL at hL ⊢
  rw [clE_sub h hm] at hL
  split at hL
  · rw [if_pos ‹_›]
    obtain ⟨x, h1, h2, h3, h4⟩ := hL
    exact ⟨x, (cl_shut hs).1 h1, h2, h3, h4⟩
  · rw [if_neg ‹_›]; exact hL
theorem cdR_sub {b : Bk} {m : List Ru} (h : vlR b = 0) (hm : m.Sublist b.rus) (hs : ∀ y, Shut m allW y ↔ Shut b.rus allW y) : cdR ⟨b.p, b.its, m⟩ = cdR b := by
  unfold cdR
  rw [if_pos h, if_pos (vl_sub h hm)]
  exact cntS_congr hs _

theorem flatV_set : ∀ (ps : List (Value × Value)) (k : Nat) (v : Value), k < ps.length → ∀ (u : Value), (ps[k]?.map (·.1)) = some u → (flatV ps).set (k * 2 + 1) v = flatV (ps.set k (u, v))
  | p :: ps, 0, v, _, u, hu => by
    simp at hu
    simp [flatV, hu]
  | p :: ps, k + 1, v, hk, u, hu => by
    have := flatV_set ps k v (by simpa using hk) u (by simpa using hu)
    simp only [flatV, List.flatMap_cons, List.set_cons_succ] at this ⊢
    rw [List.set_append_right _ _ (by simp; omega)]
    simp only [List.length_cons, List.length_nil]
    rw [show (k + 1) * 2 + 1 - (0 + 1 + 1) = k * 2 + 1 by omega, this]
section
variable {lo n c g : Nat} {w : World} {ps : List (Value × Value)} {l : List Ru}
theorem RuP.cell (h : RuP lo (.slice (some ⟨g, 0, none⟩) n c) w ps l) {k : Nat} (hk : k < l.length) : ∃ A1 c1, ps[k]? = some (.slice A1 l[k].1.length c1, .int .i64 l[k].2) ∧ w.cell? ⟨g, k * 2, none⟩ = some (.slice A1 l[k].1.length c1) ∧ w.cell? ⟨g, k * 2 + 1, none⟩ = some (.int .i64 l[k].2) ∧ w.frozen? ⟨g, k * 2 + 1, none⟩ = false ∧ lo ≤ g ∧ g < w.heap.size := by
  have hkp : k < ps.length := by rw [h.1]; exact hk
  have hn : n = l.length := by
    rcases h.2.1.2 with ⟨e, _⟩ | ⟨_, _, _, e, _⟩
    · cases e
    · injection e
  subst hn
  obtain ⟨g', e, hg, q0, q1⟩ := own_cell2 h.2.1 h.1 hkp
  injection e with e
  injection e with e
  subst e
  obtain ⟨A1, c1, e1, _⟩ := h.2.2.1.2.1 k (by simpa [flR] using hk)
  have x1 : (flR l)[k]'(by simpa [flR] using hk) = l[k].1 := by simp [flR]
  rw [x1] at e1
  rw [List.getElem?_map, List.getElem?_eq_getElem hkp] at e1
  have e1' : ps[k].1 = .slice A1 l[k].1.length c1 := by simpa using e1
  have e2 : ps[k].2 = .int .i64 l[k].2 := by
    have := congrArg (fun l => l[k]?) h.2.2.2
    simpa [hkp, hk] using this
  obtain ⟨g'', cs, e3, hlo, hbl, _⟩ := own_blk h.2.1 (by omega)
  injection e3 with e3
  injection e3 with e3
  subst e3
  refine ⟨A1, c1, by rw [List.getElem?_eq_getElem hkp, ← e1', ← e2], by rw [q0, e1'], by rw [q1, e2], hbl.frozen _, hlo, hg⟩
/-- What follows is written over. -/
theorem RuP.setThen (h : RuP lo (.slice (some ⟨g, 0, none⟩) n c) w ps l) {k : Nat} (hk : k < l.length) (v : Int) : ∃ ps', RuP lo (.slice (some ⟨g, 0, none⟩) n c) (w.setCell ⟨g, k * 2 + 1, none⟩ (.int .i64 v)) ps' (l.set k (l[k].1, v)) ∧ ps'.map (·.1) = ps.map (·.1) := by
  obtain ⟨A1, c1, e, _, _, _, hlo, hg⟩ := h.cell hk
  have hkp : k < ps.length := by rw [h.1]; exact hk
  have hn : n = l.length := by
    rcases h.2.1.2 with ⟨e, _⟩ | ⟨_, _, _, e, _⟩
    · cases e
    · injection e
  subst hn
  have hst := (h.2.1.stored (k * 2 + 1) (.int .i64 v)).1
  rw [flatV_set ps k (.int .i64 v) hkp (.slice A1 l[k].1.length c1) (by rw [e]; rfl)] at hst
  have e1 : (ps.set k (.slice A1 l[k].1.length c1, .int .i64 v)).map (·.1) = ps.map (·.1) := by
    rw [List.map_set]
    apply List.ext_getElem?
    intro i
    rw [List.getElem?_set]
    by_cases hi : k = i
    · subst hi
      rw [if_pos rfl, if_pos (by simpa using hkp), List.getElem?_map, e]; rfl
    · rw [if_neg hi]
  refine ⟨ps.set k (.slice A1 l[k].1.length c1, .int .i64 v), ⟨by simp [h.1], by simpa using hst, ?_, ?_⟩, e1⟩
  · have hg2 : w.grownBy (w.setCell ⟨g, k * 2 + 1, none⟩ (.int .i64 v)) (some g) := (Only.refl g w).put (k * 2 + 1) (.int .i64 v)
    have h1 := h.2.2.1.grown (gx' := some g) hg2 (fun k hk => .inl hk)
    have e2 : flR (l.set k (l[k].1, v)) = flR l := by
      unfold flR
      rw [List.map_set]
      apply List.ext_getElem?
      intro i
      rw [List.getElem?_set]
      by_cases hi : k = i
      · subst hi
        rw [if_pos rfl, if_pos (by simpa using hk), List.getElem?_map, List.getElem?_eq_getElem hk]; rfl
      · rw [if_neg hi]
    rw [e1, e2]
    exact h1
  · rw [List.map_set, List.map_set, h.2.2.2]
/-- A property is written over. -/
theorem RuP.setIf (h : RuP lo (.slice (some ⟨g, 0, none⟩) n c) w ps l) {k r : Nat} (hk : k < l.length) (hr : r < l[k].1.length) : ∃ q c1, ps[k]?.map (·.1) = some (.slice (some ⟨q, 0, none⟩) l[k].1.length c1) ∧ lo ≤ q ∧ q < w.heap.size ∧ q ≠ g ∧ w.cell? ⟨q, r, none⟩ = some (.int .i64 l[k].1[r]) ∧ w.frozen? ⟨q, r, none⟩ = false ∧
    ∀ v, RuP lo (.slice (some ⟨g, 0, none⟩) n c) (w.setCell ⟨q, r, none⟩ (.int .i64 v)) ps (l.set k (l[k].1.set r v, l[k].2)) := by
  have hk' : k < (flR l).length := by simpa [flR] using hk
  have x1 : (flR l)[k] = l[k].1 := by simp [flR]
  obtain ⟨q, c1, e, hq, hlo, hgx, hc, hf, hv⟩ := h.2.2.1.put hk' (k := r) (by rw [x1]; exact hr)
  simp only [x1] at e hc hv
  have hne : q ≠ g := fun e => hgx (by rw [e]; rfl)
  refine ⟨q, c1, by rw [← List.getElem?_map]; exact e, hlo, hq, hne, hc, hf, fun v => ⟨by simp [h.1], ?_, ?_, ?_⟩⟩
  · have := ownsRow_setCell_other h.2.1 (a := ⟨q, r, none⟩) (fun e => hgx e) (.int .i64 v)
    simpa using this
  · have := hv v
    have e2 : (flR l).set k (l[k].1.set r v) = flR (l.set k (l[k].1.set r v, l[k].2)) := by unfold flR; rw [List.map_set]
    rw [← e2]
    exact this
  · rw [h.2.2.2, List.map_set]
    apply List.ext_getElem?
    intro i
    rw [List.getElem?_set]
    by_cases hi : k = i
    · subst hi
      rw [if_pos rfl, if_pos (by simpa using hk), List.getElem?_map, List.getElem?_eq_getElem hk]; rfl
    · rw [if_neg hi]
/-- Rules of a call's own, of which the contents are written over. -/
def Wo (lo : Nat) (v : Value) (q0 : List Value) (n : Nat) (W : World) : Prop := ∃ ps l, RuP lo v W ps l ∧ l.length = n ∧ ps.map (·.1) = q0 ∧ ∀ x ∈ l, x.1.length ≤ 1000
theorem set_short {l : List Ru} (h : ∀ x ∈ l, x.1.length ≤ 1000) {k : Nat} {y : Ru} (hy : y.1.length ≤ 1000) : ∀ x ∈ l.set k y, x.1.length ≤ 1000 := fun x hx => by
  rcases List.mem_or_eq_of_mem_set hx with hx | rfl
  · exact h x hx
  · exact hy
theorem Wo.at {lo n c : Nat} {R : Option Addr} {q0 : List Value} {W : World} (h : Wo lo (.slice R n c) q0 n W) {k : Nat} (hk : k < n) :
    ∃ g, R = some ⟨g, 0, none⟩ ∧ lo ≤ g ∧ g < W.heap.size ∧ ∃ A1 m1 c1 u, m1 ≤ 1000 ∧ q0[k]? = some (.slice A1 m1 c1) ∧ W.cell? ⟨g, k * 2, none⟩ = some (.slice A1 m1 c1) ∧ W.cell? ⟨g, k * 2 + 1, none⟩ = some (.int .i64 u) ∧ W.frozen? ⟨g, k * 2 + 1, none⟩ = false ∧
      (∀ v, Wo lo (.slice R n c) q0 n (W.setCell ⟨g, k * 2 + 1, none⟩ (.int .i64 v))) ∧
      ∀ r, r < m1 → ∃ q y, A1 = some ⟨q, 0, none⟩ ∧ lo ≤ q ∧ q < W.heap.size ∧ W.cell? ⟨q, r, none⟩ = some (.int .i64 y) ∧ W.frozen? ⟨q, r, none⟩ = false ∧ ∀ v, Wo lo (.slice R n c) q0 n (W.setCell ⟨q, r, none⟩ (.int .i64 v)) := by
  obtain ⟨ps, l, hr, rfl, rfl, hs⟩ := h
  have hkp : k < ps.length := by rw [hr.1]; exact hk
  obtain ⟨g, rfl, _⟩ := own_cell2 hr.2.1 hr.1 hkp
  obtain ⟨A1, c1, e, q0, q1, hf, hlo, hg⟩ := hr.cell hk
  refine ⟨g, rfl, hlo, hg, A1, l[k].1.length, c1, l[k].2, hs _ (List.getElem_mem hk), by rw [List.getElem?_map, e]; rfl, q0, q1, hf, fun v => ?_, fun r hr1 => ?_⟩
  · obtain ⟨ps', h1, h2⟩ := hr.setThen hk v
    exact ⟨ps', _, h1, by simp, h2, set_short hs (show l[k].1.length ≤ 1000 from hs l[k] (List.getElem_mem hk))⟩
  · obtain ⟨q, c2, e2, g1, g2, _, g4, g5, g6⟩ := hr.setIf hk hr1
    rw [e] at e2
    simp only [Option.map_some] at e2
    injection e2 with e2
    injection e2 with e2 _ _
    exact ⟨q, l[k].1[r], e2, g1, g2, g4, g5, fun v => ⟨ps, _, g6 v, by simp, rfl, set_short hs (by simpa using hs _ (List.getElem_mem hk))⟩⟩
theorem Wo.start {lo c : Nat} {R : Option Addr} {W : World} {ps : List (Value × Value)} {l : List Ru} (h : RuP lo (.slice R l.length c) W ps l) (hs : ∀ x ∈ l, x.1.length ≤ 1000) :
    Wo lo (.slice R l.length c) (ps.map (·.1)) l.length W ∧ (∀ g, R = some ⟨g, 0, none⟩ → g < W.heap.size) ∧ ∀ (k q m1 c1 : Nat), (ps.map (·.1))[k]? = some (.slice (some ⟨q, 0, none⟩) m1 c1) → q < W.heap.size :=
  ⟨⟨ps, l, h, rfl, rfl, hs⟩, fun g e => (h.2.1.lt g (by rw [e]; rfl)).2, fun k q m1 c1 e => h.2.2.1.lt e rfl⟩
end
end Go.Proofs.YtgoojcjfhghmgaaDoor


namespace Go.Proofs.YtgoojcjfhghmgaaDoor
open Go.RowKit

set_option maxRecDepth 100000 in
set_option maxHeartbeats 2000000 in
theorem SameRules_ref (A A' : Option Addr) (c c' B : Nat) (l : List Ru) (w : World) (h : RusAt B w A l) (h' : RusAt B w A' l) (hs : l.length ≤ 60) (hl : ∀ x ∈ l, x.1.length ≤ 40) :
    Calls Tryd.prog 63 #[.slice A l.length c, .slice A' l.length c'] w fun e w' => e = .returned (.bool true) ∧ Drew w w' := by
  have Hl := Lib.hid hl
  clear hl
  go_enter Tryd.func63, Tryd.ntmps63
  go_wp2_with fail
  go_loopw [5] (fun i wr => ∃ k : Nat, k ≤ l.length ∧ i = .int .i64 k ∧ Drew w wr) (fun i _ => l.length - (intOf i).toNat)
  case atStart => exact ⟨0, Nat.zero_le _, rfl, 0, rfl⟩
  case round =>
    obtain ⟨k, hk, rfl, hb⟩ := hrel
    have Hb := Lib.hid hb
    clear hb
    by_cases hlt : k < l.length
    · obtain ⟨b1, o1, A1, c1, rfl, hb1, e0, e1, i1⟩ := h k hlt
      obtain ⟨b2, o2, A2, c2, rfl, hb2, g0, g1, i2⟩ := h' k hlt
      have d0 := (Hb.out.cell _).trans e0
      have d1 := (Hb.out.cell _).trans e1
      have d2 := (Hb.out.cell _).trans g0
      have d3 := (Hb.out.cell _).trans g1
      have m1 := Hl.out l[k] (List.getElem_mem hlt)
      have k0 : (0 : Int) ≤ (k : Int) := by omega
      have k1 : (k : Int) < (l.length : Int) := by omega
      have cs := Lib.hid (fun W (hW : Drew w W) => sameInts_ref A1 A2 c1 c2 B l[k].1 l[k].1 W (i1.below (hW.below B) (Nat.le_refl _)) (i2.below (hW.below B) (Nat.le_refl _)) (by omega))
      clear e0 e1 g0 g1 i1 i2
      generalize l[k].1 = o at d0 d2 cs m1
      have ht : decide (o = o) = true := by simp
      rw [ht] at cs
      go_wp2_with fail
      go_quiet ((go_at_call 25; exact quiet_drew (cs.out _ (Hb.out.drewN _))))
      go_wp2_with fail
      go_roundw
      case rel => exact ⟨k + 1, by omega, by go_num, Hb.out.drewN _⟩
      case measure => simp [intOf]; omega
    · obtain rfl : k = l.length := by omega
      go_wp2_with fail
      go_ret
      exact ⟨rfl, Hb.out⟩

set_option maxRecDepth 100000 in
set_option maxHeartbeats 4000000 in
theorem Same_ref (AI AR AI' AR' : Option Addr) (cI cR cI' cR' B : Nat) (b : Bk) (w : World) (hB : B ≤ w.heap.size) (h : ItsAt B w AI b.its) (h' : RusAt B w AR b.rus) (g : ItsAt B w AI' b.its) (g' : RusAt B w AR' b.rus) (hs : Short b) :
    Calls Tryd.prog 22 #[.agg #[.int .i64 b.p, .slice AI b.its.length cI, .slice AR b.rus.length cR], .agg #[.int .i64 b.p, .slice AI' b.its.length cI', .slice AR' b.rus.length cR']] w fun e w' => e = .returned (.bool true) ∧ Below w.heap.size w w' := by
  obtain ⟨W0, hW0⟩ : ∃ W0, W0 = (w.alloc (.cells #[.int .i64 b.p, .slice AI b.its.length cI, .slice AR b.rus.length cR] 25)).alloc (.cells #[.int .i64 b.p, .slice AI' b.its.length cI', .slice AR' b.rus.length cR'] 25) := ⟨_, rfl⟩
  have hw0 : Below w.heap.size w W0 := by rw [hW0]; exact balloc (balloc (Below.refl _ _) _) _
  have hb0 : Blk W0 w.heap.size 25 #[.int .i64 b.p, .slice AI b.its.length cI, .slice AR b.rus.length cR] := by rw [hW0]; exact (Blk.new w 25 _).alloc _
  have hb1 : Blk W0 (w.heap.size + 1) 25 #[.int .i64 b.p, .slice AI' b.its.length cI', .slice AR' b.rus.length cR'] := by rw [hW0]; exact blk_new' (by simp only [World.size_alloc])
  have hlt : w.heap.size < W0.heap.size := hb0.lt
  have hR := (h'.below (Below.refl _ _) hB).below hw0 (Nat.le_of_lt hlt)
  have hR' := (g'.below (Below.refl _ _) hB).below hw0 (Nat.le_of_lt hlt)
  have H := Lib.hid ((h.below (Below.refl _ _) hB).below hw0 (Nat.le_of_lt hlt))
  have H' := Lib.hid ((g.below (Below.refl _ _) hB).below hw0 (Nat.le_of_lt hlt))
  have cr := Lib.hid (SameRules_ref AR AR' cR cR' W0.heap.size b.rus W0 hR hR' hs.2.1 hs.2.2.2)
  have HB0 := Lib.hid hb0
  have HB1 := Lib.hid hb1
  have Hw := Lib.hid hw0
  have Hl := Lib.hid hs.2.2.1
  have hl60 := hs.1
  have x0 := hb0.cell 0
  have x1 := hb0.cell 1
  have x2 := hb0.cell 2
  have y0 := hb1.cell 0
  have y1 := hb1.cell 1
  have y2 := hb1.cell 2
  clear h h' g g' hs hR hR' hb0 hb1 hw0 hB
  rw [hW0] at x0 x1 x2 y0 y1 y2
  go_enter Tryd.func22, Tryd.ntmps22
  go_wp2_with (go_at_call 63; rw [← hW0]; refine cr.out.mono ?_; rintro e w1 ⟨rfl, hd1⟩)
  clear x0 x1 x2 y0 y1 y2
  go_loopw [5] (fun i wr => ∃ k : Nat, k ≤ b.its.length ∧ i = .int .i64 k ∧ Drew W0 wr) (fun i _ => b.its.length - (intOf i).toNat)
  case atStart => exact ⟨0, Nat.zero_le _, rfl, hd1⟩
  case round =>
    obtain ⟨k, hk, rfl, hb⟩ := hrel
    have Hb := Lib.hid hb
    have x1 := (hb.cell ⟨w.heap.size, 1, none⟩).trans (HB0.out.cell 1)
    have y1 := (hb.cell ⟨w.heap.size + 1, 1, none⟩).trans (HB1.out.cell 1)
    clear hb
    by_cases hlt2 : k < b.its.length
    · obtain ⟨b1, o1, A1, c1, A2, c2, rfl, hb1, e0, e1, i1, i2⟩ := H.out k hlt2
      obtain ⟨b2, o2, A3, c3, A4, c4, rfl, hb2, g0, g1, i3, i4⟩ := H'.out k hlt2
      have d0 := (Hb.out.cell _).trans e0
      have d1 := (Hb.out.cell _).trans e1
      have d2 := (Hb.out.cell _).trans g0
      have d3 := (Hb.out.cell _).trans g1
      obtain ⟨m1, m2⟩ := Hl.out b.its[k] (List.getElem_mem hlt2)
      have k0 : (0 : Int) ≤ (k : Int) := by omega
      have k1 : (k : Int) < (b.its.length : Int) := by omega
      have cs := Lib.hid (fun W (hW : Drew W0 W) => sameInts_ref A1 A3 c1 c3 W0.heap.size b.its[k].1 b.its[k].1 W (i1.below (hW.below _) (Nat.le_refl _)) (i3.below (hW.below _) (Nat.le_refl _)) (by omega))
      have ct := Lib.hid (fun W (hW : Drew W0 W) => sameInts_ref A2 A4 c2 c4 W0.heap.size b.its[k].2 b.its[k].2 W (i2.below (hW.below _) (Nat.le_refl _)) (i4.below (hW.below _) (Nat.le_refl _)) (by omega))
      clear e0 e1 g0 g1 i1 i2 i3 i4
      obtain ⟨n1, hn1⟩ : ∃ n1, n1 = b.its[k].1.length := ⟨_, rfl⟩
      obtain ⟨n2, hn2⟩ : ∃ n2, n2 = b.its[k].2.length := ⟨_, rfl⟩
      rw [← hn1] at d0 d2 cs
      rw [← hn2] at d1 d3 ct
      have ht1 : decide (b.its[k].1 = b.its[k].1) = true := by simp
      have ht2 : decide (b.its[k].2 = b.its[k].2) = true := by simp
      rw [ht1] at cs
      rw [ht2] at ct
      clear hn1 hn2 m1 m2 ht1 ht2
      go_wp2_with fail
      go_quiet ((first
        | (go_at_call_of 25 (Value.slice A1 n1 c1); exact quiet_drew (cs.out _ (Hb.out.drewN _)))
        | (go_at_call_of 25 (Value.slice A2 n2 c2); exact quiet_drew (ct.out _ (Hb.out.drewN _)))))
      go_wp2_with fail
      go_roundw
      case rel => exact ⟨k + 1, by omega, by go_num, Hb.out.drewN _⟩
      case measure => simp [intOf]; omega
    · obtain rfl : k = b.its.length := by omega
      go_wp2_with fail
      go_ret
      exact ⟨rfl, Hw.out.trans (Hb.out.below _)⟩
end Go.Proofs.YtgoojcjfhghmgaaDoor


namespace Go.Proofs.YtgoojcjfhghmgaaDoor
open Go.RowKit

/-- The contract of Copy. -/
def CopyOk : Prop := ∀ (AI AR : Option Addr) (cI cR B : Nat) (b : Bk) (w : World) (_ : B ≤ w.heap.size) (_ : ItsAt B w AI b.its) (_ : RusAt B w AR b.rus) (_ : Short b),
    Calls Tryd.prog 19 #[.agg #[.int .i64 b.p, .slice AI b.its.length cI, .slice AR b.rus.length cR]] w fun e w' => ∃ AI' AR' cI' cR', e = .returned (.agg #[.int .i64 b.p, .slice AI' b.its.length cI', .slice AR' b.rus.length cR']) ∧ ItsAt w'.heap.size w' AI' b.its ∧ RusAt w'.heap.size w' AR' b.rus ∧ Below w.heap.size w w'
theorem keep6 {w0 W : World} {n n' : Nat} {c0 c1 c2 e0 e1 e2 : Value} (hlt : n < w0.heap.size) (hlt' : n' < w0.heap.size) (h : w0.cell? ⟨n, 0, none⟩ = some c0 ∧ w0.cell? ⟨n, 1, none⟩ = some c1 ∧ w0.cell? ⟨n, 2, none⟩ = some c2) (h' : w0.cell? ⟨n', 0, none⟩ = some e0 ∧ w0.cell? ⟨n', 1, none⟩ = some e1 ∧ w0.cell? ⟨n', 2, none⟩ = some e2) (hb : Below w0.heap.size w0 W) :
    W.cell? ⟨n, 0, none⟩ = some c0 ∧ W.cell? ⟨n, 1, none⟩ = some c1 ∧ W.cell? ⟨n, 2, none⟩ = some c2 ∧ W.cell? ⟨n', 0, none⟩ = some e0 ∧ W.cell? ⟨n', 1, none⟩ = some e1 ∧ W.cell? ⟨n', 2, none⟩ = some e2 ∧ Below w0.heap.size w0 W :=
  ⟨(hb.cell (p := ⟨n, 0, none⟩) hlt).trans h.1, (hb.cell (p := ⟨n, 1, none⟩) hlt).trans h.2.1, (hb.cell (p := ⟨n, 2, none⟩) hlt).trans h.2.2, (hb.cell (p := ⟨n', 0, none⟩) hlt').trans h'.1, (hb.cell (p := ⟨n', 1, none⟩) hlt').trans h'.2.1, (hb.cell (p := ⟨n', 2, none⟩) hlt').trans h'.2.2, hb⟩

set_option maxRecDepth 100000 in
set_option maxHeartbeats 4000000 in
theorem law_validates (hC : CopyOk) (AI AR : Option Addr) (cI cR : Nat) (b : Bk) (w : World) (h : ItsAt w.heap.size w AI b.its) (h' : RusAt w.heap.size w AR b.rus) (hT : Tab w) :
    Calls Tryd.prog 3 #[.agg #[.int .i64 b.p, .slice AI b.its.length cI, .slice AR b.rus.length cR]] w fun e w' => e = .returned (.bool true) ∧ Below w.heap.size w w' := by
  have hb0 := Blk.new w 25 #[.int .i64 b.p, .slice AI b.its.length cI, .slice AR b.rus.length cR]
  have hw0 : Below w.heap.size w (w.alloc (.cells #[.int .i64 b.p, .slice AI b.its.length cI, .slice AR b.rus.length cR] 25)) := (Below.refl _ _).alloc (Nat.le_refl _) _
  obtain ⟨W0, hW0⟩ : ∃ W0, W0 = w.alloc (.cells #[.int .i64 b.p, .slice AI b.its.length cI, .slice AR b.rus.length cR] 25) := ⟨_, rfl⟩
  rw [← hW0] at hb0 hw0
  have hlt : w.heap.size < W0.heap.size := hb0.lt
  have hI := h.below hw0 (Nat.le_of_lt hlt)
  have hR := h'.below hw0 (Nat.le_of_lt hlt)
  have hT0 := hT.below hw0 hT.2
  have clg := Lib.hid (Long_any AI AR cI cR _ b W0 (Nat.le_refl _) hI hR)
  have ck := Lib.hid (fun W (hW : Below W0.heap.size W0 W) => known_any W (hT0.below hW hT0.2))
  have Hw := Lib.hid hw0
  have HB0 := Lib.hid hb0
  have HX := Lib.hid (fun W (hW : Below W0.heap.size W0 W) => blk3 (hb0.below hW hlt))
  have tok := Lib.hid (Nat.le_refl 0)
  cases hlg : lgR b with
  | true =>
    rw [hlg] at clg
    clear h h' hI hR hT hT0 hb0 hw0 hlg
    go_enter Tryd.func3, Tryd.ntmps3
    go_wp2_with (first
      | (have tk := tok; clear tok; go_at_call 17; rw [← hW0]; clear hW0; refine clg.out.mono ?_; rintro e w1 ⟨rfl, hd1⟩; have tok2 := tk; obtain ⟨z0, z1, z2, _⟩ := HX.out _ hd1)
      | (have tk := tok2; clear tok2; go_at_call 18; refine (ck.out _ hd1).mono ?_; rintro e w2 ⟨rfl, hd2⟩; have hb2 := hd1.trans (hd2.mono hd1.size)))
    go_ret
    exact ⟨rfl, Hw.out.trans (hb2.mono Hw.out.size)⟩
  | false =>
    rw [hlg] at clg
    have hs := lg_short hlg
    have c19 := Lib.hid (fun W (hW : Below W0.heap.size W0 W) => hC AI AR cI cR W0.heap.size b W hW.size (hI.below hW (Nat.le_refl _)) (hR.below hW (Nat.le_refl _)) hs)
    have c20 := Lib.hid (fun A' R' k1 k2 B' W1 W (h1 : ItsAt B' W1 A' b.its) (h2 : RusAt B' W1 R' b.rus) (hb : Below B' W1 W) (hB : B' ≤ W.heap.size) => Validate_any A' R' k1 k2 B' b W hB (h1.below hb (Nat.le_refl _)) (h2.below hb (Nat.le_refl _)) hs)
    have c21 := Lib.hid (fun W (hW : Below W0.heap.size W0 W) => Validate_ref AI AR cI cR W0.heap.size b W hW.size (hI.below hW (Nat.le_refl _)) (hR.below hW (Nat.le_refl _)) hs)
    have c22 := Lib.hid (fun A' R' k1 k2 B' W1 W (h1 : ItsAt B' W1 A' b.its) (h2 : RusAt B' W1 R' b.rus) (hb : Below B' W1 W) (hB : B' ≤ W.heap.size) (hW : Below W0.heap.size W0 W) (hB0 : W0.heap.size ≤ B') => Same_ref A' R' AI AR k1 k2 cI cR B' b W hB (h1.below hb (Nat.le_refl _)) (h2.below hb (Nat.le_refl _)) (hI.below hW hB0) (hR.below hW hB0) hs)
    generalize vlR b = e0 at c20 c21
    clear h h' hI hR hT hT0 hb0 hw0 hlg hs
    go_enter Tryd.func3, Tryd.ntmps3
    go_wp2_with (first
      | (have tk := tok; clear tok; go_at_call 17; rw [← hW0]; clear hW0; refine clg.out.mono ?_; rintro e w1 ⟨rfl, hd1⟩; have tok2 := tk; obtain ⟨z0, z1, z2, _⟩ := HX.out _ hd1)
      | (have tk := tok2; clear tok2; go_at_call 19; refine (c19.out _ hd1).mono ?_; rintro e w2 ⟨A', R', k1, k2, rfl, hi2, hr2, hd2⟩; have hb2 := hd1.trans (hd2.mono hd1.size); have tok3 := tk; clear z0 z1 z2; obtain ⟨z0, z1, z2, _⟩ := HX.out _ hb2))
    clear z0 z1 z2
    obtain ⟨W3, hW3⟩ : ∃ W3, W3 = w2.alloc (.cells #[.int .i64 b.p, .slice A' b.its.length k1, .slice R' b.rus.length k2] 25) := ⟨_, rfl⟩
    have hk3 : Blk W3 w2.heap.size 25 #[.int .i64 b.p, .slice A' b.its.length k1, .slice R' b.rus.length k2] := by rw [hW3]; exact Blk.new w2 25 _
    have hb3 : Below W0.heap.size W0 W3 := by rw [hW3]; exact balloc hb2 _
    have hd23 : Below w2.heap.size w2 W3 := by rw [hW3]; exact balloc (Below.refl _ _) _
    have HK3 := Lib.hid hk3
    have HI2 := Lib.hid (hi2.below hd23 hd23.size)
    have HR2 := Lib.hid (hr2.below hd23 hd23.size)
    have hl3 : w.heap.size < W3.heap.size := Nat.lt_of_lt_of_le hlt hb3.size
    have hl3' : w2.heap.size < W3.heap.size := hk3.lt
    have HX3 := Lib.hid (HB0.out.below hb3 hlt)
    rw [← hW3]
    clear hW3 hk3 hi2 hr2 hd23 hb2 hd1 hd2
    go_region_held3 (fun W => W.cell? ⟨w.heap.size, 0, none⟩ = some (.int .i64 b.p) ∧ W.cell? ⟨w.heap.size, 1, none⟩ = some (.slice AI b.its.length cI) ∧ W.cell? ⟨w.heap.size, 2, none⟩ = some (.slice AR b.rus.length cR) ∧ W.cell? ⟨w2.heap.size, 0, none⟩ = some (.int .i64 b.p) ∧ W.cell? ⟨w2.heap.size, 1, none⟩ = some (.slice A' b.its.length k1) ∧ W.cell? ⟨w2.heap.size, 2, none⟩ = some (.slice R' b.rus.length k2) ∧ Below W3.heap.size W3 W)
      ((refine keep6 hl3 hl3' ⟨HX3.out.cell 0, HX3.out.cell 1, HX3.out.cell 2⟩ ⟨HK3.out.cell 0, HK3.out.cell 1, HK3.out.cell 2⟩ ?_; repeat (first | exact Below.refl _ _ | assumption | refine Below.drew ?_)))
      (first
        | (go_at_call 20; have tk := tok3; clear tok3; refine (c20.out A' R' k1 k2 _ W3 _ HI2.out HR2.out (by repeat (first | exact Below.refl _ _ | assumption | refine Below.drew ?_ | refine balloc ?_ _)) (Below.size (w := W3) (B := W3.heap.size) (by repeat (first | exact Below.refl _ _ | assumption | refine Below.drew ?_ | refine balloc ?_ _)))).mono ?_; rintro e w5 ⟨rfl, hd5⟩; have tok4 := tk; have hb5 : Below W3.heap.size W3 w5 := Below.trans (by repeat (first | exact Below.refl _ _ | assumption | refine Below.drew ?_ | refine balloc ?_ _)) (hd5.mono (Below.size (w := W3) (B := W3.heap.size) (by repeat (first | exact Below.refl _ _ | assumption | refine Below.drew ?_ | refine balloc ?_ _)))))
        | (go_at_call 21; have tk := tok4; clear tok4; refine (c21.out _ (hb3.trans (Below.mono (by repeat (first | exact Below.refl _ _ | assumption | refine Below.drew ?_ | refine balloc ?_ _)) hb3.size))).mono ?_; rintro e w6 ⟨rfl, hd6⟩; have tok5 := tk; have hb6 : Below W3.heap.size W3 w6 := Below.trans (by repeat (first | exact Below.refl _ _ | assumption | refine Below.drew ?_ | refine balloc ?_ _)) (hd6.mono (Below.size (w := W3) (B := W3.heap.size) (by repeat (first | exact Below.refl _ _ | assumption | refine Below.drew ?_ | refine balloc ?_ _)))))
        | (go_at_call 22; have tk := tok5; clear tok5; refine (c22.out A' R' k1 k2 _ W3 _ HI2.out HR2.out (by repeat (first | exact Below.refl _ _ | assumption | refine Below.drew ?_ | refine balloc ?_ _)) (Below.size (w := W3) (B := W3.heap.size) (by repeat (first | exact Below.refl _ _ | assumption | refine Below.drew ?_ | refine balloc ?_ _))) (hb3.trans (Below.mono (by repeat (first | exact Below.refl _ _ | assumption | refine Below.drew ?_ | refine balloc ?_ _)) hb3.size)) hb3.size).mono ?_; rintro e w7 ⟨rfl, hd7⟩; have tok6 := tk; have hb7 : Below W3.heap.size W3 w7 := Below.trans (by repeat (first | exact Below.refl _ _ | assumption | refine Below.drew ?_ | refine balloc ?_ _)) (hd7.mono (Below.size (w := W3) (B := W3.heap.size) (by repeat (first | exact Below.refl _ _ | assumption | refine Below.drew ?_ | refine balloc ?_ _)))))
        | (go_at_call 18; have tk := tok6; clear tok6; refine (ck.out _ (hb3.trans (Below.mono (by repeat (first | exact Below.refl _ _ | assumption | refine Below.drew ?_ | refine balloc ?_ _)) hb3.size))).mono ?_; rintro e w8 ⟨rfl, hd8⟩; have hb8 : Below W3.heap.size W3 w8 := Below.trans (by repeat (first | exact Below.refl _ _ | assumption | refine Below.drew ?_ | refine balloc ?_ _)) (hd8.mono (Below.size (w := W3) (B := W3.heap.size) (by repeat (first | exact Below.refl _ _ | assumption | refine Below.drew ?_ | refine balloc ?_ _))))))
    all_goals
      have HB8 := Lib.hid (Hw.out.trans ((hb3.trans (hb8.mono hb3.size)).mono Hw.out.size))
      clear hb5 hb6 hb7 hb8
      go_wp2_with fail
      go_ret
      exact ⟨rfl, HB8.out⟩
end Go.Proofs.YtgoojcjfhghmgaaDoor


set_option linter.unusedSimpArgs false
set_option linter.unusedVariables false
namespace Go.Proofs.YtgoojcjfhghmgaaDoor
open Go Go.RowKit

/-- What the law asks of a book. -/
theorem red_facts {b : Bk} {m : List Ru} (h0 : vlR b = 0) (hs : Short b) (hm : RedR b.p.toNat b.rus.length b.rus m) :
    Short ⟨b.p, b.its, m⟩ ∧ vlR ⟨b.p, b.its, m⟩ = 0 ∧ cdR ⟨b.p, b.its, m⟩ = cdR b ∧ (∀ ps, clE ⟨b.p, b.its, m⟩ ps = clE b ps) ∧ (∀ ps L L', ClL b ps L → ClL ⟨b.p, b.its, m⟩ ps L' → L' = L) ∧ m.length ≤ 60 ∧ ∀ x ∈ m, x.1.length ≤ 1000 := by
  have hsub := hm.sub
  have hsh := hm.shut (Nat.le_refl _)
  refine ⟨short_sub hs hsub, vl_sub h0 hsub, cdR_sub h0 hsub hsh, fun ps => clE_sub h0 hsub ps, fun ps L L' h h' => (h'.sub h0 hsub hsh).unique h, Nat.le_trans hsub.length_le hs.2.1, fun x hx => ?_⟩
  have := hs.2.2.2 x (hsub.subset hx)
  omega

theorem keepC {W : World} {g k i j : Nat} {v x : Value} (hne : g ≠ k) (h : W.cell? ⟨k, j, none⟩ = some x) : (W.setCell ⟨g, i, none⟩ v).cell? ⟨k, j, none⟩ = some x := by
  rw [← h]
  exact World.cell?_setCell_other W ⟨g, i, none⟩ ⟨k, j, none⟩ v (fun e => hne (by simpa using e.symm))

set_option maxRecDepth 100000 in
set_option maxHeartbeats 4000000 in
theorem law_reduces (AI AR : Option Addr) (cI cR : Nat) (A : Option Addr) (c : Nat) (b : Bk) (ps : List Int) (w : World) (h : ItsAt w.heap.size w AI b.its) (h' : RusAt w.heap.size w AR b.rus) (hi : IntsAt w.heap.size w A ps) (hT : Tab w) :
    Calls Tryd.prog 12 #[.agg #[.int .i64 b.p, .slice AI b.its.length cI, .slice AR b.rus.length cR], .slice A ps.length c] w fun e w' => e = .returned (.bool true) ∧ Below w.heap.size w w' := by
  have hb0 := Blk.new w 25 #[.int .i64 b.p, .slice AI b.its.length cI, .slice AR b.rus.length cR]
  have hw0 : Below w.heap.size w (w.alloc (.cells #[.int .i64 b.p, .slice AI b.its.length cI, .slice AR b.rus.length cR] 25)) := (Below.refl _ _).alloc (Nat.le_refl _) _
  obtain ⟨W0, hW0⟩ : ∃ W0, W0 = w.alloc (.cells #[.int .i64 b.p, .slice AI b.its.length cI, .slice AR b.rus.length cR] 25) := ⟨_, rfl⟩
  rw [← hW0] at hb0 hw0
  have hlt : w.heap.size < W0.heap.size := hb0.lt
  have hI := h.below hw0 (Nat.le_of_lt hlt)
  have hR := h'.below hw0 (Nat.le_of_lt hlt)
  have hP := hi.below hw0 (Nat.le_of_lt hlt)
  have hT0 := hT.below hw0 hT.2
  have clg := Lib.hid (Long_any AI AR cI cR _ b W0 (Nat.le_refl _) hI hR)
  have ck := Lib.hid (fun W (hW : Below W0.heap.size W0 W) => known_any W (hT0.below hW hT0.2))
  have Hw := Lib.hid hw0
  have HB0 := Lib.hid hb0
  have HX := Lib.hid (fun W (hW : Below W0.heap.size W0 W) => blk3 (hb0.below hW hlt))
  have tok := Lib.hid (Nat.le_refl 0)
  cases hlg : lgR b with
  | true =>
    rw [hlg] at clg
    clear h h' hi hI hR hP hT hT0 hb0 hw0 hlg
    go_enter Tryd.func12, Tryd.ntmps12
    go_wp2_with (first
      | (have tk := tok; clear tok; go_at_call 17; rw [← hW0]; clear hW0; refine clg.out.mono ?_; rintro e w1 ⟨rfl, hd1⟩; have tok2 := tk; obtain ⟨z0, z1, z2, _⟩ := HX.out _ hd1)
      | (have tk := tok2; clear tok2; go_at_call 18; refine (ck.out _ hd1).mono ?_; rintro e w2 ⟨rfl, hd2⟩; have hb2 := hd1.trans (hd2.mono hd1.size)))
    go_ret
    exact ⟨rfl, Hw.out.trans (hb2.mono Hw.out.size)⟩
  | false =>
    rw [hlg] at clg
    by_cases h60 : 60 < ps.length
    · have hld : decide ((60 : Int) < (ps.length : Int)) = true := by simp; omega
      clear h h' hi hI hR hP hT hT0 hb0 hw0 hlg
      go_enter Tryd.func12, Tryd.ntmps12
      go_wp2_with (first
        | (have tk := tok; clear tok; go_at_call 17; rw [← hW0]; clear hW0; refine clg.out.mono ?_; rintro e w1 ⟨rfl, hd1⟩; have tok2 := tk; obtain ⟨z0, z1, z2, _⟩ := HX.out _ hd1)
        | (have tk := tok2; clear tok2; go_at_call 18; refine (ck.out _ hd1).mono ?_; rintro e w2 ⟨rfl, hd2⟩; have hb2 := hd1.trans (hd2.mono hd1.size)))
      go_ret
      exact ⟨rfl, Hw.out.trans (hb2.mono Hw.out.size)⟩
    · have hld : decide ((60 : Int) < (ps.length : Int)) = false := by simp; omega
      have hs := lg_short hlg
      have hpl : ps.length ≤ 60 := by omega
      have c19 := Lib.hid (fun W (hW : Below W0.heap.size W0 W) => Copy_own AI AR cI cR W0.heap.size b W hW.size (hI.below hW (Nat.le_refl _)) (hR.below hW (Nat.le_refl _)) hs)
      have c49 := Lib.hid (fun W (hW : Below W0.heap.size W0 W) => Closed_any AI AR cI cR W0.heap.size b W hW.size (hI.below hW (Nat.le_refl _)) (hR.below hW (Nat.le_refl _)) hs)
      have c50 := Lib.hid (fun W (hW : Below W0.heap.size W0 W) => Closed_ref AI AR cI cR W0.heap.size b W hW.size (hI.below hW (Nat.le_refl _)) (hR.below hW (Nat.le_refl _)) hs)
      have c31 := Lib.hid (fun W (hW : Below W0.heap.size W0 W) => Closure_any AI AR cI cR A c W0.heap.size b ps W hW.size (hI.below hW (Nat.le_refl _)) (hR.below hW (Nat.le_refl _)) (hP.below hW (Nat.le_refl _)) hs hpl (hT0.below hW hT0.2))
      have c31a := Lib.hid (fun A' R' k1 k2 m W (hs' : Short ⟨b.p, b.its, m⟩) (h1 : ItsAt W.heap.size W A' b.its) (h2 : RusAt W.heap.size W R' m) (hW : Below W0.heap.size W0 W) => Closure_any A' R' k1 k2 A c W.heap.size ⟨b.p, b.its, m⟩ ps W (Nat.le_refl _) h1 h2 ((hP.below hW (Nat.le_refl _)).below (Below.refl _ _) hW.size) hs' hpl (hT0.below hW hT0.2))
      have c22 := Lib.hid (fun A' R' k1 k2 W (h1 : ItsAt W.heap.size W A' b.its) (h2 : RusAt W.heap.size W R' b.rus) (hW : Below W0.heap.size W0 W) => Same_ref A' R' AI AR k1 k2 cI cR W.heap.size b W (Nat.le_refl _) h1 h2 ((hI.below hW (Nat.le_refl _)).below (Below.refl _ _) hW.size) ((hR.below hW (Nat.le_refl _)).below (Below.refl _ _) hW.size) hs)
      have c47g := Lib.hid (fun (h0 : vlR b = 0) A' R' k1 k2 B' W (h1 : ItsAt B' W A' b.its) (h2 : RusAt B' W R' b.rus) (hB : B' ≤ W.heap.size) => Reduce_any A' R' k1 k2 B' b W hB h1 h2 hs h0)
      have c48g := Lib.hid (fun (h0 : vlR b = 0) W (hW : Below W0.heap.size W0 W) => Reduce_ref AI AR cI cR W0.heap.size b W hW.size (hI.below hW (Nat.le_refl _)) (hR.below hW (Nat.le_refl _)) hs h0)
      have c47b := Lib.hid (fun (h0 : vlR b ≠ 0) A' R' k1 k2 B' W (h1 : ItsAt B' W A' b.its) (h2 : RusAt B' W R' b.rus) (hB : B' ≤ W.heap.size) => Reduce_bad A' R' k1 k2 B' b W hB h1 h2 hs h0)
      have c48b := Lib.hid (fun (h0 : vlR b ≠ 0) W (hW : Below W0.heap.size W0 W) => Reduce_ref_bad AI AR cI cR W0.heap.size b W hW.size (hI.below hW (Nat.le_refl _)) (hR.below hW (Nat.le_refl _)) hs h0)
      have Hred := Lib.hid (fun m (h0 : vlR b = 0) (hm : RedR b.p.toNat b.rus.length b.rus m) => red_facts h0 hs hm)
      clear h h' hi hI hR hP hT hT0 hb0 hw0 hlg hs
      go_enter Tryd.func12, Tryd.ntmps12
      go_wp2_with (first
        | (have tk := tok; clear tok; go_at_call 17; rw [← hW0]; clear hW0; refine clg.out.mono ?_; rintro e w1 ⟨rfl, hd1⟩; have tok2 := tk; obtain ⟨z0, z1, z2, _⟩ := HX.out _ hd1)
        | (have tk := tok2; clear tok2; go_at_call 19; refine (c19.out _ hd1).mono ?_; rintro e w2 ⟨A', R', k1, k2, qs0, lo0, rfl, _, hi2, ⟨hr2, _⟩, hd2⟩; have hb2 := hd1.trans (hd2.mono hd1.size); have tok3 := tk; clear z0 z1 z2; obtain ⟨z0, z1, z2, _⟩ := HX.out _ hb2))
      clear z0 z1 z2
      obtain ⟨W3, hW3⟩ : ∃ W3, W3 = w2.alloc (.cells #[.int .i64 b.p, .slice A' b.its.length k1, .slice R' b.rus.length k2] 25) := ⟨_, rfl⟩
      have hk3 : Blk W3 w2.heap.size 25 #[.int .i64 b.p, .slice A' b.its.length k1, .slice R' b.rus.length k2] := by rw [hW3]; exact Blk.new w2 25 _
      have hb3 : Below W0.heap.size W0 W3 := by rw [hW3]; exact balloc hb2 _
      have hd23 : Below w2.heap.size w2 W3 := by rw [hW3]; exact balloc (Below.refl _ _) _
      have HI3 := Lib.hid (hi2.at.below hd23 hd23.size)
      have HR3 := Lib.hid (hr2.at.below hd23 hd23.size)
      have hl3 : w2.heap.size < W3.heap.size := hk3.lt
      have HB3 := Lib.hid (fun W (hW : Below W3.heap.size W3 W) => hb3.trans (hW.mono hb3.size))
      have HX3 := Lib.hid (fun W (hW : Below W3.heap.size W3 W) => blk3 (hk3.below hW hl3))
      obtain ⟨z0, z1, z2, _⟩ := HX.out _ hb3
      obtain ⟨y0, y1, y2, _⟩ := HX3.out _ (Below.refl _ _)
      rw [← hW3]
      clear hW3 hk3 hi2 hr2 hd23 hb2 hd1 hd2
      by_cases h0 : vlR b = 0
      · go_wp2_with (first
          | (have tk := tok3; clear tok3; go_at_call 47; refine (c47g.out h0 A' R' k1 k2 W3.heap.size W3 HI3.out HR3.out (Nat.le_refl _)).mono ?_; rintro e w4 ⟨A4, R4, k3, k4, qs, m, rfl, hi4, hm, hr4, hd4⟩; have tok4 := tk; clear z0 z1 z2 y0 y1 y2; obtain ⟨z0, z1, z2, _⟩ := HX.out (w4.alloc (.cells #[.int .i64 b.p, .slice A4 b.its.length k3, .slice R4 m.length k4] 25)) (balloc (HB3.out _ hd4) _))
          | (have tk := tok4; clear tok4; go_at_call 48; obtain ⟨W5, hW5⟩ : ∃ W5, W5 = w4.alloc (.cells #[.int .i64 b.p, .slice A4 b.its.length k3, .slice R4 m.length k4] 25) := ⟨_, rfl⟩; rw [← hW5]
             have hk5 : Blk W5 w4.heap.size 25 #[.int .i64 b.p, .slice A4 b.its.length k3, .slice R4 m.length k4] := by rw [hW5]; exact Blk.new w4 25 _
             have hb5 : Below W3.heap.size W3 W5 := by rw [hW5]; exact balloc hd4 _
             have hd45 : Below w4.heap.size w4 W5 := by rw [hW5]; exact balloc (Below.refl _ _) _
             have HI5 := Lib.hid (hi4.below hd45 hd45.size)
             have HR5 := Lib.hid (hr4.below hd45)
             have Hst := Lib.hid (Wo.start hr4 (Hred.out m h0 hm).2.2.2.2.2.2)
             have hl5 : w4.heap.size < W5.heap.size := hk5.lt
             have HB5 := Lib.hid (fun W (hW : Below W5.heap.size W5 W) => hb5.trans (hW.mono hb5.size))
             have HX5 := Lib.hid (fun W (hW : Below W5.heap.size W5 W) => blk3 (hk5.below hW hl5))
             clear hk5 hd45 hi4 hr4 hW5
             refine (c48g.out h0 W5 (HB3.out _ hb5)).mono ?_; rintro e w6 ⟨A6, R6, k5, k6, m', rfl, hi6, hm', hr6, hd6⟩; obtain rfl := hm.unique hm'; clear hm'; have tok5 := tk; clear z0 z1 z2; obtain ⟨z0, z1, z2, _⟩ := HX.out (w6.alloc (.cells #[.int .i64 b.p, .slice A6 b.its.length k5, .slice R6 m.length k6] 25)) (balloc (HB3.out _ (HB5.out _ hd6)) _))
          | (have tk := tok5; clear tok5; go_at_call 49; obtain ⟨W7, hW7⟩ : ∃ W7, W7 = w6.alloc (.cells #[.int .i64 b.p, .slice A6 b.its.length k5, .slice R6 m.length k6] 25) := ⟨_, rfl⟩; rw [← hW7]
             have hk7 : Blk W7 w6.heap.size 25 #[.int .i64 b.p, .slice A6 b.its.length k5, .slice R6 m.length k6] := by rw [hW7]; exact Blk.new w6 25 _
             have hb7 : Below W5.heap.size W5 W7 := by rw [hW7]; exact balloc hd6 _
             have hd67 : Below w6.heap.size w6 W7 := by rw [hW7]; exact balloc (Below.refl _ _) _
             have HI7 := Lib.hid (hi6.below hd67 hd67.size)
             have HR7 := Lib.hid (hr6.below hd67 hd67.size)
             have hl7 : w6.heap.size < W7.heap.size := hk7.lt
             have HB7 := Lib.hid (fun W (hW : Below W7.heap.size W7 W) => hb7.trans (hW.mono hb7.size))
             have HX7 := Lib.hid (fun W (hW : Below W7.heap.size W7 W) => blk3 (hk7.below hW hl7))
             have HW7 := Lib.hid (Below.refl W7.heap.size W7)
             clear hk7 hd67 hi6 hr6 hW7 hb7
             obtain ⟨hs', hv', hcd', hcl', huq', hml, hm1⟩ := Hred.out m h0 hm
             have Hs' := Lib.hid hs'
             have Hv' := Lib.hid hv'
             have Hcd' := Lib.hid hcd'
             have Hcl' := Lib.hid hcl'
             have Huq' := Lib.hid huq'
             clear hs' hv' hcd' hcl' huq' hm1
             have q := c49.out W7 (HB3.out _ (HB5.out _ (HB7.out _ HW7.out)))
             rw [h0] at q
             refine q.mono ?_; rintro e w8 ⟨rfl, hd8⟩; clear q; have tok6 := tk; clear z0 z1 z2; obtain ⟨z0, z1, z2, _⟩ := HX.out _ (HB3.out _ (HB5.out _ (HB7.out _ hd8))))
          | (have tk := tok6; clear tok6; go_at_call 50
             have q := c50.out w8 (HB3.out _ (HB5.out _ (HB7.out _ hd8)))
             rw [h0] at q
             refine q.mono ?_; rintro e w9 ⟨rfl, hd⟩; clear q; have hd9 := hd8.trans (hd.mono hd8.size); clear hd; have tok7 := tk; clear z0 z1 z2; obtain ⟨z0, z1, z2, _⟩ := HX5.out _ (HB7.out _ hd9); obtain ⟨y0, y1, y2, _⟩ := HX7.out _ hd9)
          | (have tk := tok7; clear tok7; go_at_call 22
             refine (Same_ref A4 R4 A6 R6 k3 k4 k5 k6 W7.heap.size ⟨b.p, b.its, m⟩ w9 hd9.size (HI5.out.below (HB7.out _ hd9) (HB7.out _ HW7.out).size) ((HR5.out.at rfl).below (HB7.out _ hd9) (HB7.out _ HW7.out).size) (HI7.out.below hd9 (Nat.le_refl _)) (HR7.out.below hd9 (Nat.le_refl _)) Hs'.out).mono ?_; rintro e w10 ⟨rfl, hd⟩; have hd10 := hd9.trans (hd.mono hd9.size); clear hd; have tok8 := tk; clear z0 z1 z2 y0 y1 y2; obtain ⟨z0, z1, z2, _⟩ := HX5.out _ (HB7.out _ hd10)))
        have HA := Lib.hid (fun W (hW : Below W7.heap.size W7 W) => And.intro (HI5.out.below (HB7.out _ hW) (HB7.out _ hW).size) ((HR5.out.at rfl).below (HB7.out _ hW) (HB7.out _ hW).size))
        have HC := Lib.hid (fun W (hW : Below W7.heap.size W7 W) => HB3.out _ (HB5.out _ (HB7.out _ hW)))
        clear hd9 hd8 hd6 hb5 hd4
        go_wp2_with (first
          | (have tk := tok8; clear tok8; go_at_call 49
             have q := Closed_any A4 R4 k3 k4 w10.heap.size ⟨b.p, b.its, m⟩ w10 (Nat.le_refl _) (HA.out _ hd10).1 (HA.out _ hd10).2 Hs'.out
             rw [Hv'.out, Hcd'.out] at q
             refine q.mono ?_; rintro e w11 ⟨rfl, hd⟩; have hd11 := hd10.trans (hd.mono hd10.size); clear hd q; have tok9 := tk; clear z0 z1 z2; obtain ⟨z0, z1, z2, _⟩ := HX.out _ (HC.out _ hd11))
          | (have tk := tok9; clear tok9; go_at_call 31; refine (c31.out _ (HC.out _ hd11)).mono ?_; rintro e w12 ⟨v2, rfl, hv2, hd⟩; have hd12 := hd11.trans (hd.mono hd11.size); obtain ⟨L2, A2, k7, rfl, i2, hL2⟩ := hv2.ints; have tok10 := tk; clear hd hv2 z0 z1 z2; obtain ⟨z0, z1, z2, _⟩ := HX5.out _ (HB7.out _ hd12))
          | (have tk := tok10; clear tok10; go_at_call 31
             have q := c31a.out A4 R4 k3 k4 m w12 Hs'.out (HA.out _ hd12).1 (HA.out _ hd12).2 (HC.out _ hd12)
             rw [Hcl'.out] at q
             refine q.mono ?_; rintro e w13 ⟨v3, rfl, hv3, hd⟩; clear q; have hd13 := hd12.trans (hd.mono hd12.size); obtain ⟨L3, A3, k8, rfl, i3, hL3⟩ := hv3.ints; obtain rfl := Huq'.out _ _ _ hL2 hL3; have i2' := i2.below hd hd.size; have tok11 := tk; clear hd hv3 z0 z1 z2)
          | (have tk := tok11; clear tok11; go_at_call 25; refine (sameInts_ref A2 A3 k7 k8 _ _ _ _ i2' i3 (by have := hL2.short; omega)).mono ?_; rintro e w14 ⟨rfl, hd⟩; have hd14 := hd13.trans (hd.below _); have tok12 := tk; clear hd i2' i3))
        have hb14 : Below W3.heap.size W3 w14 := HB5.out _ (HB7.out _ hd14)
        have Hc14 := Lib.hid (HX5.out _ (HB7.out _ hd14)).2.2.1
        have Hw14 := Lib.hid (Wo.start (HR5.out.below (HB7.out _ hd14)) (Hred.out m h0 hm).2.2.2.2.2.2).1
        have Hb14 := Lib.hid hb14
        obtain ⟨_, hg4, hq4⟩ := Hst.out
        have Hg4 := Lib.hid hg4
        have Hq4 := Lib.hid hq4
        have Hml := Lib.hid hml
        clear hb14 hg4 hq4 Hst HR5 HR7 HI7 HA hd14 hd13 hd12 hd11 hd10 hL2 hL3 i2 hm h0 hml
        generalize m.length = n at *
        generalize qs.map (·.1) = q0 at *
        have hn60 := Hml.out
        go_loopw [21] (fun vi wx => ∃ i : Nat, i ≤ n ∧ vi = .int .i64 i ∧ Below W3.heap.size W3 wx ∧ wx.cell? ⟨w4.heap.size, 2, none⟩ = some (.slice R4 n k4) ∧ Wo W3.heap.size (.slice R4 n k4) q0 n wx) (fun vi _ => n - (intOf vi).toNat)
        case atStart => exact ⟨0, Nat.zero_le _, rfl, Hb14.out, Hc14.out, Hw14.out⟩
        case round =>
          clear Hb14 Hc14 Hw14
          obtain ⟨i, hi, rfl, hbw, hc6, hwo⟩ := hrel
          by_cases hlt2 : i < n
          · obtain ⟨g, rfl, hlog, hgw, A1, m1, c1, u, hm1, hq, x0, x1, hf, hput, hin⟩ := hwo.at hlt2
            have hiI : (i : Int) < (n : Int) := by omega
            have hi0 : (0 : Int) ≤ (i : Int) := by omega
            have hg6 : g ≠ w4.heap.size := Nat.ne_of_lt (Hg4.out _ rfl)
            have Hwo1 := Lib.hid (hput (-1))
            have Hb1 := Lib.hid (below_put' hbw hlog (i * 2 + 1) (.int .i64 (-1)))
            have Hc1 := Lib.hid (keepC hg6 hc6 (i := i * 2 + 1) (v := .int .i64 (-1)))
            clear hput hin hwo
            go_wp2_with fail
            have hq4 := fun q => Hq4.out i q m1 c1
            have Hqq := Lib.hid hq
            have Hqb := Lib.hid (fun (q : Nat) (e : A1 = some ⟨q, 0, none⟩) => hq4 q (by rw [hq, e]))
            clear hq hq4 x0 x1 hf hc6 hbw hi hgw hg6
            go_loopw [22] (fun vk wx => ∃ r : Nat, r ≤ m1 ∧ vk = .int .i64 r ∧ Below W3.heap.size W3 wx ∧ wx.cell? ⟨w4.heap.size, 2, none⟩ = some (.slice (some ⟨g, 0, none⟩) n k4) ∧ Wo W3.heap.size (.slice (some ⟨g, 0, none⟩) n k4) q0 n wx) (fun vk _ => m1 - (intOf vk).toNat)
            case atStart => exact ⟨0, Nat.zero_le _, rfl, Hb1.out, Hc1.out, Hwo1.out⟩
            case round =>
              clear Hb1 Hc1 Hwo1
              obtain ⟨r, hr, rfl, hbw, hc6, hwo⟩ := hrel
              obtain ⟨g', eg, hlog', hgw', A1', m1', c1', u', hm1', hq', x0, x1, hf, _, hin⟩ := hwo.at hlt2
              injection eg with eg
              injection eg with eg _ _
              subst eg
              rw [Hqq.out] at hq'
              injection hq' with hq'
              injection hq' with e1 e2 e3
              subst e1 e2 e3
              clear x1 hf hm1' hgw' hlog'
              by_cases hlt3 : r < m1
              · obtain ⟨q, y, rfl, hloq, hqw, y0, hf, hput⟩ := hin r hlt3
                have hrI : (r : Int) < (m1 : Int) := by omega
                have hr0 : (0 : Int) ≤ (r : Int) := by omega
                have hq6 : q ≠ w4.heap.size := Nat.ne_of_lt (Hqb.out q rfl)
                have Hwo2 := Lib.hid (hput (-1))
                have Hb2 := Lib.hid (below_put' hbw hloq r (.int .i64 (-1)))
                have Hc2 := Lib.hid (keepC hq6 hc6 (i := r) (v := .int .i64 (-1)))
                clear hput hin hwo hbw
                go_wp2_with fail
                go_roundw
                case rel => exact ⟨r + 1, by omega, by go_num, Hb2.out, Hc2.out, Hwo2.out⟩
                case measure => simp [intOf]; omega
              · obtain rfl : r = m1 := by omega
                have Hwo2 := Lib.hid hwo
                have Hb2 := Lib.hid hbw
                clear hin hwo hbw
                go_wp2_with fail
                go_roundw
                case rel => exact ⟨i + 1, by omega, by go_num, Hb2.out, hc6, Hwo2.out⟩
                case measure => simp [intOf]; omega
          · obtain rfl : i = n := by omega
            obtain ⟨z0, z1, z2, _⟩ := HX.out _ (HB3.out _ hbw)
            obtain ⟨y0, y1, y2, _⟩ := HX3.out _ hbw
            have q22 := Lib.hid (c22.out A' R' k1 k2 wr (HI3.out.below hbw hbw.size) (HR3.out.below hbw hbw.size) (HB3.out _ hbw))
            have Hbw := Lib.hid (HB3.out _ hbw)
            clear hwo hbw
            go_wp2_with (first
              | (have tk := tok12; clear tok12; go_at_call 22; refine q22.out.mono ?_; rintro e w15 ⟨rfl, hd⟩; have hd15 := Hbw.out.trans (hd.mono Hbw.out.size); clear hd; have tok13 := tk)
              | (have tk := tok13; clear tok13; go_at_call 18; refine (ck.out _ hd15).mono ?_; rintro e w16 ⟨rfl, hd⟩; have hd16 := hd15.trans (hd.mono hd15.size); clear hd))
            go_ret
            exact ⟨rfl, Hw.out.trans (hd16.mono Hw.out.size)⟩
      · have c47 := Lib.hid (c47b.out h0 A' R' k1 k2 W3.heap.size W3 HI3.out HR3.out (Nat.le_refl _))
        have c48 := Lib.hid (c48b.out h0)
        have he2 : (vlR b != 0) = true := by simpa using h0
        have cs := Lib.hid (fun W => Same_ref none none none none 0 0 0 0 W.heap.size ⟨0, [], []⟩ W (Nat.le_refl _) (fun k hk => by simp at hk) (fun k hk => by simp at hk) (fun k hk => by simp at hk) (fun k hk => by simp at hk) ⟨by simp, by simp, by simp, by simp⟩)
        generalize vlR b = e0 at c47 c48 c49 c50 he2
        generalize cdR b = cd at c49 c50
        clear h0 Hred c47g c48g c47b c48b c31 c31a c22
        go_wp2_with (first
          | (have tk := tok3; clear tok3; go_at_call 47; refine c47.out.mono ?_; rintro e w4 ⟨rfl, hd4⟩; have tok4 := tk; clear z0 z1 z2 y0 y1 y2; obtain ⟨z0, z1, z2, _⟩ := HX.out (w4.alloc (.cells #[.int .i64 0, .slice none 0 0, .slice none 0 0] 25)) (balloc (HB3.out _ hd4) _))
          | (have tk := tok4; clear tok4; go_at_call 48; obtain ⟨W5, hW5⟩ : ∃ W5, W5 = w4.alloc (.cells #[.int .i64 0, .slice none 0 0, .slice none 0 0] 25) := ⟨_, rfl⟩; rw [← hW5]
             have hk5 : Blk W5 w4.heap.size 25 #[.int .i64 0, .slice none 0 0, .slice none 0 0] := by rw [hW5]; exact Blk.new w4 25 _
             have hb5 : Below W3.heap.size W3 W5 := by rw [hW5]; exact balloc hd4 _
             have hl5 : w4.heap.size < W5.heap.size := hk5.lt
             have HB5 := Lib.hid (fun W (hW : Below W5.heap.size W5 W) => hb5.trans (hW.mono hb5.size))
             have HX5 := Lib.hid (fun W (hW : Below W5.heap.size W5 W) => blk3 (hk5.below hW hl5))
             clear hk5 hW5
             refine (c48.out W5 (HB3.out _ hb5)).mono ?_; rintro e w6 ⟨rfl, hd6⟩; have tok5 := tk; clear z0 z1 z2; obtain ⟨z0, z1, z2, _⟩ := HX.out (w6.alloc (.cells #[.int .i64 0, .slice none 0 0, .slice none 0 0] 25)) (balloc (HB3.out _ (HB5.out _ hd6)) _))
          | (have tk := tok5; clear tok5; go_at_call 49; obtain ⟨W7, hW7⟩ : ∃ W7, W7 = w6.alloc (.cells #[.int .i64 0, .slice none 0 0, .slice none 0 0] 25) := ⟨_, rfl⟩; rw [← hW7]
             have hk7 : Blk W7 w6.heap.size 25 #[.int .i64 0, .slice none 0 0, .slice none 0 0] := by rw [hW7]; exact Blk.new w6 25 _
             have hb7 : Below W5.heap.size W5 W7 := by rw [hW7]; exact balloc hd6 _
             have hl7 : w6.heap.size < W7.heap.size := hk7.lt
             have HB7 := Lib.hid (fun W (hW : Below W7.heap.size W7 W) => hb7.trans (hW.mono hb7.size))
             have HX7 := Lib.hid (fun W (hW : Below W7.heap.size W7 W) => blk3 (hk7.below hW hl7))
             have HW7 := Lib.hid (Below.refl W7.heap.size W7)
             clear hk7 hW7 hb7
             refine (c49.out W7 (HB3.out _ (HB5.out _ (HB7.out _ HW7.out)))).mono ?_; rintro e w8 ⟨rfl, hd8⟩; have tok6 := tk; clear z0 z1 z2; obtain ⟨z0, z1, z2, _⟩ := HX.out _ (HB3.out _ (HB5.out _ (HB7.out _ hd8))))
          | (have tk := tok6; clear tok6; go_at_call 50
             refine (c50.out w8 (HB3.out _ (HB5.out _ (HB7.out _ hd8)))).mono ?_; rintro e w9 ⟨rfl, hd⟩; have hd9 := hd8.trans (hd.mono hd8.size); clear hd; have tok7 := tk; clear z0 z1 z2; obtain ⟨z0, z1, z2, _⟩ := HX5.out _ (HB7.out _ hd9); obtain ⟨y0, y1, y2, _⟩ := HX7.out _ hd9)
          | (have tk := tok7; clear tok7; go_at_call 22
             refine (cs.out w9).mono ?_; rintro e w10 ⟨rfl, hd⟩; have hd10 := HB3.out _ (HB5.out _ (HB7.out _ (hd9.trans (hd.mono hd9.size)))); clear hd; have tok8 := tk; clear z0 z1 z2 y0 y1 y2)
          | (have tk := tok8; clear tok8; go_at_call 18; refine (ck.out _ hd10).mono ?_; rintro e w11 ⟨rfl, hd⟩; have hd11 := hd10.trans (hd.mono hd10.size); clear hd))
        go_ret
        exact ⟨rfl, Hw.out.trans (hd11.mono Hw.out.size)⟩
end Go.Proofs.YtgoojcjfhghmgaaDoor


namespace Go.Proofs.YtgoojcjfhghmgaaDoor.lawDishReduces
open Go.ChangeShapes Go.WideShapes Go.ChangeAt Go.RowKit Go.Deep
set_option linter.unusedVariables false

set_option maxRecDepth 100000 in
theorem lifted (os : Os) (started : os.Started) (H : Type) (enc : TypeId × Value → H) :
    ReturnsInHanded {} Tryd.checked os 12 .any (fun w args => (Rows.dishReducesSpec.pre enc Tryd.prog Tryd.f12 Rows.dishReducesRow.domain false w args ∧ laidMetH Tryd.prog laidV w) ∧ sizedMet enc Tryd.prog Tryd.f12 (OpenSpec.ofChange Rows.dishReducesSpec) false w args)
      (Rows.dishReducesSpec.post enc Tryd.prog Tryd.f12 false true false false) := by
  refine returnsInHanded_of_change_and (C := Tryd.checked) (X := fun w _ => laidMetH Tryd.prog laidV w) (fun _ _ _ hh h => h.of_heap hh) own started (by kernel_rfl) Tryd.func12
    (ChangeSpec.witness_shaped (enc := enc) (C := Tryd.checked) (os := os) (X := fun w _ => laidMetH Tryd.prog laidV w) false (World.laidAll Tryd.prog os laidV) #[.agg #[.int .i64 0, .slice none 0 0, .slice none 0 0], .slice none 0 0] 8 (World.laidAll_os _ _ _)
      (World.shaped_of_ZipB (by kernel_rfl) (by kernel_rfl)) (by kernel_rfl) (by kernel_rfl) (by kernel_rfl)
      (by rw [MakeChecks.laidMetH_plain _ _ _ (by kernel_rfl)]; exact laidMet_laidAll _ (by kernel_rfl) (by kernel_rfl))) ?_
  intro W base args ds gs before hval0 hW hcnd _ hL _
  have hT := tab_of_laid hL
  have hval : ∀ (j : Nat) t v, Tryd.f12.params[j]? = some t → args[j]? = some v → Value.okWide Tryd.prog W .any base t v := hval0
  have hW' := hW
  obtain ⟨p, q, hA0, hV, rfl, hfz, hnd⟩ := hW
  have hA : DataW.TrodAll enc Tryd.prog W 0 (fun _ => true) true Tryd.f12.params.toList args.toList ds p := hA0
  rw [Tryd.params12] at hA hval
  obtain ⟨v0, vs0, d0, ds0, p0, q0, hargs, rfl, rfl, h0, r0⟩ := trodAll_cons hA
  obtain ⟨v1, vs1, d1, ds1, p1, q1, rfl, rfl, rfl, h1, r1⟩ := trodAll_cons r0
  obtain ⟨rfl, rfl, rfl⟩ := trodAll_nil r1
  obtain rfl : args = #[v0, v1] := by cases args; simp_all
  obtain ⟨rfl, rfl⟩ := trodVars_none hV
  have k0 := h0
  have lt0 : ∀ x ∈ p0, x.block < W.heap.size := by obtain ⟨m, hm⟩ := k0; exact DataW.trod_lt m _ _ _ hm
  obtain ⟨AI0, AR0, cI0, cR0, b0, rfl, I0, R0, S0⟩ := open_book (hval 0 25 v0 rfl rfl) h0
  have k1 := h1
  have lt1 : ∀ x ∈ p1, x.block < W.heap.size := by obtain ⟨m, hm⟩ := k1; exact DataW.trod_lt m _ _ _ hm
  obtain ⟨fu1, hf1⟩ := h1
  obtain ⟨A1, c1, z1, e1, i1, b1, m1⟩ := open_intsAt Tryd.underlying32 Tryd.underlying3 (by kernel_rfl) hf1
  obtain ⟨A1', n1', c1', rfl⟩ := okWide_slice Tryd.underlying32 (hval 1 32 v1 rfl rfl)
  obtain ⟨rfl, rfl, rfl⟩ : A1' = A1 ∧ n1' = z1.length ∧ c1' = c1 := by simpa [Value.cells] using e1
  clear hA0 hval0
  refine (law_reduces AI0 AR0 cI0 cR0 A1' c1' b0 z1 W I0 R0 i1 hT).mono fun e W' ⟨he, bel⟩ => ?_
  subst he
  exact ⟨_, rfl, _, _, _, [], _, [], hW', trodAll_mk1 (shut_bool Tryd.underlying4 _), (trodAll_cons_mk (Below.trod laidOut (by kernel_rfl) (of_decide_eq_true (by kernel_rfl)) k0 bel lt0) (trodAll_cons_mk (Below.trod laidOut (by kernel_rfl) (of_decide_eq_true (by kernel_rfl)) k1 bel lt1) trodAll_mk0)), rfl, bel.frame _, fun h => by cases h⟩

theorem over : Rows.dishReducesRow.holds Tryd.pinned (OpenSpec.ofChange Rows.dishReducesSpec) :=
  OpenClaim.holds_of_wide 12 Tryd.f12 rfl rfl rfl rfl rfl rfl rfl ⟨rfl, rfl, rfl, rfl, rfl⟩ rfl rfl rfl rfl rfl (by kernel_rfl) Tryd.func12 (by kernel_rfl)
    (of_decide_eq_true (by kernel_rfl)) (by unfold Func.isWrapper; first | (rw [if_pos (by decide +kernel)]; kernel_rfl) | (rw [if_neg (by decide +kernel)]; exact ⟨rfl, rfl⟩))
    (fun os started H enc _ => lifted os started H enc)

/-- The statement: the tied card. -/
theorem proved : Rows.DishReducesCardSaid :=
  Claim7.holds_tied_plain_at .later [] [.data, .data] true (true, "8c487879d048aae23dd660c744b71e8b4582616f73d0860a610df5222bf65492") false
    over (fun _ h => by cases h) (by kernel_rfl) (fun _ h => by cases h) dishReduces_row_tie rfl ⟨rfl, rfl⟩ mainIs rfl
    (fun f fn hf hfn => by
      obtain rfl : f = 12 := Option.some.inj ((show Tryd.prog.funcNamed "canteen/canteenlaw02.DishReduces" = some 12 by kernel_rfl).symm.trans hf) |>.symm
      obtain rfl : fn = Tryd.f12 := (Option.some.inj (Tryd.func12.symm.trans hfn)).symm
      exact ⟨by kernel_rfl, fun j t ht => by
        rw [Tryd.params12] at ht
        have hm : t ∈ [25, 32] := by simpa using Array.mem_of_getElem? ht
        have hall : ([25, 32].all fun u => !Tryd.prog.wantsStandIn u) = true := by kernel_rfl
        exact (show Tryd.prog.wantsStandIn t = false by simpa using List.all_eq_true.1 hall t hm)⟩)
    (by kernel_rfl)
end Go.Proofs.YtgoojcjfhghmgaaDoor.lawDishReduces
