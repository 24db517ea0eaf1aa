/- Latest f50, f51; law VanLatest. -/
import Derived.Test.YtmodbpglopfghaaVanAu
import Derived.Test.YtmodbpglopfghaaVanAt
set_option linter.unusedSimpArgs false
set_option linter.unusedVariables false
namespace Go.Proofs.Ytmodbpglopfghaa
open Go.RowKit

def laV (r : Nat) : Int := if r = 0 then 0 else (r : Int) - 1
def laO (r : Nat) : Bool := decide (r ≠ 0)
theorem la_zero : laV 0 = 0 ∧ laO 0 = false := ⟨rfl, rfl⟩
theorem la_succ (k : Nat) : laV (k + 1) = (k : Int) ∧ laO (k + 1) = true := ⟨by unfold laV; rw [if_neg (by omega)]; omega, rfl⟩

section
variable (A A1 A2 : Option Addr) (c c1 c2 B : Nat) (rows : List (List Int)) (n : Nat) (g : Nat → Nat → Int) (t : List Int) (w : World) (hB : B ≤ w.heap.size) (h : TblAt B w A rows) (hl : rows.length ≤ 30 ∧ ∀ r ∈ rows, r.length ≤ 30) (h1 : StAt B w A1 n g) (hn : n ≤ 1000)
    (h2 : IntsAt B w A2 t) (hm : t.length ≤ 1000) (hcap : t.length ≤ c2)
include hB h hl h1 hn h2 hm hcap

set_option maxRecDepth 100000 in
set_option maxHeartbeats 1000000 in
theorem Latest_any (hts : tsR rows n g t = 0) :
    Calls Try.prog 50 #[.slice A rows.length c, .slice A1 n c1, .slice A2 t.length c2] w fun e w' => ∃ r, e = .returned (.tuple #[.int .i64 (laV r), .bool (laO r), .int .i64 0]) ∧ LaIs 10001 (lateB (wy rows) g (toN t)) r ∧ Below w.heap.size w w' := by
  obtain ⟨⟨hv, hnr, hvs⟩, htu⟩ := ts_zero hts
  obtain ⟨hi, hs⟩ := tu_stp htu
  have h' := h.below (Below.refl _ _) hB
  have h1' := h1.below (Below.refl _ _) hB
  have h2' := h2.below (Below.refl _ _) hB
  have cs := Lib.hid (fun W (hW : Below w.heap.size w W) => stopped_any A A1 A2 c c1 c2 w.heap.size rows n g t W hW.size (h'.below hW (Nat.le_refl _)) hl (h1'.below hW (Nat.le_refl _)) hn (h2'.below hW (Nat.le_refl _)) hm hcap)
  rw [hts] at cs
  obtain ⟨b, off, rfl, hwa⟩ := WaAt.of_tbl h' hv
  have cf := Lib.hid (fun (q3 q4 q5 : Nat) (i : Nat) (hi9 : i ≤ 10000) W (hW : Below w.heap.size w W) => latest1_any b off rows.length c c1 c2 w.heap.size (wy rows) g A1 A2 (toN t) W hW.size (hwa.below hW (Nat.le_refl _)) hv.bd (by rw [← hnr]; exact h1'.below hW (Nat.le_refl _)) (by rw [← hnr]; exact hvs) (by rw [hi]; exact h2'.below hW (Nat.le_refl _)) (fun x hx => (hs.2 x hx).2) hv.n0 (by omega) (by rw [toN_length]; exact hm) q3 q4 q5 i hi9)
  rw [← hnr, toN_length] at cf
  have HM := Lib.hid (fun i j (hij : i ≤ j) => lateB_mono (f := wy rows) (g := g) (t := toN t) hij)
  generalize lateB (wy rows) g (toN t) = P at cf HM ⊢
  clear h hl h1 h2 h' h1' h2' hts hv hvs htu hi hs hwa
  rw [← hnr] at cs ⊢
  clear hnr
  go_enter Try.func50, Try.ntmps50
  go_wp2_with fail
  generalize hW0 : ((w.alloc (.cells #[.slice (some ⟨b, off, none⟩) n c] 22)).alloc (.cells #[.slice A1 n c1] 43)).alloc (.cells #[.slice A2 t.length c2] 28) = W0
  have HK3 := Lib.hid (show Blk W0 w.heap.size 22 #[.slice (some ⟨b, off, none⟩) n c] by rw [← hW0]; exact ((Blk.new _ _ _).alloc _).alloc _)
  have HK4 := Lib.hid (show Blk W0 (w.heap.size + 1) 43 #[.slice A1 n c1] by rw [← hW0]; exact (blk_new' (by simp)).alloc _)
  have HK5 := Lib.hid (show Blk W0 (w.heap.size + 1 + 1) 28 #[.slice A2 t.length c2] by rw [← hW0]; exact blk_new' (by simp))
  have hB0 : Below w.heap.size w W0 := by rw [← hW0]; exact (((Below.refl _ _).alloc (Nat.le_refl _) _).alloc (by simp) _).alloc (by simp; omega) _
  have HB0 := Lib.hid hB0
  have HCs := Lib.hid (show ∀ W, Below W0.heap.size W0 W → W.cell? ⟨w.heap.size, 0, none⟩ = some (.slice (some ⟨b, off, none⟩) n c) ∧ W.cell? ⟨w.heap.size + 1, 0, none⟩ = some (.slice A1 n c1) ∧ W.cell? ⟨w.heap.size + 1 + 1, 0, none⟩ = some (.slice A2 t.length c2) from fun W hW =>
    ⟨(blk1 (HK3.out.below hW HK3.out.lt)).1, (blk1 (HK4.out.below hW HK4.out.lt)).1, (blk1 (HK5.out.below hW HK5.out.lt)).1⟩)
  obtain ⟨k3, k4, k5⟩ := HCs.out _ (Below.refl _ _)
  have HSe := Lib.hid (fun (W : World) (hW : Below W0.heap.size W0 W) => Search_any 10001 (by decide) #[.pointer (some ⟨w.heap.size, 0, none⟩), .pointer (some ⟨w.heap.size + 1, 0, none⟩), .pointer (some ⟨w.heap.size + 1 + 1, 0, none⟩)] P HM.out W (fun i W' hi9 hW' => by
    have hWW := hW.trans (hW'.mono hW.size)
    obtain ⟨q3, q4, q5⟩ := HCs.out _ hWW
    exact cf.out _ _ _ i (by omega) W' (HB0.out.trans (hWW.mono HB0.out.size)) q3 q4 q5))
  clear hW0 hB0
  go_wp2_with (go_at_call 71; refine (cs.out _ HB0.out).mono ?_; rintro e w1 ⟨rfl, hb1⟩; clear k3 k4 k5; obtain ⟨k3, k4, k5⟩ := HCs.out _ (hb1.mono (Nat.le_refl _)))
  go_at_call 80
  refine (HSe.out _ hb1).mono ?_
  rintro e w2 ⟨r, rfl, hr, hb2⟩
  have HR := Lib.hid hr
  have HB2 := Lib.hid (HB0.out.trans ((hb1.trans (hb2.mono hb1.size)).mono HB0.out.size))
  have hr1 := hr.1
  clear hr
  cases r with
  | zero =>
    go_wp2_with fail
    go_ret3
    exact ⟨0, rfl, HR.out, HB2.out⟩
  | succ k =>
    have Hk := Lib.hid (la_succ k)
    have hz : (((k + 1 : Nat) : Int) == 0) = false := by simp; omega
    have hw : IntKind.i64.wrap (((k + 1 : Nat) : Int) - 1) = (k : Int) := by rw [IntWalk.i64_in _ (by omega)]; omega
    have hw2 : ((k + 1 : Nat) : Int) - 1 = (k : Int) := by omega
    go_wp2_with fail
    go_ret3
    refine ⟨k + 1, ?_, HR.out, HB2.out⟩
    rw [Hk.out.1, Hk.out.2]
    rfl

set_option maxRecDepth 100000 in
set_option maxHeartbeats 1000000 in
theorem Latest_bad (hts : tsR rows n g t ≠ 0) :
    Calls Try.prog 50 #[.slice A rows.length c, .slice A1 n c1, .slice A2 t.length c2] w fun e w' => e = .returned (.tuple #[.int .i64 0, .bool false, .int .i64 (tsR rows n g t)]) ∧ Below w.heap.size w w' := by
  have h' := h.below (Below.refl _ _) hB
  have h1' := h1.below (Below.refl _ _) hB
  have h2' := h2.below (Below.refl _ _) hB
  have cs := Lib.hid (fun W (hW : Below w.heap.size w W) => stopped_any A A1 A2 c c1 c2 w.heap.size rows n g t W hW.size (h'.below hW (Nat.le_refl _)) hl (h1'.below hW (Nat.le_refl _)) hn (h2'.below hW (Nat.le_refl _)) hm hcap)
  have hne : (tsR rows n g t != 0) = true := by simpa using hts
  generalize tsR rows n g t = e0 at cs hne ⊢
  clear h hl h1 h2 h' h1' h2' hts
  go_enter Try.func50, Try.ntmps50
  have HB0 := Lib.hid (show Below w.heap.size w (((w.alloc (.cells #[.slice A rows.length c] 22)).alloc (.cells #[.slice A1 n c1] 43)).alloc (.cells #[.slice A2 t.length c2] 28)) from (((Below.refl _ _).alloc (Nat.le_refl _) _).alloc (by simp) _).alloc (by simp; omega) _)
  go_wp2_with (go_at_call 71; refine (cs.out _ HB0.out).mono ?_; rintro e w1 ⟨rfl, hb1⟩)
  go_ret3
  exact ⟨rfl, HB0.out.trans (hb1.mono HB0.out.size)⟩

set_option maxRecDepth 100000 in
set_option maxHeartbeats 1000000 in
theorem Latest_ref_bad (hts : tsR rows n g t ≠ 0) :
    Calls Try.prog 51 #[.slice A rows.length c, .slice A1 n c1, .slice A2 t.length c2] w fun e w' => e = .returned (.tuple #[.int .i64 0, .bool false, .int .i64 (tsR rows n g t)]) ∧ Below w.heap.size w w' := by
  have cs := Lib.hid (toured_ref A A1 A2 c c1 c2 B rows n g t w hB h hl h1 hn h2 hm hcap)
  have hne : (tsR rows n g t != 0) = true := by simpa using hts
  generalize tsR rows n g t = e0 at cs hne ⊢
  clear h hl h1 h2 hts
  go_enter Try.func51, Try.ntmps51
  go_wp2_with (go_at_call 73; refine cs.out.mono ?_; rintro e w1 ⟨rfl, hb1⟩)
  go_ret3
  exact ⟨rfl, hb1⟩

set_option maxRecDepth 100000 in
set_option maxHeartbeats 1000000 in
theorem Latest_ref (hts : tsR rows n g t = 0) :
    Calls Try.prog 51 #[.slice A rows.length c, .slice A1 n c1, .slice A2 t.length c2] w fun e w' => ∃ r, e = .returned (.tuple #[.int .i64 (laV r), .bool (laO r), .int .i64 0]) ∧ LaIs 10001 (lateB (wy rows) g (toN t)) r ∧ Below w.heap.size w w' := by
  obtain ⟨⟨hv, hnr, hvs⟩, htu⟩ := ts_zero hts
  obtain ⟨hi, hs⟩ := tu_stp htu
  have h' := h.below (Below.refl _ _) hB
  have h1' := h1.below (Below.refl _ _) hB
  have h2' := h2.below (Below.refl _ _) hB
  have cs := Lib.hid (toured_ref A A1 A2 c c1 c2 B rows n g t w hB h hl h1 hn h2 hm hcap)
  rw [hts] at cs
  obtain ⟨b, off, rfl, hwa⟩ := WaAt.of_tbl h' hv
  have cf := Lib.hid (fun (i : Nat) (hi9 : i ≤ 10000) W (hW : Below w.heap.size w W) => show Calls Try.prog 77 #[.slice (some ⟨b, off, none⟩) n c, .slice A1 n c1, .slice A2 t.length c2, .int .i64 (i : Nat)] W fun e w' => ∃ v, e = .returned (.tuple #[.int .i64 v, .bool (!lateB (wy rows) g (toN t) i)]) ∧ Below W.heap.size W w' from by
    have := check_ref b off rows.length c c1 c2 w.heap.size (wy rows) g A1 A2 (toN t) (i : Int) W hW.size (hwa.below hW (Nat.le_refl _)) hv.bd (by rw [← hnr]; exact h1'.below hW (Nat.le_refl _)) (by rw [← hnr]; exact hvs) (by rw [hi]; exact h2'.below hW (Nat.le_refl _)) (fun x hx => (hs.2 x hx).2) hv.n0 (by omega) (by rw [toN_length]; exact hm) (by omega)
    rw [← hnr, toN_length] at this
    have hb : decide (ltR (wy rows) g (i : Int) (toN t) = -1) = !lateB (wy rows) g (toN t) i := by
      cases e2 : lateB (wy rows) g (toN t) i with
      | false => rw [decide_eq_true (lateB_false.1 e2)]; rfl
      | true => rw [decide_eq_false (fun h9 => by rw [lateB_false.2 h9] at e2; cases e2)]; rfl
    rw [hb] at this
    exact this.mono fun e w' q => ⟨_, q.1, q.2⟩)
  have HM := Lib.hid (fun i j (hij : i ≤ j) => lateB_mono (f := wy rows) (g := g) (t := toN t) hij)
  generalize lateB (wy rows) g (toN t) = P at cf HM ⊢
  clear h hl h1 h2 h' h1' h2' hts hv hvs htu hi hs hwa
  rw [← hnr] at cs ⊢
  clear hnr
  go_enter Try.func51, Try.ntmps51
  go_wp2_with (go_at_call 73; refine cs.out.mono ?_; rintro e w1 ⟨rfl, hb1⟩)
  go_loopw [10] (fun s wr => ∃ k : Nat, k ≤ 10001 ∧ s = .int .i64 ((k : Int) - 1) ∧ Aside (∀ i, k ≤ i → i < 10001 → P i = true) ∧ Below w.heap.size w wr) (fun s _ => ((intOf s) + 1).toNat)
  case atStart => exact ⟨10001, Nat.le_refl _, rfl, fun i h1 h2 => by omega, hb1⟩
  case round =>
    obtain ⟨k, hk, rfl, hI, hbr⟩ := hrel
    have HI := Lib.hid hI.out
    have HBr := Lib.hid hbr
    clear hI hbr
    cases k with
    | zero =>
      go_wp2_with fail
      go_ret3
      exact ⟨0, rfl, ⟨Nat.zero_le _, fun i hi => absurd hi (Nat.not_lt_zero _), fun i h1 h2 => HI.out i h1 h2⟩, HBr.out⟩
    | succ k =>
      have hkk : ((k + 1 : Nat) : Int) - 1 = (k : Int) := by omega
      rw [hkk]
      have cc := Lib.hid (cf.out k (by omega) _ HBr.out)
      have hk0 : (0 : Int) ≤ (k : Int) := by omega
      have hw : IntKind.i64.wrap ((k : Int) - 1) = (k : Int) - 1 := IntWalk.i64_in _ (by omega)
      clear hkk
      cases hp : P k with
      | true =>
        rw [hp] at cc
        have HI2 := Lib.hid (show ∀ i, k ≤ i → i < 10001 → P i = true from fun i h1 h2 => by
          by_cases e : i = k
          · subst e; exact hp
          · exact HI.out i (by omega) h2)
        clear hp
        go_wp2_with (go_at_call 77; refine cc.out.mono ?_; rintro e w3 ⟨v, rfl, hb3⟩)
        go_roundw
        case rel => exact ⟨k, by omega, rfl, HI2.out, HBr.out.trans (hb3.mono HBr.out.size)⟩
        case measure => simp [intOf]
      | false =>
        rw [hp] at cc
        have HI2 := Lib.hid (show ∀ i, i < k + 1 → P i = false from fun i hi => by
          cases e : P i with
          | false => rfl
          | true => rw [HM.out i k (by omega) e] at hp; cases hp)
        have Hk := Lib.hid (la_succ k)
        clear hp
        go_wp2_with (go_at_call 77; refine cc.out.mono ?_; rintro e w3 ⟨v, rfl, hb3⟩)
        go_ret3
        refine ⟨k + 1, ?_, ⟨hk, HI2.out, HI.out⟩, HBr.out.trans (hb3.mono HBr.out.size)⟩
        rw [Hk.out.1, Hk.out.2]; rfl
end
end Go.Proofs.Ytmodbpglopfghaa
