/- VanTrips returns true for every input, and its arguments read as they did: no condition. -/
import Derived.Test.YtmodbpglopfghaaVanCe
import Derived.Test.YtmodbpglopfghaaVanCi
import Derived.Test.YtmodbpglopfghaaVanT
import Derived.Test.YtmodbpglopfghaaVanAq
import Derived.Test.YtmodbpglopfghaaVanAk
import Derived.Test.YtmodbpglopfghaaRows
import Derived.Test.YtmodbpglopfghaaOpen
import Derived.Test.YtmodbpglopfghaaOpen4
import Derived.Test.YtmodbpglopfghaaOpen5
import Derived.Carry
import Derived.ShutString

set_option linter.unusedSimpArgs false
set_option linter.unusedVariables false
namespace Go.Proofs.Ytmodbpglopfghaa
open Go Go.RowKit

section
variable (A A1 A2 : Option Addr) (c c1 c2 B : Nat) (rows : List (List Int)) (n : Nat) (g : Nat → Nat → Int) (t : List Int) (bx : Int) (w : World) (hB : B ≤ w.heap.size) (h : TblAt B w A rows) (hl : rows.length ≤ 30 ∧ ∀ r ∈ rows, r.length ≤ 30) (h1 : StAt B w A1 n g) (hn : n ≤ 1000) (h2 : IntsAt B w A2 t) (hm : t.length ≤ 1000) (hcap : t.length ≤ c2)
include hB h hl h1 hn h2 hm hcap

set_option maxRecDepth 100000 in
set_option maxHeartbeats 2000000 in
theorem Trips_ref_bad (he : tpR rows n g t bx ≠ 0) :
    Calls Try.prog 53 #[.slice A rows.length c, .slice A1 n c1, .slice A2 t.length c2, .int .i64 bx] w fun e w' => e = .returned (.tuple #[.slice none 0 0, .int .i64 0, .int .i64 (tpR rows n g t bx)]) ∧ Below w.heap.size w w' := by
  have cv := Lib.hid (toured_ref A A1 A2 c c1 c2 B rows n g t w hB h hl h1 hn h2 hm hcap)
  by_cases hts : tsR rows n g t = 0
  · rw [hts] at cv
    by_cases hb : 0 ≤ bx ∧ bx ≤ 100
    · have h3 : ¬ ∀ x ∈ toN t, g x 3 ≤ bx := fun h3 => he (tp_ok hts hb h3)
      rw [tp_big hts hb h3]
      obtain ⟨⟨hv, hnr, hs⟩, htu⟩ := ts_zero hts
      obtain ⟨e, hst⟩ := tu_stp htu
      obtain ⟨l, hl2⟩ : ∃ l, l = toN t := ⟨_, rfl⟩
      rw [← hl2] at e hst h3
      subst e
      rw [intL_length] at cv hm hcap ⊢
      have H2 := Lib.hid (show IntsAt w.heap.size w A2 (intL l) from h2.below (Below.refl _ _) hB)
      have H1 := Lib.hid (show StAt w.heap.size w A1 n g from h1.below (Below.refl _ _) hB)
      have Hlt := Lib.hid (show ∀ x ∈ l, x < n from fun x hx => by rw [hnr]; exact (hst.2 x hx).2)
      have i0 := inI_true hb
      have Hno := Lib.hid h3
      clear h h1 h2 hs hv hts htu he hst hB hl hnr h3 hl2 hb
      go_enter Try.func53, Try.ntmps53
      go_wp2_with (first
        | (go_at_call 73; refine cv.out.mono ?_; rintro e w1 ⟨rfl, hb1⟩)
        | (go_at_call 60; refine (within_ref _ _ _ _).mono ?_; rintro e w9 ⟨rfl, hw9⟩; obtain rfl := hw9.symm; clear hw9))
      have HB1 := Lib.hid hb1
      clear hb1
      go_loopw [12] (fun vi wr => ∃ i : Nat, i ≤ l.length ∧ vi = .int .i64 i ∧ Aside (∀ x ∈ l.take i, g x 3 ≤ bx) ∧ Below w.heap.size w wr) (fun vi _ => l.length - (intOf vi).toNat)
      case atStart => exact ⟨0, Nat.zero_le _, rfl, (fun x hx => by simp at hx), HB1.out⟩
      case round =>
        clear HB1
        obtain ⟨i, hi, rfl, hok, hbr⟩ := hrel
        have HBr := Lib.hid hbr
        have HOk := Lib.hid hok.out
        clear hbr hok
        by_cases hlti : i < l.length
        · obtain ⟨b2, o2, rfl, hb2, y0⟩ := (H2.out.below HBr.out (Nat.le_refl _)).at (k := i) (by rw [intL_length]; exact hlti)
          rw [intL_get hlti] at y0
          have hsx := Hlt.out _ (List.getElem_mem hlti)
          obtain ⟨b3, o3, rfl, hb3, _, _, _, g3⟩ := (H1.out.below HBr.out (Nat.le_refl _)).at hsx
          have HNx := Lib.hid (show g l[i] 3 ≤ bx → ∀ x ∈ l.take (i + 1), g x 3 ≤ bx from fun h x hx => by
            rw [List.take_succ_eq_append_getElem hlti, List.mem_append] at hx
            rcases hx with hx | hx
            · exact HOk.out x hx
            · rw [List.mem_singleton] at hx; subst hx; exact h)
          generalize l[i] = x at *
          generalize g x 3 = y at *
          have hiI : (i : Int) < (l.length : Int) := by omega
          have hi0 : (0 : Int) ≤ (i : Int) := by omega
          have hx0 : (0 : Int) ≤ (x : Int) := by omega
          have hxn : (x : Int) < (n : Int) := by omega
          by_cases hy : y ≤ bx
          · have HN2 := Lib.hid (HNx.out hy)
            go_wp2_with fail
            go_roundw
            case rel => exact ⟨i + 1, by omega, by go_num, HN2.out, HBr.out⟩
            case measure => simp [intOf]; omega
          · have hy2 : bx < y := by omega
            clear HNx HOk hy
            go_wp2_with fail
            go_ret3
            exact ⟨rfl, HBr.out⟩
        · obtain rfl : i = l.length := by omega
          exact absurd (by have := HOk.out; rwa [List.take_length] at this) Hno.out
    · rw [tp_out hts hb]
      have i0 := inI_false hb
      clear h hl h1 h2 he hts hb
      go_enter Try.func53, Try.ntmps53
      go_wp2_with (first
        | (go_at_call 73; refine cv.out.mono ?_; rintro e w1 ⟨rfl, hb1⟩)
        | (go_at_call 60; refine (within_ref _ _ _ _).mono ?_; rintro e w9 ⟨rfl, hw9⟩; obtain rfl := hw9.symm; clear hw9))
      go_ret3
      exact ⟨rfl, hb1⟩
  · rw [tp_ts hts]
    have hne : (tsR rows n g t != 0) = true := by simpa using hts
    generalize tsR rows n g t = e0 at cv hne ⊢
    clear h hl h1 h2 he hts
    go_enter Try.func53, Try.ntmps53
    go_wp2_with (go_at_call 73; refine cv.out.mono ?_; rintro e w1 ⟨rfl, hb1⟩)
    go_ret3
    exact ⟨rfl, hb1⟩

set_option maxRecDepth 100000 in
set_option maxHeartbeats 2000000 in
theorem Trips_any_bad (he : tpR rows n g t bx ≠ 0) :
    Calls Try.prog 52 #[.slice A rows.length c, .slice A1 n c1, .slice A2 t.length c2, .int .i64 bx] w fun e w' => e = .returned (.tuple #[.slice none 0 0, .int .i64 0, .int .i64 (tpR rows n g t bx)]) ∧ Below w.heap.size w w' := by
  have cv := Lib.hid (stopped_any A A1 A2 c c1 c2 B rows n g t w hB h hl h1 hn h2 hm hcap)
  by_cases hts : tsR rows n g t = 0
  · rw [hts] at cv
    by_cases hb : 0 ≤ bx ∧ bx ≤ 100
    · have h3 : ¬ ∀ x ∈ toN t, g x 3 ≤ bx := fun h3 => he (tp_ok hts hb h3)
      rw [tp_big hts hb h3]
      obtain ⟨⟨hv, hnr, hs⟩, htu⟩ := ts_zero hts
      obtain ⟨e, hst⟩ := tu_stp htu
      obtain ⟨l, hl2⟩ : ∃ l, l = toN t := ⟨_, rfl⟩
      rw [← hl2] at e hst h3
      subst e
      rw [intL_length] at cv hm hcap ⊢
      have H2 := Lib.hid (show IntsAt w.heap.size w A2 (intL l) from h2.below (Below.refl _ _) hB)
      have H1 := Lib.hid (show StAt w.heap.size w A1 n g from h1.below (Below.refl _ _) hB)
      have Hlt := Lib.hid (show ∀ x ∈ l, x < n from fun x hx => by rw [hnr]; exact (hst.2 x hx).2)
      have d0 : decide (bx < 0) = false := decide_eq_false (by omega)
      have d1 : decide (100 < bx) = false := decide_eq_false (by omega)
      have Hno := Lib.hid h3
      clear h h1 h2 hs hv hts htu he hst hB hl hnr h3 hl2 hb
      go_enter Try.func52, Try.ntmps52
      go_wp2_with (go_at_call 71; refine cv.out.mono ?_; rintro e w1 ⟨rfl, hb1⟩)
      have HB1 := Lib.hid hb1
      clear hb1
      go_loopw [38] (fun vi wr => ∃ i : Nat, i ≤ l.length ∧ vi = .int .i64 i ∧ Aside (∀ x ∈ l.take i, g x 3 ≤ bx) ∧ Below w.heap.size w wr) (fun vi _ => l.length - (intOf vi).toNat)
      case atStart => exact ⟨0, Nat.zero_le _, rfl, (fun x hx => by simp at hx), HB1.out⟩
      case round =>
        clear HB1
        obtain ⟨i, hi, rfl, hok, hbr⟩ := hrel
        have HBr := Lib.hid hbr
        have HOk := Lib.hid hok.out
        clear hbr hok
        by_cases hlti : i < l.length
        · obtain ⟨b2, o2, rfl, hb2, y0⟩ := (H2.out.below HBr.out (Nat.le_refl _)).at (k := i) (by rw [intL_length]; exact hlti)
          rw [intL_get hlti] at y0
          have hsx := Hlt.out _ (List.getElem_mem hlti)
          obtain ⟨b3, o3, rfl, hb3, _, _, _, g3⟩ := (H1.out.below HBr.out (Nat.le_refl _)).at hsx
          have HNx := Lib.hid (show g l[i] 3 ≤ bx → ∀ x ∈ l.take (i + 1), g x 3 ≤ bx from fun h x hx => by
            rw [List.take_succ_eq_append_getElem hlti, List.mem_append] at hx
            rcases hx with hx | hx
            · exact HOk.out x hx
            · rw [List.mem_singleton] at hx; subst hx; exact h)
          generalize l[i] = x at *
          generalize g x 3 = y at *
          have hiI : (i : Int) < (l.length : Int) := by omega
          have hi0 : (0 : Int) ≤ (i : Int) := by omega
          have hx0 : (0 : Int) ≤ (x : Int) := by omega
          have hxn : (x : Int) < (n : Int) := by omega
          by_cases hy : y ≤ bx
          · have HN2 := Lib.hid (HNx.out hy)
            go_wp2_with fail
            go_roundw
            case rel => exact ⟨i + 1, by omega, by go_num, HN2.out, HBr.out⟩
            case measure => simp [intOf]; omega
          · have hy2 : bx < y := by omega
            clear HNx HOk hy
            go_wp2_with fail
            go_ret3
            exact ⟨rfl, HBr.out⟩
        · obtain rfl : i = l.length := by omega
          exact absurd (by have := HOk.out; rwa [List.take_length] at this) Hno.out
    · rw [tp_out hts hb]
      by_cases hb0 : bx < 0
      · have d0 : decide (bx < 0) = true := decide_eq_true hb0
        clear h hl h1 h2 he hts hb
        go_enter Try.func52, Try.ntmps52
        go_wp2_with (go_at_call 71; refine cv.out.mono ?_; rintro e w1 ⟨rfl, hb1⟩)
        go_ret3
        exact ⟨rfl, hb1⟩
      · have d0 : decide (bx < 0) = false := decide_eq_false hb0
        have hb2 : 100 < bx := by omega
        have d1 : decide (100 < bx) = true := decide_eq_true hb2
        clear h hl h1 h2 he hts hb
        go_enter Try.func52, Try.ntmps52
        go_wp2_with (go_at_call 71; refine cv.out.mono ?_; rintro e w1 ⟨rfl, hb1⟩)
        go_ret3
        exact ⟨rfl, hb1⟩
  · rw [tp_ts hts]
    have hne : (tsR rows n g t != 0) = true := by simpa using hts
    generalize tsR rows n g t = e0 at cv hne ⊢
    clear h hl h1 h2 he hts
    go_enter Try.func52, Try.ntmps52
    go_wp2_with (go_at_call 71; refine cv.out.mono ?_; rintro e w1 ⟨rfl, hb1⟩)
    go_ret3
    exact ⟨rfl, hb1⟩
end
end Go.Proofs.Ytmodbpglopfghaa


set_option linter.unusedSimpArgs false
set_option linter.unusedVariables false
namespace Go.Proofs.Ytmodbpglopfghaa
open Go Go.RowKit

section
variable (A A1 A2 : Option Addr) (c c1 c2 B : Nat) (rows : List (List Int)) (n : Nat) (g : Nat → Nat → Int) (t : List Int) (bx : Int) (w : World) (hB : B ≤ w.heap.size) (h : TblAt B w A rows) (hl : rows.length ≤ 30 ∧ ∀ r ∈ rows, r.length ≤ 30) (h1 : StAt B w A1 n g) (hn : n ≤ 1000) (h2 : IntsAt B w A2 t) (hm : t.length ≤ 1000) (hcap : t.length ≤ c2)
include hB h hl h1 hn h2 hm hcap

set_option maxRecDepth 100000 in
set_option maxHeartbeats 4000000 in
theorem Trips_ref (he : tpR rows n g t bx = 0) :
    Calls Try.prog 53 #[.slice A rows.length c, .slice A1 n c1, .slice A2 t.length c2, .int .i64 bx] w fun e w' => ∃ A3 c3 ss, e = .returned (.tuple #[.slice A3 (List.length ss) c3, .int .i64 (smC (wy rows) ss (toN t)), .int .i64 0]) ∧ BestP (wy rows) (fun x => g x 3) bx (toN t) (smC (wy rows) ss (toN t), ss) ∧
      TblAt w'.heap.size w' A3 ((sgC ss (toN t)).map intL) ∧ Below w.heap.size w w' := by
  obtain ⟨hts, ⟨hb0, hb1⟩, hfit⟩ := tp_zero he
  obtain ⟨⟨hv, hnr, hs⟩, htu⟩ := ts_zero hts
  have cv := Lib.hid (toured_ref A A1 A2 c c1 c2 B rows n g t w hB h hl h1 hn h2 hm hcap)
  rw [hts] at cv
  obtain ⟨l, rfl, -, -, -, hlt, -, hl10, hbx, -⟩ := tp_facts he
  rw [intL_toN] at hfit ⊢
  rw [intL_length] at cv hm hcap ⊢
  have H2 := Lib.hid (show IntsAt w.heap.size w A2 (intL l) from h2.below (Below.refl _ _) hB)
  have H1 := Lib.hid (show StAt w.heap.size w A1 n g from h1.below (Below.refl _ _) hB)
  obtain ⟨b, off, rfl, hwa⟩ := WaAt.of_tbl (h.below (Below.refl _ _) hB) hv
  have hn0 := hv.n0
  rw [← hnr] at cv hwa hn0 ⊢
  have hbd := hv.bd
  rw [← hnr] at hbd
  have i0 := inI_true (show 0 ≤ bx ∧ bx ≤ 100 from ⟨hb0, hb1⟩)
  have cc := Lib.hid (fun (W : World) (hW : Below w.heap.size w W) => cuttings_any b off n c c1 (wy rows) g A1 bx hbd hs hn0 hn l.length l A2 c2 W.heap.size W rfl hl10 (Nat.le_refl _) (hwa.below hW hW.size) (H1.out.below hW hW.size) (H2.out.below hW hW.size) hcap hlt)
  have Hlt := Lib.hid hlt
  have Hbx := Lib.hid hbx
  have Hg := Lib.hid hs
  clear h h1 h2 hwa hs hv hts htu he hbx hlt hfit hbd hB hl hnr
  generalize wy rows = f at *
  go_enter Try.func53, Try.ntmps53
  go_wp2_with (first
    | (go_at_call 73; refine cv.out.mono ?_; rintro e w1 ⟨rfl, hb1⟩)
    | (go_at_call 60; refine (within_ref _ _ _ _).mono ?_; rintro e w9 ⟨rfl, hw9⟩; obtain rfl := hw9.symm; clear hw9))
  have HB1 := Lib.hid hb1
  clear hb1
  go_loopw [12] (fun vi wr => ∃ i : Nat, i ≤ l.length ∧ vi = .int .i64 i ∧ Below w.heap.size w wr) (fun vi _ => l.length - (intOf vi).toNat)
  case atStart => exact ⟨0, Nat.zero_le _, rfl, HB1.out⟩
  case round =>
    clear HB1
    obtain ⟨i, hi, rfl, hbr⟩ := hrel
    have HBr := Lib.hid hbr
    clear hbr
    by_cases hlti : i < l.length
    · obtain ⟨b2, o2, rfl, hb2, y0⟩ := (H2.out.below HBr.out (Nat.le_refl _)).at (k := i) (by rw [intL_length]; exact hlti)
      rw [intL_get hlti] at y0
      have hsx := Hlt.out _ (List.getElem_mem hlti)
      have hfx := Hbx.out _ (List.getElem_mem hlti)
      obtain ⟨b3, o3, rfl, hb3, _, _, _, g3⟩ := (H1.out.below HBr.out (Nat.le_refl _)).at hsx
      generalize l[i] = x at *
      generalize g x 3 = y at *
      have hiI : (i : Int) < (l.length : Int) := by omega
      have hi0 : (0 : Int) ≤ (i : Int) := by omega
      have hx0 : (0 : Int) ≤ (x : Int) := by omega
      have hxn : (x : Int) < (n : Int) := by omega
      go_wp2_with fail
      go_roundw
      case rel => exact ⟨i + 1, by omega, by go_num, HBr.out⟩
      case measure => simp [intOf]; omega
    · obtain rfl : i = l.length := by omega
      have HNe := Lib.hid (fun (L : List (List Nat)) (hA : CutA (fun x => g x 3) bx l L) => hA.ne Hbx.out)
      go_wp2_with fail
      go_at_call 83
      refine (cc.out _ HBr.out).mono ?_
      rintro e w5 ⟨A5, c5, L, rfl, hA5, hN5, hb5⟩
      have hne := HNe.out L hA5
      have hpos : 0 < L.length := List.length_pos_iff.2 hne
      obtain ⟨br, offr, Ar, cr, rfl, _, hbrw, e0, e1, hT0⟩ := hN5 0 hpos
      simp only [Nat.zero_mul, Nat.add_zero] at e0 e1
      have hposI : (0 : Int) < (L.length : Int) := by omega
      have HA5 := Lib.hid hA5
      have HN5 := Lib.hid hN5
      have HB5 := Lib.hid (HBr.out.trans (hb5.mono HBr.out.size))
      have hL10 : L.length ≤ 1024 := Nat.le_trans hA5.2 (Nat.le_trans (two_pow_le hl10) (by decide))
      have HP0 := Lib.hid hpos
      obtain ⟨r0, hr0⟩ : ∃ r0, r0 = L[0]'hpos := ⟨_, rfl⟩
      rw [← hr0] at e0 e1 hT0
      have HR0 := Lib.hid (And.intro hr0 (show r0 ∈ L by rw [hr0]; exact List.getElem_mem _))
      clear hr0
      have HT0 := Lib.hid hT0
      clear hA5 hN5 hb5 hT0 hne
      go_wp2_with fail
      have HB6 := Lib.hid (show Below w.heap.size w (w5.alloc (.cells #[.slice Ar r0.length cr, .int .i64 (smC f r0 l)] 103)) from HB5.out.alloc HB5.out.size _)
      have Hmv := Lib.hid (show Mv (fun x => w.heap.size ≤ x) (fun x => x ≠ w5.heap.size) w5 (w5.alloc (.cells #[.slice Ar r0.length cr, .int .i64 (smC f r0 l)] 103)) from ⟨by simp, fun b _ hb => ⟨by omega, fun o => (balloc (Below.refl w5.heap.size w5) _).cell (p := ⟨b, o, none⟩) hb⟩⟩)
      have HK6 := Lib.hid (Blk.new w5 103 #[.slice Ar r0.length cr, .int .i64 (smC f r0 l)])
      have HT6 := Lib.hid ((HT0.out.mv (Mv.imp (N' := fun x => w.heap.size ≤ x) fun b hb _ => Nat.le_trans HBr.out.size hb)).mv Hmv.out)
      have HN6 := Lib.hid ((HN5.out.mv (Mv.imp (N' := fun x => w.heap.size ≤ x) fun b hb _ => Nat.le_trans HBr.out.size hb)).mv Hmv.out)
      obtain ⟨G, hG⟩ : ∃ G, G = w5.heap.size := ⟨_, rfl⟩
      have hGlo : w.heap.size ≤ G := by rw [hG]; exact HB5.out.size
      rw [← hG] at HK6 HT6 HN6 ⊢
      clear hG Hmv HT0 HN5 HB5 e0 e1
      generalize (w5.alloc (.cells #[.slice Ar r0.length cr, .int .i64 (smC f r0 l)] 103)) = w6 at *
      go_loopw [15] (fun vi wx => ∃ (i : Nat) (ss : List Nat) (Aq : Option Addr) (cq : Nat), 1 ≤ i ∧ i ≤ L.length ∧ vi = .int .i64 i ∧ Aside (ss ∈ L) ∧ Aside (∀ j (hj : j < L.length), j < i → ¬ ltP (smC f L[j] l, L[j]) (smC f ss l, ss)) ∧ Aside (Blk wx G 103 #[.slice Aq ss.length cq, .int .i64 (smC f ss l)]) ∧ Aside (TblN (fun x => x ≠ G) wx Aq ((sgC ss l).map intL)) ∧ Aside (CutsN f (fun x => x ≠ G) wx (some ⟨br, offr, none⟩) l L) ∧ Below w.heap.size w wx) (fun vi _ => L.length - (intOf vi).toNat)
      case atStart => exact ⟨1, r0, Ar, cr, Nat.le_refl _, HP0.out, rfl, HR0.out.2, (fun j hj h => by
        obtain rfl : j = 0 := by omega
        rw [← HR0.out.1]
        exact ltP_irrefl _), HK6.out, HT6.out, HN6.out, HB6.out⟩
      case round =>
        clear HK6 HT6 HN6 HB6 HR0
        obtain ⟨i, ss, Aq, cq, hi1, hi, rfl, hss, hmin, hbl, htb, hcn, hbx⟩ := hrel
        have HSs := Lib.hid hss.out
        have HMin := Lib.hid hmin.out
        have HBl := Lib.hid hbl.out
        have HTb := Lib.hid htb.out
        have HCn := Lib.hid hcn.out
        have HBx := Lib.hid hbx
        obtain ⟨g0, g1, fz0, fz1⟩ := blk2 hbl.out
        clear hss hmin hbl htb hcn hbx
        by_cases hlt2 : i < L.length
        · obtain ⟨br', offr', Aj, cj, ebr, hNj, hbj, e0, e1, hTj⟩ := HCn.out i hlt2
          injection ebr with ebr
          injection ebr with e1' e2' _
          subst e1' e2'
          have hiI : (i : Int) < (L.length : Int) := by omega
          have hi0 : (0 : Int) ≤ (i : Int) := by omega
          have hcutj := (HA5.out.1 _).1 (List.getElem_mem hlt2)
          have hcuts := (HA5.out.1 _).1 HSs.out
          have hGw := HBl.out.lt
          have cb0 := fun (W : World) (hW : Below wr.heap.size wr W) => better_any Aj Aq cj cq L[i].length ss.length (smC f L[i] l) (smC f ss l) ((sgC L[i] l).map intL) ((sgC ss l).map intL) W (hTj.mv (Mv.below hW)).at (HTb.out.mv (Mv.below hW)).at (by rw [List.length_map, sgC_length]) (by rw [List.length_map, sgC_length]) (by have := Cut.len hcutj; omega) (by have := Cut.len hcuts; omega)
          have em : ∀ (r : List Nat), Cut (fun x => g x 3) bx r l → ((sgC r l).map intL).map List.length = r := fun r hr => by
            rw [List.map_map, show (List.length ∘ intL) = List.length from funext fun x => intL_length x]
            exact sgC_sizes r l hr
          rw [em _ hcutj, em _ hcuts] at cb0
          have cbW := Lib.hid cb0
          have HTj := Lib.hid hTj
          have HStep := Lib.hid (show ∀ r, r = L[i] → (ltP (smC f r l, r) (smC f ss l, ss) → ∀ j (hj : j < L.length), j < i + 1 → ¬ ltP (smC f L[j] l, L[j]) (smC f r l, r)) ∧ (¬ ltP (smC f r l, r) (smC f ss l, ss) → ∀ j (hj : j < L.length), j < i + 1 → ¬ ltP (smC f L[j] l, L[j]) (smC f ss l, ss)) from fun r hr => by
            subst hr
            constructor
            · intro hlt j hj hji hc
              by_cases e : j = i
              · subst e; exact ltP_irrefl _ hc
              · exact HMin.out j hj (by omega) (ltP_trans hc hlt)
            · intro hlt j hj hji hc
              by_cases e : j = i
              · subst e; exact hlt hc
              · exact HMin.out j hj (by omega) hc)
          have HRm := Lib.hid (show L[i] ∈ L from List.getElem_mem hlt2)
          have HSt := Lib.hid (HStep.out L[i] rfl)
          clear cb0 em hcutj hcuts hTj HStep HMin
          generalize L[i] = r at *
          by_cases hltp : ltP (smC f r l, r) (smC f ss l, ss)
          · have HMin2 := Lib.hid (HSt.out.1 hltp)
            have hcb := fun W hW => cbW.out W hW
            rw [ltB_true hltp] at hcb
            have cbT := Lib.hid hcb
            clear hcb HSt hltp cbW
            obtain ⟨nr, hnr⟩ : ∃ nr, nr = r.length := ⟨_, rfl⟩
            obtain ⟨ns, hns⟩ : ∃ ns, ns = ss.length := ⟨_, rfl⟩
            rw [← hnr] at e0 cbT
            rw [← hns] at g0 cbT HBl
            have HNr := Lib.hid hnr
            generalize hsr : smC f r l = sr at e1 cbT
            generalize smC f ss l = sq at g1 cbT HBl
            have HSr := Lib.hid hsr
            clear hnr hns hsr
            go_wp2_with fail
            refine wp_region_E (S := fun W => W.cell? ⟨br, offr + i * 2, none⟩ = some (.slice Aj nr cj) ∧ W.cell? ⟨br, offr + i * 2 + 1, none⟩ = some (.int .i64 sr) ∧ W.cell? ⟨G, 0, none⟩ = some (.slice Aq ns cq) ∧ W.cell? ⟨G, 1, none⟩ = some (.int .i64 sq)) (E := fun _ => false) (by kernel_rfl) ?_
            have hbi : Below wr.heap.size wr wr.drew := (Below.refl _ _).drew
            generalize wr.drew = wi0 at hbi ⊢
            have HBi := Lib.hid (Below.refl wi0.heap.size wi0)
            have Keep := Lib.hid (show ∀ W, Below wi0.heap.size wi0 W → W.cell? ⟨br, offr + i * 2, none⟩ = some (.slice Aj nr cj) ∧ W.cell? ⟨br, offr + i * 2 + 1, none⟩ = some (.int .i64 sr) ∧ W.cell? ⟨G, 0, none⟩ = some (.slice Aq ns cq) ∧ W.cell? ⟨G, 1, none⟩ = some (.int .i64 sq) from fun W hW => by
              have hbb := hbi.trans (hW.mono hbi.size)
              obtain ⟨k0, k1, _⟩ := blk2 (HBl.out.below hbb hGw)
              exact ⟨(hbb.cell (p := ⟨br, offr + i * 2, none⟩) hbj).trans e0, (hbb.cell (p := ⟨br, offr + i * 2 + 1, none⟩) hbj).trans e1, k0, k1⟩)
            have cb := Lib.hid (fun W hW => cbT.out W (hbi.trans (Below.mono hW hbi.size)))
            have hS := Keep.out _ HBi.out
            refine anyE_tk 0 56 (oi := ?oi1) (v := ?v1) ?hi1 ?hd1 (by kernel_rfl) (by kernel_rfl) (by kernel_rfl) ?hQ1 ?hy1 hS ?rest1
            case hi1 => simp only [List.getElem?_toArray, List.getElem?_cons_zero, List.getElem?_cons_succ]; rfl
            case hd1 => rfl
            case hQ1 => exact fun _ _ _ h => h
            case hy1 => (refine Or.inl ⟨by rfl, ?_⟩; intro w hSw; (try dsimp only at hSw); go_simp; try with_reducible rfl)
            simp only [List.setIfInBounds_toArray, List.set_cons_zero, List.set_cons_succ]
            refine anyE_tk 1 57 (oi := ?oi2) (v := ?v2) ?hi2 ?hd2 (by kernel_rfl) (by kernel_rfl) (by kernel_rfl) ?hQ2 ?hy2 hS ?rest2
            case hi2 => simp only [List.getElem?_toArray, List.getElem?_cons_zero, List.getElem?_cons_succ]; rfl
            case hd2 => rfl
            case hQ2 => exact fun _ _ _ h => h
            case hy2 => (refine Or.inl ⟨by rfl, ?_⟩; intro w hSw; (try dsimp only at hSw); go_simp; try with_reducible rfl)
            simp only [List.setIfInBounds_toArray, List.set_cons_zero, List.set_cons_succ]
            refine anyE_tk 2 58 (oi := ?oi3) (v := ?v3) ?hi3 ?hd3 (by kernel_rfl) (by kernel_rfl) (by kernel_rfl) ?hQ3 ?hy3 hS ?rest3
            case hi3 => simp only [List.getElem?_toArray, List.getElem?_cons_zero, List.getElem?_cons_succ]; rfl
            case hd3 => rfl
            case hQ3 => exact fun _ _ _ h => h
            case hy3 => (refine Or.inl ⟨by rfl, ?_⟩; intro w hSw; (try dsimp only at hSw); go_simp; try with_reducible rfl)
            simp only [List.setIfInBounds_toArray, List.set_cons_zero, List.set_cons_succ]
            refine anyE_tk 3 59 (oi := ?oi4) (v := ?v4) ?hi4 ?hd4 (by kernel_rfl) (by kernel_rfl) (by kernel_rfl) ?hQ4 ?hy4 hS ?rest4
            case hi4 => simp only [List.getElem?_toArray, List.getElem?_cons_zero, List.getElem?_cons_succ]; rfl
            case hd4 => rfl
            case hQ4 => exact fun _ _ _ h => h
            case hy4 => (refine Or.inl ⟨by rfl, ?_⟩; intro w hSw; (try dsimp only at hSw); go_simp; try with_reducible rfl)
            simp only [List.setIfInBounds_toArray, List.set_cons_zero, List.set_cons_succ]
            refine anyE_tk 4 60 (oi := ?oi5) (v := ?v5) ?hi5 ?hd5 (by kernel_rfl) (by kernel_rfl) (by kernel_rfl) ?hQ5 ?hy5 hS ?rest5
            case hi5 => simp only [List.getElem?_toArray, List.getElem?_cons_zero, List.getElem?_cons_succ]; rfl
            case hd5 => rfl
            case hQ5 => exact fun _ _ _ h => h
            case hy5 => (refine Or.inl ⟨by rfl, ?_⟩; intro w hSw; (try dsimp only at hSw); go_simp; try with_reducible rfl)
            simp only [List.setIfInBounds_toArray, List.set_cons_zero, List.set_cons_succ]
            clear hS
            refine anyE_one (i := 5) (o := ?oi6) (by kernel_rfl) ?hi6 (fun K hK => ?step6)
            case hi6 => simp only [List.getElem?_toArray, List.getElem?_cons_zero, List.getElem?_cons_succ]; rfl
            go_simp
            refine (cb.out _ HBi.out).mono ?_
            rintro e w7 ⟨rfl, hd7⟩
            have HB7 := Lib.hid hd7
            clear hd7
            go_wp2_with fail
            refine hK.out _ _ (fun _ => Keep.out _ HB7.out) ?_
            clear hK K
            try simp only [Act.put, List.setIfInBounds_toArray, List.set_cons_zero, List.set_cons_succ]
            refine anyE_done (by kernel_rfl) ?_ _
            obtain ⟨p0, p1, p2, p3⟩ := Keep.out _ HB7.out
            obtain ⟨_, _, fz0, fz1⟩ := blk2 (HBl.out.below (hbi.trans (HB7.out.mono hbi.size)) hGw)
            have hbb := hbi.trans (HB7.out.mono hbi.size)
            have HTj7 := Lib.hid (HTj.out.mv (Mv.below hbb))
            have HCn7 := Lib.hid (HCn.out.mv (Mv.below hbb))
            have HBl7 := Lib.hid (HBl.out.below hbb hGw)
            have HBx7 := Lib.hid (HBx.out.trans (hbb.mono HBx.out.size))
            have HP := Lib.hid (((Only.refl G w7).put 0 (.slice Aj nr cj)).put 1 (.int .i64 sr))
            clear hbb g0 g1
            go_wp2_with fail
            have HGw := hGlo
            go_roundw
            case rel =>
              refine ⟨i + 1, r, Aj, cj, by omega, by omega, by go_num, HRm.out, HMin2.out, ?_, HTj7.out.mv (Mv.only HP.out fun b hb => hb), HCn7.out.mv (Mv.only HP.out fun b hb => hb), HBx7.out.trans (HP.out.below (by omega) HBx7.out.size)⟩
              have h5 := (HBl7.out.put 0 (.slice Aj nr cj)).put 1 (.int .i64 sr)
              rw [← HNr.out, HSr.out]
              exact h5
            case measure => simp [intOf]; omega
          · have HMin2 := Lib.hid (HSt.out.2 hltp)
            have hcb := fun W hW => cbW.out W hW
            rw [ltB_false hltp] at hcb
            have cbT := Lib.hid hcb
            clear hcb HSt hltp cbW
            obtain ⟨nr, hnr⟩ : ∃ nr, nr = r.length := ⟨_, rfl⟩
            obtain ⟨ns, hns⟩ : ∃ ns, ns = ss.length := ⟨_, rfl⟩
            have HBl0 := Lib.hid HBl.out
            rw [← hnr] at e0 cbT
            rw [← hns] at g0 cbT HBl
            generalize hsr : smC f r l = sr at e1 cbT
            generalize hsq : smC f ss l = sq at g1 cbT HBl
            clear hnr hns hsr hsq
            go_wp2_with fail
            refine wp_region_E (S := fun W => W.cell? ⟨br, offr + i * 2, none⟩ = some (.slice Aj nr cj) ∧ W.cell? ⟨br, offr + i * 2 + 1, none⟩ = some (.int .i64 sr) ∧ W.cell? ⟨G, 0, none⟩ = some (.slice Aq ns cq) ∧ W.cell? ⟨G, 1, none⟩ = some (.int .i64 sq)) (E := fun _ => false) (by kernel_rfl) ?_
            have hbi : Below wr.heap.size wr wr.drew := (Below.refl _ _).drew
            generalize wr.drew = wi0 at hbi ⊢
            have HBi := Lib.hid (Below.refl wi0.heap.size wi0)
            have Keep := Lib.hid (show ∀ W, Below wi0.heap.size wi0 W → W.cell? ⟨br, offr + i * 2, none⟩ = some (.slice Aj nr cj) ∧ W.cell? ⟨br, offr + i * 2 + 1, none⟩ = some (.int .i64 sr) ∧ W.cell? ⟨G, 0, none⟩ = some (.slice Aq ns cq) ∧ W.cell? ⟨G, 1, none⟩ = some (.int .i64 sq) from fun W hW => by
              have hbb := hbi.trans (hW.mono hbi.size)
              obtain ⟨k0, k1, _⟩ := blk2 (HBl.out.below hbb hGw)
              exact ⟨(hbb.cell (p := ⟨br, offr + i * 2, none⟩) hbj).trans e0, (hbb.cell (p := ⟨br, offr + i * 2 + 1, none⟩) hbj).trans e1, k0, k1⟩)
            have cb := Lib.hid (fun W hW => cbT.out W (hbi.trans (Below.mono hW hbi.size)))
            have hS := Keep.out _ HBi.out
            refine anyE_tk 0 56 (oi := ?oi7) (v := ?v7) ?hi7 ?hd7 (by kernel_rfl) (by kernel_rfl) (by kernel_rfl) ?hQ7 ?hy7 hS ?rest7
            case hi7 => simp only [List.getElem?_toArray, List.getElem?_cons_zero, List.getElem?_cons_succ]; rfl
            case hd7 => rfl
            case hQ7 => exact fun _ _ _ h => h
            case hy7 => (refine Or.inl ⟨by rfl, ?_⟩; intro w hSw; (try dsimp only at hSw); go_simp; try with_reducible rfl)
            simp only [List.setIfInBounds_toArray, List.set_cons_zero, List.set_cons_succ]
            refine anyE_tk 1 57 (oi := ?oi8) (v := ?v8) ?hi8 ?hd8 (by kernel_rfl) (by kernel_rfl) (by kernel_rfl) ?hQ8 ?hy8 hS ?rest8
            case hi8 => simp only [List.getElem?_toArray, List.getElem?_cons_zero, List.getElem?_cons_succ]; rfl
            case hd8 => rfl
            case hQ8 => exact fun _ _ _ h => h
            case hy8 => (refine Or.inl ⟨by rfl, ?_⟩; intro w hSw; (try dsimp only at hSw); go_simp; try with_reducible rfl)
            simp only [List.setIfInBounds_toArray, List.set_cons_zero, List.set_cons_succ]
            refine anyE_tk 2 58 (oi := ?oi9) (v := ?v9) ?hi9 ?hd9 (by kernel_rfl) (by kernel_rfl) (by kernel_rfl) ?hQ9 ?hy9 hS ?rest9
            case hi9 => simp only [List.getElem?_toArray, List.getElem?_cons_zero, List.getElem?_cons_succ]; rfl
            case hd9 => rfl
            case hQ9 => exact fun _ _ _ h => h
            case hy9 => (refine Or.inl ⟨by rfl, ?_⟩; intro w hSw; (try dsimp only at hSw); go_simp; try with_reducible rfl)
            simp only [List.setIfInBounds_toArray, List.set_cons_zero, List.set_cons_succ]
            refine anyE_tk 3 59 (oi := ?oi10) (v := ?v10) ?hi10 ?hd10 (by kernel_rfl) (by kernel_rfl) (by kernel_rfl) ?hQ10 ?hy10 hS ?rest10
            case hi10 => simp only [List.getElem?_toArray, List.getElem?_cons_zero, List.getElem?_cons_succ]; rfl
            case hd10 => rfl
            case hQ10 => exact fun _ _ _ h => h
            case hy10 => (refine Or.inl ⟨by rfl, ?_⟩; intro w hSw; (try dsimp only at hSw); go_simp; try with_reducible rfl)
            simp only [List.setIfInBounds_toArray, List.set_cons_zero, List.set_cons_succ]
            refine anyE_tk 4 60 (oi := ?oi11) (v := ?v11) ?hi11 ?hd11 (by kernel_rfl) (by kernel_rfl) (by kernel_rfl) ?hQ11 ?hy11 hS ?rest11
            case hi11 => simp only [List.getElem?_toArray, List.getElem?_cons_zero, List.getElem?_cons_succ]; rfl
            case hd11 => rfl
            case hQ11 => exact fun _ _ _ h => h
            case hy11 => (refine Or.inl ⟨by rfl, ?_⟩; intro w hSw; (try dsimp only at hSw); go_simp; try with_reducible rfl)
            simp only [List.setIfInBounds_toArray, List.set_cons_zero, List.set_cons_succ]
            clear hS
            refine anyE_one (i := 5) (o := ?oi12) (by kernel_rfl) ?hi12 (fun K hK => ?step12)
            case hi12 => simp only [List.getElem?_toArray, List.getElem?_cons_zero, List.getElem?_cons_succ]; rfl
            go_simp
            refine (cb.out _ HBi.out).mono ?_
            rintro e w7 ⟨rfl, hd7⟩
            have HB7 := Lib.hid hd7
            clear hd7
            go_wp2_with fail
            refine hK.out _ _ (fun _ => Keep.out _ HB7.out) ?_
            clear hK K
            try simp only [Act.put, List.setIfInBounds_toArray, List.set_cons_zero, List.set_cons_succ]
            refine anyE_done (by kernel_rfl) ?_ _
            have hbb := hbi.trans (HB7.out.mono hbi.size)
            have HTb7 := Lib.hid (HTb.out.mv (Mv.below hbb))
            have HCn7 := Lib.hid (HCn.out.mv (Mv.below hbb))
            have HBl7 := Lib.hid (HBl0.out.below hbb hGw)
            have HBx7 := Lib.hid (HBx.out.trans (hbb.mono HBx.out.size))
            clear hbb
            go_wp2_with fail
            go_roundw
            case rel => exact ⟨i + 1, ss, Aq, cq, by omega, by omega, by go_num, HSs.out, HMin2.out, HBl7.out, HTb7.out, HCn7.out, HBx7.out⟩
            case measure => simp [intOf]; omega
        · obtain rfl : i = L.length := by omega
          have HBest := Lib.hid (best_all HA5.out HSs.out (fun j hj => HMin.out j hj hj))
          clear HMin HCn
          go_wp2_with fail
          go_quiet (fail)
          go_wp2_with fail
          go_ret3
          exact ⟨Aq, cq, ss, rfl, HBest.out, (HTb.out.mv (Mv.below (below_drewN (Below.refl _ _) _))).at, below_drewN HBx.out _⟩
end
end Go.Proofs.Ytmodbpglopfghaa


set_option linter.unusedSimpArgs false
set_option linter.unusedVariables false
namespace Go.Proofs.Ytmodbpglopfghaa
open Go Go.RowKit

theorem RowsOwn.tblT {base n c : Nat} {A : Option Addr} {gx : Option Nat} {w : World} {vs : List Value} {rows : List (List Int)} (hn : rows.length = n) (hown : w.ownsRow base 28 1 (.slice A n c) n vs) (hR : RowsOwn base gx w vs rows) : TblAt w.heap.size w A rows := fun k hk => by
  obtain ⟨A1, c1, h1, h2, _⟩ := hR.2.1 k hk
  obtain ⟨g, rfl, hg, _, hc⟩ := own_cell hown (k := k) (by omega) h1
  exact ⟨g, 0, A1, c1, rfl, hg, by rw [Nat.zero_add]; exact hc, IntsAt.of_own h2⟩
/-- The trips one behind the other, and their lengths. -/
def flT (ss l : List Nat) (i : Nat) : List Nat := ((sgC ss l).take i).flatten
def smT (f : Nat → Nat → Int) (ss l : List Nat) (i : Nat) : Int := (((sgC ss l).take i).map (lenF f 0)).sum
section
variable {f : Nat → Nat → Int} {bx : Nat → Int} {cap : Int} {ss l : List Nat} {i : Nat}
theorem flT_succ (hi : i < (sgC ss l).length) : flT ss l (i + 1) = flT ss l i ++ (sgC ss l)[i] := by
  unfold flT
  rw [List.take_succ_eq_append_getElem hi, List.flatten_append]; simp
theorem smT_succ (hi : i < (sgC ss l).length) : smT f ss l (i + 1) = smT f ss l i + lenF f 0 (sgC ss l)[i] := by
  unfold smT
  rw [List.take_succ_eq_append_getElem hi, List.map_append, List.sum_append]; simp
theorem sg_stp {n : Nat} (h : Cut bx cap ss l) (hs : Stp n l) (hi : i < ss.length) : Stp n ((sgC ss l)[i]'(by rw [sgC_length]; exact hi)) ∧ ((sgC ss l)[i]'(by rw [sgC_length]; exact hi)).length = ss[i] ∧ 1 ≤ ss[i] := by
  have hsg := sgC_at ss l h hi
  have hle := take_sum_le ss hi
  rw [Cut.sum ss l h] at hle
  have hp := Cut.pos ss l h _ (List.getElem_mem hi)
  rw [hsg]
  refine ⟨⟨(hs.1.sublist (List.drop_sublist _ _)).sublist (List.take_sublist _ _), fun x hx => hs.2 x (List.mem_of_mem_drop (List.mem_of_mem_take hx))⟩, ?_, hp⟩
  rw [List.length_take, List.length_drop]
  omega
end

set_option maxRecDepth 100000 in
set_option maxHeartbeats 4000000 in
theorem trips_law (A A1 A2 : Option Addr) (c c1 c2 : Nat) (rows : List (List Int)) (n : Nat) (g : Nat → Nat → Int) (t : List Int) (bg bx : Int) (w : World) (h : TblAt w.heap.size w A rows) (h1 : StAt w.heap.size w A1 n g) (h2 : IntsAt w.heap.size w A2 t) (hcap : t.length ≤ c2) :
    Calls Try.prog 15 #[.slice A rows.length c, .agg #[.slice A1 n c1, .slice A2 t.length c2, .int .i64 bg], .int .i64 bx] w fun e w' => e = .returned (.bool true) ∧ Below w.heap.size w w' := by
  have cl := Lib.hid (fun W (hW : Below w.heap.size w W) => Large_any A c w.heap.size rows W (h.below hW (Nat.le_refl _)))
  have cg := Lib.hid (fun W => many_any A1 A2 n c1 t.length c2 bg W)
  rcases lg2 (lgW rows) (decide (60 < n) || decide (60 < t.length)) with hlg | ⟨hlg, hlo⟩ | ⟨hlg, hlo⟩
  · rw [hlg] at cl
    clear h h1 h2 hlg
    go_enter Try.func15, Try.ntmps15
    have HB0 := Lib.hid (((Below.refl _ _).alloc (Nat.le_refl _) (.cells #[.slice A1 n c1, .slice A2 t.length c2, .int .i64 bg] 45) : Below w.heap.size w _))
    go_wp2_with (first | (go_at_call 17; refine (cl.out _ HB0.out).mono ?_; rintro e w1 ⟨rfl, hw1⟩; obtain rfl := hw1.symm; clear hw1) | (go_at_call 18; refine (known_any _).mono ?_; rintro e w5 ⟨rfl, hb5⟩))
    go_ret
    exact ⟨rfl, HB0.out.trans (hb5.mono HB0.out.size)⟩
  · rw [hlg] at cl
    rw [hlo] at cg
    clear h h1 h2 hlg hlo
    go_enter Try.func15, Try.ntmps15
    have HB0 := Lib.hid (((Below.refl _ _).alloc (Nat.le_refl _) (.cells #[.slice A1 n c1, .slice A2 t.length c2, .int .i64 bg] 45) : Below w.heap.size w _))
    go_wp2_with (first | (go_at_call 17; refine (cl.out _ HB0.out).mono ?_; rintro e w1 ⟨rfl, hw1⟩; obtain rfl := hw1.symm; clear hw1) | (go_at_call 36; refine (cg.out _).mono ?_; rintro e w1 ⟨rfl, hb1⟩) | (go_at_call 18; refine (known_any _).mono ?_; rintro e w5 ⟨rfl, hb5⟩))
    go_ret
    exact ⟨rfl, HB0.out.trans ((hb1.mono HB0.out.size).trans (hb5.mono (Nat.le_trans HB0.out.size hb1.size)))⟩
  · rw [hlg] at cl
    rw [hlo] at cg
    have hl := lgW_small hlg
    have hn : n ≤ 60 := by simp at hlo; omega
    have hm : t.length ≤ 60 := by simp at hlo; omega
    by_cases hts : tpR rows n g t bx = 0
    · have cv := Lib.hid (fun W (hW : Below w.heap.size w W) => Trips_any n c c1 c2 g A1 A2 bx W rows A w.heap.size t hW.size (h.below hW (Nat.le_refl _)) hl (h1.below hW (Nat.le_refl _)) (by omega) (h2.below hW (Nat.le_refl _)) (by omega) hcap hts)
      have cvr := Lib.hid (fun W (hW : Below w.heap.size w W) => Trips_ref A A1 A2 c c1 c2 w.heap.size rows n g t bx W hW.size (h.below hW (Nat.le_refl _)) hl (h1.below hW (Nat.le_refl _)) (by omega) (h2.below hW (Nat.le_refl _)) (by omega) hcap hts)
      have cln := Lib.hid (fun (A' : Option Addr) (c' : Nat) (r : List Nat) (W : World) (hW : Below w.heap.size w W) (hI : IntsAt W.heap.size W A' (intL r)) (hr : r.length ≤ 60) (hc : r.length ≤ c') => Length_any A A' c c' W.heap.size rows (intL r) W (h.below hW hW.size) hl.2 hI (by rw [intL_length]; omega) (by rw [intL_length]; exact hc))
      have H2 := Lib.hid h2
      obtain ⟨l, rfl, hv, hnr, -, hlt, -, hl10, -, hst⟩ := tp_facts hts
      rw [intL_toN] at cv cvr
      rw [intL_length] at cv cvr hm hcap cg ⊢
      have HSt := Lib.hid hst
      have Hlt := Lib.hid hlt
      have Hbd := Lib.hid hv.bd
      have hn0 := hv.n0
      have HLn := Lib.hid (show ∀ r : List Nat, Stp n r → lnR rows (intL r) = lenF (wy rows) 0 r ∧ tdR rows (intL r) = 0 from fun r hr => by
        have h0 : tdR rows (intL r) = 0 := by rw [td_vw _ hv]; rw [hnr] at hr; exact stp_tu hr
        exact ⟨by unfold lnR; rw [if_pos h0, intL_toN], h0⟩)
      rw [← hnr] at Hbd hn0
      obtain ⟨nr, hnr2⟩ : ∃ nr, nr = rows.length := ⟨_, rfl⟩
      rw [← hnr2] at cl cv cvr cln ⊢
      obtain ⟨j0, hj, hy0, hy1, hy2⟩ := info_parts info3
      clear h h1 h2 hlg hlo hl hts hv hst hlt hnr hnr2
      generalize wy rows = f at *
      go_enter Try.func15, Try.ntmps15
      go_wp2_with fail
      generalize hW0 : w.alloc (.cells #[.slice A1 n c1, .slice A2 l.length c2, .int .i64 bg] 45) = W0
      have HBk := Lib.hid (show Blk W0 w.heap.size 45 #[.slice A1 n c1, .slice A2 l.length c2, .int .i64 bg] by rw [← hW0]; exact Blk.new _ _ _)
      have hB0 : Below w.heap.size w W0 := by rw [← hW0]; exact (Below.refl _ _).alloc (Nat.le_refl _) _
      have HB0 := Lib.hid hB0
      have HBs := Lib.hid (show ∀ W, Below W0.heap.size W0 W → Below w.heap.size w W from fun W hW => HB0.out.trans (hW.mono HB0.out.size))
      have HCs := Lib.hid (show ∀ W, Below W0.heap.size W0 W → W.cell? ⟨w.heap.size, 0, none⟩ = some (.slice A1 n c1) ∧ W.cell? ⟨w.heap.size, 1, none⟩ = some (.slice A2 l.length c2) ∧ W.cell? ⟨w.heap.size, 2, none⟩ = some (.int .i64 bg) from fun W hW => by
        obtain ⟨q0, q1, q2, _⟩ := blk3 (HBk.out.below hW HBk.out.lt)
        exact ⟨q0, q1, q2⟩)
      obtain ⟨k0, k1, k2⟩ := HCs.out _ (Below.refl _ _)
      clear hW0 hB0
      go_wp2_with (first
        | (go_at_call 17; refine (cl.out _ HB0.out).mono ?_; rintro e w1 ⟨rfl, hw1⟩; obtain rfl := hw1.symm; clear hw1)
        | (go_at_call 36; refine (cg.out _).mono ?_; rintro e w1 ⟨rfl, hb1⟩; clear k0 k1 k2; obtain ⟨k0, k1, k2⟩ := HCs.out _ hb1)
        | (go_at_call 52; refine (cv.out _ (HBs.out _ hb1)).mono ?_; rintro e w2 ⟨A3, c3, ss, vs, rfl, hbp, hown, hrow, hb2⟩; have HBp := Lib.hid hbp; have HO := Lib.hid hown; have HRw := Lib.hid hrow; clear hbp hown hrow; have hB2 := hb1.trans (hb2.mono hb1.size); clear k0 k1 k2; obtain ⟨k0, k1, k2⟩ := HCs.out _ hB2))
      go_at_call 53
      refine (cvr.out _ (HBs.out _ hB2)).mono ?_
      rintro e w3 ⟨A4, c4, ss2, rfl, hbp2, htb2, hb3⟩
      have hss := HBp.out.unique hbp2
      obtain rfl : ss = ss2 := congrArg Prod.snd hss
      have HCt := Lib.hid (show Cut (fun x => g x 3) bx ss l from HBp.out.1)
      have hB3 := hB2.trans (hb3.mono hB2.size)
      have hsl : ss.length ≤ 10 := by have h9 : ss.length ≤ l.length := Cut.len HCt.out; omega
      have hw23 : w2.heap.size ≤ w3.heap.size := hb3.size
      have HT3 := Lib.hid (fun (W : World) (hW : Below w3.heap.size w3 W) => show TblAt W.heap.size W A3 ((sgC ss l).map intL) from (RowsOwn.tblT (by rw [List.length_map, sgC_length]) HO.out HRw.out).below (hb3.trans (hW.mono hb3.size)) (Nat.le_trans hb3.size hW.size))
      have HR3 := Lib.hid (show ∀ (W : World), Below w3.heap.size w3 W → ∀ i (hi : i < ss.length), ∃ g6 A6 c6, A3 = some ⟨g6, 0, none⟩ ∧ W.cell? ⟨g6, i, none⟩ = some (.slice A6 ss[i] c6) ∧ IntsAt W.heap.size W A6 (intL ((sgC ss l)[i]'(by rw [sgC_length]; exact hi))) ∧ ss[i] ≤ c6 from fun W hW i hi => by
        have hb := hb3.trans (hW.mono hb3.size)
        have hil : i < ((sgC ss l).map intL).length := by rw [List.length_map, sgC_length]; exact hi
        obtain ⟨A6, c6, q1, q2, -⟩ := (HRw.out.below hb).2.1 i hil
        obtain ⟨g6, e6, -, -, q3⟩ := own_cell (own_below HO.out hb) (k := i) hi q1
        have hlen := (sg_stp HCt.out HSt.out hi).2.1
        have q4 := IntsAt.of_own q2
        have q5 := (own_caps q2).1
        rw [List.getElem_map] at q3 q4 q5
        rw [intL_length, hlen] at q3 q5
        exact ⟨g6, A6, c6, e6, q3, q4, q5⟩)
      have cs := Lib.hid (fun (W : World) (hW : Below w3.heap.size w3 W) => Same_any A3 A4 c3 c4 W.heap.size ((sgC ss l).map intL) ((sgC ss l).map intL) W (Nat.le_refl _) (HT3.out W hW) (htb2.below hW hW.size) (by rw [List.length_map, sgC_length]; omega) (fun r hr => by
        obtain ⟨q, hq, rfl⟩ := List.mem_map.1 hr
        obtain ⟨i, hi, rfl⟩ := List.getElem_of_mem hq
        rw [sgC_length] at hi
        have h3 := (sg_stp HCt.out HSt.out hi).1
        have h4 := nodup_len n _ h3.1 (fun x hx => (h3.2 x hx).2)
        rw [intL_length]; omega))
      have hee : decide ((sgC ss l).map intL = (sgC ss l).map intL) = true := by simp
      have hlm : ((sgC ss l).map intL).length = ss.length := by rw [List.length_map, sgC_length]
      rw [hlm] at cs
      rw [hee] at cs
      have HLm := Lib.hid hlm
      have HSg := Lib.hid (show ∀ i (hi : i < ss.length), Stp n ((sgC ss l)[i]'(by rw [sgC_length]; exact hi)) ∧ ((sgC ss l)[i]'(by rw [sgC_length]; exact hi)).length = ss[i] ∧ 1 ≤ ss[i] ∧ ss[i] ≤ 60 from fun i hi => by
        obtain ⟨q1, q2, q3⟩ := sg_stp HCt.out HSt.out hi
        have h4 := nodup_len n _ q1.1 (fun x hx => (q1.2 x hx).2)
        exact ⟨q1, q2, q3, by omega⟩)
      have HFl := Lib.hid (show flT ss l ss.length = l from by
        unfold flT
        rw [List.take_of_length_le (by rw [sgC_length]; exact Nat.le_refl _)]
        exact sgC_flat ss l HCt.out)
      have HSm := Lib.hid (show smT f ss l ss.length = smC f ss l from by
        unfold smT
        rw [List.take_of_length_le (by rw [sgC_length]; exact Nat.le_refl _)]
        exact sgC_sum ss l)
      have HOl := Lib.hid HO.out.1
      have hBs3 := HBs.out _ hB3
      have HBs3 := Lib.hid hBs3
      have HB33 := Lib.hid (Below.refl w3.heap.size w3)
      have HCs3 := Lib.hid (fun (W : World) (hW : Below w3.heap.size w3 W) => HCs.out W (hB3.trans (hW.mono hB3.size)))
      have hnn : ((smC f ss l) != (smC f ss l)) = false := by simp
      clear k0 k1 k2 hb1 hb2 hb3 hB2 hB3 hBs3 hbp2 htb2 hss hee hlm HO cv cvr
      obtain ⟨k0, k1, k2⟩ := HCs3.out _ HB33.out
      go_wp2_with (go_at_call 49; refine (cs.out _ HB33.out).mono ?_; rintro e w4 ⟨rfl, hb4⟩)
      have HB4 := Lib.hid hb4
      obtain ⟨ns, hns⟩ : ∃ ns, ns = ss.length := ⟨_, rfl⟩
      have Hns := Lib.hid hns
      have HB44 := Lib.hid (Below.refl w4.heap.size w4)
      clear hb4 k0 k1 k2
      rw [← hns] at HFl HSm hsl ⊢
      clear hns
      go_loopw [13, 14, 15] (fun va vs vi wx => ∃ (i m : Nat) (A5 : Option Addr) (c5 : Nat), i ≤ ns ∧ vi = .int .i64 i ∧ vs = .int .i64 (smT f ss l i) ∧ va = .slice A5 m c5 ∧ Aside ((flT ss l i).length = m) ∧ m ≤ 60 * i ∧ Aside (0 ≤ smT f ss l i ∧ smT f ss l i ≤ 100000 * (i : Int)) ∧ Aside (wx.ownsRow w4.heap.size 3 1 (.slice A5 m c5) m ((intL (flT ss l i)).map (Value.int .i64))) ∧ Below w4.heap.size w4 wx) (fun _ _ vi _ => ns - (intOf vi).toNat)
      case atStart => exact ⟨0, 0, none, 0, Nat.zero_le _, rfl, by simp [smT], rfl, by simp [flT, Aside], Nat.zero_le _, by simp [smT, Aside], World.ownsRow_nil _ _ _ _, HB44.out⟩
      case round =>
        clear HB44
        obtain ⟨i, m, A5, c5, hi, rfl, rfl, rfl, hfm, hm60, hsb, hown, hbx⟩ := hrel
        have HFm := Lib.hid hfm.out
        have hsb0 := hsb.out.1
        have hsb1 := hsb.out.2
        have HO := Lib.hid hown.out
        have HBx := Lib.hid hbx
        have HBx3 := Lib.hid (HB4.out.trans (hbx.mono HB4.out.size))
        clear hfm hsb hown hbx
        by_cases hlti : i < ns
        · have hil : i < ss.length := by rw [← Hns.out]; exact hlti
          have hil2 : i < (sgC ss l).length := by rw [sgC_length]; exact hil
          obtain ⟨hstp, hlen, hx1, hx60⟩ := HSg.out i hil
          obtain ⟨g6, A6, c6, rfl, e7, hI6, hc6⟩ := HR3.out _ HBx3.out i hil
          have cL := cln.out A6 c6 ((sgC ss l)[i]'hil2) wr (HBs3.out.trans (HBx3.out.mono HBs3.out.size)) hI6 (by omega) (by omega)
          rw [(HLn.out _ hstp).1, (HLn.out _ hstp).2, intL_length, hlen] at cL
          have hlb := lenF_bd (t := (sgC ss l)[i]'hil2) Hbd.out (fun x hx => (hstp.2 x hx).2) hn0
          have hfl := flT_succ hil2
          have hsm := smT_succ (f := f) hil2
          rw [hlen] at hlb
          have hI7 : (intL ((sgC ss l)[i]'hil2)).length = ss[i] := by rw [intL_length, hlen]
          have hm2 : (flT ss l (i + 1)).length = m + ss[i] := by rw [hfl, List.length_append, HFm.out, hlen]
          generalize (sgC ss l)[i]'hil2 = r at *
          obtain ⟨x, hx⟩ : ∃ x, x = ss[i] := ⟨_, rfl⟩
          rw [← hx] at e7 cL hlb hx1 hx60 hI7 hm2 hc6
          generalize lenF f 0 r = ln at *
          have HFl2 := Lib.hid hfl
          have HSm2 := Lib.hid hsm
          generalize hsi : smT f ss l i = si at *
          clear hsi hfl hsm hlen hstp hx
          have CL := Lib.hid cL
          have HI6 := Lib.hid hI6
          have HI7 := Lib.hid hI7
          have Hm2 := Lib.hid hm2
          have hwz : IntKind.i64.wrap (si + ln) = si + ln := IntWalk.i64_in _ (by omega)
          have hxz : ((x : Int) == 0) = false := by rw [beq_eq_false_iff_ne]; omega
          have hiI : (i : Int) < (ns : Int) := by omega
          have hi0 : (0 : Int) ≤ (i : Int) := by omega
          clear cL hI6 hI7 hm2 hil hil2
          go_wp2_with (first
            | (go_at_call 29; refine CL.out.mono ?_; rintro e w6 ⟨rfl, hw6⟩; obtain rfl := hw6.symm; clear hw6)
            | (at_builtin; refine wpList_app _ rfl _ _ 28 rfl w4.heap.size 3 j0 _ 1 8 Try.underlying28 hj hy0 hy1 hy2 rfl (by decide) _ m _ rfl HO.out A6 x c6 ((intL r).map (Value.int .i64)) rfl (by rw [List.length_map, HI7.out, Nat.mul_one]) (fun e => by have := HI6.out.none_nil e; rw [HI7.out] at this; exact this) (IntsAt.news HI6.out) (ints_one _) (by omega) (by decide) HBx.out.size (m + x) rfl _ rfl ?_; intro A8 c8 w8 hown8 hg8 hlow8))
          have hb8 : Below w4.heap.size w4 w8 := HBx.out.grown hg8 HBx.out.size hlow8
          go_roundw
          case rel => exact ⟨i + 1, m + x, A8, c8, by omega, by go_num, by rw [HSm2.out], rfl, Hm2.out, by omega, by rw [HSm2.out]; constructor <;> omega, by rw [HFl2.out, show intL (flT ss l i ++ r) = intL (flT ss l i) ++ intL r by simp [intL], List.map_append]; exact hown8, hb8⟩
          case measure => simp [intOf]; omega
        · obtain rfl : i = ns := by omega
          have hse : (smT f ss l i == smC f ss l) = true := by rw [HSm.out]; simp
          have hO2 := HO.out
          rw [HFl.out] at hO2
          have hm3 := HFm.out
          rw [HFl.out] at hm3
          subst hm3
          have hI5 := IntsAt.of_own (zs := intL l) (by rw [intL_length]; exact hO2)
          have hbw := HBs3.out.trans (HBx3.out.mono HBs3.out.size)
          have cI0 := SameInts_any A5 A2 c5 c2 wr.heap.size (intL l) (intL l) wr (Nat.le_refl _) hI5 (H2.out.below hbw hbw.size) (by rw [intL_length]; omega)
          have hdd : decide (intL l = intL l) = true := by simp
          rw [hdd, intL_length] at cI0
          have CI := Lib.hid cI0
          obtain ⟨k0, k1, k2⟩ := HCs3.out _ HBx3.out
          clear hO2 hI5 cI0 HFm hdd hbw
          go_wp2_with (first
            | (go_at_call 34; first | (refine CI.out.mono ?_; rintro e w6 ⟨rfl, hb6⟩))
            | (go_at_call 18; refine (known_any _).mono ?_; rintro e w9 ⟨rfl, hb9⟩))
          go_ret
          have h6 := HBs3.out.trans (HBx3.out.mono HBs3.out.size)
          exact ⟨rfl, (h6.trans (hb6.mono h6.size)).trans (hb9.mono (h6.trans (hb6.mono h6.size)).size)⟩
    · have cv := Lib.hid (fun W (hW : Below w.heap.size w W) => Trips_any_bad A A1 A2 c c1 c2 w.heap.size rows n g t bx W hW.size (h.below hW (Nat.le_refl _)) hl (h1.below hW (Nat.le_refl _)) (by omega) (h2.below hW (Nat.le_refl _)) (by omega) hcap hts)
      have cvr := Lib.hid (fun W (hW : Below w.heap.size w W) => Trips_ref_bad A A1 A2 c c1 c2 w.heap.size rows n g t bx W hW.size (h.below hW (Nat.le_refl _)) hl (h1.below hW (Nat.le_refl _)) (by omega) (h2.below hW (Nat.le_refl _)) (by omega) hcap hts)
      have cs := Lib.hid (fun (W : World) => Same_any none none 0 0 W.heap.size [] [] W (Nat.le_refl _) (fun k hk => by simp at hk) (fun k hk => by simp at hk) (by simp) (fun r hr => by simp at hr))
      have hne : (tpR rows n g t bx != 0) = true := by simpa using hts
      have hne2 : (tpR rows n g t bx != tpR rows n g t bx) = false := by simp
      generalize tpR rows n g t bx = e0 at cv cvr hne hne2
      clear h h1 h2 hlg hlo hl hts
      go_enter Try.func15, Try.ntmps15
      go_wp2_with fail
      generalize hW0 : w.alloc (.cells #[.slice A1 n c1, .slice A2 t.length c2, .int .i64 bg] 45) = W0
      have HBk := Lib.hid (show Blk W0 w.heap.size 45 #[.slice A1 n c1, .slice A2 t.length c2, .int .i64 bg] by rw [← hW0]; exact Blk.new _ _ _)
      have hB0 : Below w.heap.size w W0 := by rw [← hW0]; exact (Below.refl _ _).alloc (Nat.le_refl _) _
      have HB0 := Lib.hid hB0
      have HBs := Lib.hid (show ∀ W, Below W0.heap.size W0 W → Below w.heap.size w W from fun W hW => HB0.out.trans (hW.mono HB0.out.size))
      have HCs := Lib.hid (show ∀ W, Below W0.heap.size W0 W → W.cell? ⟨w.heap.size, 0, none⟩ = some (.slice A1 n c1) ∧ W.cell? ⟨w.heap.size, 1, none⟩ = some (.slice A2 t.length c2) ∧ W.cell? ⟨w.heap.size, 2, none⟩ = some (.int .i64 bg) from fun W hW => by
        obtain ⟨q0, q1, q2, _⟩ := blk3 (HBk.out.below hW HBk.out.lt)
        exact ⟨q0, q1, q2⟩)
      obtain ⟨k0, k1, k2⟩ := HCs.out _ (Below.refl _ _)
      clear hW0 hB0
      go_wp2_with (first
        | (go_at_call 17; refine (cl.out _ HB0.out).mono ?_; rintro e w1 ⟨rfl, hw1⟩; obtain rfl := hw1.symm; clear hw1)
        | (go_at_call 36; refine (cg.out _).mono ?_; rintro e w1 ⟨rfl, hb1⟩; clear k0 k1 k2; obtain ⟨k0, k1, k2⟩ := HCs.out _ hb1)
        | (go_at_call 52; refine (cv.out _ (HBs.out _ hb1)).mono ?_; rintro e w2 ⟨rfl, hb2⟩; have hB2 := hb1.trans (hb2.mono hb1.size); clear k0 k1 k2; obtain ⟨k0, k1, k2⟩ := HCs.out _ hB2)
        | (go_at_call 53; refine (cvr.out _ (HBs.out _ hB2)).mono ?_; rintro e w3 ⟨rfl, hb3⟩; have hB3 := hB2.trans (hb3.mono hB2.size))
        | (go_at_call 49; refine (cs.out _).mono ?_; rintro e w4 ⟨rfl, hb4⟩; have hB4 := hB3.trans (hb4.mono hB3.size))
        | (go_at_call 18; refine (known_any _).mono ?_; rintro e w9 ⟨rfl, hb9⟩))
      go_ret
      exact ⟨rfl, HBs.out _ (hB4.trans (hb9.mono hB4.size))⟩
end Go.Proofs.Ytmodbpglopfghaa


namespace Go.Proofs.Ytmodbpglopfghaa.lawVanTrips
open Go.ChangeShapes Go.WideShapes Go.ChangeAt Go.RowKit Go.Deep
set_option linter.unusedVariables false

theorem own : ownKnob Try.prog.godebug = none := by kernel_rfl
theorem laidOut : laidOutB Try.prog = true := by kernel_rfl

set_option maxRecDepth 100000 in
theorem lifted (os : Os) (started : os.Started) (H : Type) (enc : TypeId × Value → H) :
    ReturnsInHanded {} Try.checked os 15 .any (Rows.vanTripsSpec.pre6 enc Try.prog Try.f15 Rows.vanTripsRow.domain false) (Rows.vanTripsSpec.post enc Try.prog Try.f15 false true false false) := by
  refine returnsInHanded_of_change (C := Try.checked) own started (by kernel_rfl) Try.func15
    (ChangeSpec.witness6 (enc := enc) (C := Try.checked) false ⟨#[], #[.slice none 0 0, .agg #[.slice none 0 0, .slice none 0 0, .int .i64 0], .int .i64 0], []⟩ 8 (by kernel_rfl) (by kernel_rfl) (by kernel_rfl) (by kernel_rfl)) ?_
  intro W base args ds gs before hval0 hW hcnd _
  have hval : ∀ (j : Nat) t v, Try.f15.params[j]? = some t → args[j]? = some v → Value.okWide Try.prog W .any base t v := hval0
  have hW' := hW
  obtain ⟨p, q, hA0, hV, rfl, hfz, hnd⟩ := hW
  have hA : DataW.TrodAll enc Try.prog W 0 (fun _ => true) true Try.f15.params.toList args.toList ds p := hA0
  rw [Try.params15] at hA hval
  obtain ⟨v0, vs0, d0, ds0, p0, q0, hargs, rfl, rfl, h0, r0⟩ := trodAll_cons hA
  obtain ⟨v1, vs1, d1, ds1, p1, q1, rfl, rfl, rfl, h1, r1⟩ := trodAll_cons r0
  obtain ⟨v2, vs2, d2, ds2, p2, q2, rfl, rfl, rfl, h2, r2⟩ := trodAll_cons r1
  obtain ⟨rfl, rfl, rfl⟩ := trodAll_nil r2
  obtain rfl : args = #[v0, v1, v2] := by cases args; simp_all
  obtain ⟨rfl, rfl⟩ := trodVars_none hV
  have k0 := h0
  have lt0 : ∀ x ∈ p0, x.block < W.heap.size := by obtain ⟨m, hm⟩ := k0; exact DataW.trod_lt m _ _ _ hm
  obtain ⟨fu0, hf0⟩ := h0
  obtain ⟨A0, c0, l0, e0, t0, m0⟩ := open_tblAt Try.underlying22 Try.underlying28 Try.underlying3 (by kernel_rfl) (by kernel_rfl) hf0
  obtain ⟨A0', n0', c0', rfl⟩ := okWide_slice Try.underlying22 (hval 0 22 v0 rfl rfl)
  obtain ⟨rfl, rfl, rfl⟩ : A0' = A0 ∧ n0' = l0.length ∧ c0' = c0 := by simpa [Value.cells] using e0
  have k1 := h1
  have lt1 : ∀ x ∈ p1, x.block < W.heap.size := by obtain ⟨m, hm⟩ := k1; exact DataW.trod_lt m _ _ _ hm
  obtain ⟨A1, c1, n1, f1, B1, e1, z1, b1, rfl, i1, u1, iq1, ir1⟩ := open_trip (hval 1 45 v1 rfl rfl) h1
  have k2 := h2
  have lt2 : ∀ x ∈ p2, x.block < W.heap.size := by obtain ⟨m, hm⟩ := k2; exact DataW.trod_lt m _ _ _ hm
  obtain ⟨a2, rfl, rfl, rfl, w2⟩ := open_int Try.underlying3 (hval 2 3 v2 rfl rfl) h2
  clear hA0 hval0
  refine (trips_law _ _ _ _ _ _ l0 n1 f1 z1 b1 _ W t0 i1 u1 iq1).mono fun e W' ⟨he, bel⟩ => ?_
  subst he
  exact ⟨_, rfl, _, _, _, [], _, [], hW', trodAll_mk1 (shut_bool Try.underlying4 _), (trodAll_cons_mk (Below.trod laidOut (by kernel_rfl) (of_decide_eq_true (by kernel_rfl)) k0 bel lt0) (trodAll_cons_mk (Below.trod laidOut (by kernel_rfl) (of_decide_eq_true (by kernel_rfl)) k1 bel lt1) (trodAll_cons_mk (Below.trod laidOut (by kernel_rfl) (of_decide_eq_true (by kernel_rfl)) k2 bel lt2) trodAll_mk0))), rfl, bel.frame _, fun h => by cases h⟩

theorem over : Rows.vanTripsRow.holds Try.pinned (OpenSpec.ofChange Rows.vanTripsSpec) :=
  OpenClaim.holds_of_wide 15 Try.f15 rfl rfl rfl rfl rfl rfl rfl ⟨rfl, rfl, rfl, rfl, rfl⟩ rfl rfl rfl rfl rfl (by kernel_rfl) Try.func15 (by kernel_rfl)
    (of_decide_eq_true (by kernel_rfl)) (by unfold Func.isWrapper; first | (rw [if_pos (by decide +kernel)]; kernel_rfl) | (rw [if_neg (by decide +kernel)]; exact ⟨rfl, rfl⟩))
    (fun os started H enc _ => lifted os started H enc)

/-- The statement. -/
theorem proved : Rows.VanTripsSaid := over
end Go.Proofs.Ytmodbpglopfghaa.lawVanTrips
