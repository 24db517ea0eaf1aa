/- Which visit is too late: f96, f95, f76, f77. -/
import Derived.Test.YtmodbpglopfghaaVanAq
set_option linter.unusedSimpArgs false
set_option linter.unusedVariables false
namespace Go.Proofs.Ytmodbpglopfghaa
open Go.RowKit

/-- Whether the k-th visit is too late. -/
def ltB (f g : Nat → Nat → Int) (b : Int) (t : List Nat) (k : Nat) : Bool := decide (g (t[k]?.getD 0) 1 < arr f g (nowT f g b t k) (atT t k) (t[k]?.getD 0))
theorem ltB_get {f g : Nat → Nat → Int} {b : Int} {t : List Nat} {k : Nat} (h : k < t.length) : ltB f g b t k = decide (g t[k] 1 < arr f g (nowT f g b t k) (atT t k) t[k]) := by
  simp [ltB, h]
/-- The place of the first visit that is too late, or -1. -/
def ltR (f g : Nat → Nat → Int) (b : Int) (t : List Nat) : Int := match (List.range t.length).find? (ltB f g b t) with
  | some k => ((k : Nat) : Int)
  | none => -1
theorem lt_some {f g : Nat → Nat → Int} {b : Int} {t : List Nat} {k : Nat} (hk : k < t.length) (h : ltB f g b t k = true) (h' : ∀ j, j < k → ltB f g b t j = false) : ltR f g b t = (k : Int) := by
  have : (List.range t.length).find? (ltB f g b t) = some k := by
    rw [List.find?_range_eq_some]
    exact ⟨h, by simpa using hk, fun j hj => by simp [h' j hj]⟩
  rw [ltR, this]
theorem lt_none {f g : Nat → Nat → Int} {b : Int} {t : List Nat} (h : ∀ k, k < t.length → ltB f g b t k = false) : ltR f g b t = -1 := by
  have : (List.range t.length).find? (ltB f g b t) = none := by
    rw [List.find?_eq_none]
    intro k hk
    simp [h k (by simpa using hk)]
  rw [ltR, this]
theorem lt_cases (f g : Nat → Nat → Int) (b : Int) (t : List Nat) : (ltR f g b t = -1 ∧ ∀ k, k < t.length → ltB f g b t k = false) ∨ ∃ k : Nat, k < t.length ∧ ltR f g b t = (k : Int) ∧ ltB f g b t k = true ∧ ∀ j, j < k → ltB f g b t j = false := by
  cases e : (List.range t.length).find? (ltB f g b t) with
  | none =>
    refine .inl ⟨by rw [ltR, e], fun k hk => ?_⟩
    rw [List.find?_eq_none] at e
    simpa using e k (by simpa using hk)
  | some k =>
    refine .inr ⟨k, ?_⟩
    have e' := e
    rw [List.find?_range_eq_some] at e'
    obtain ⟨h1, h2, h3⟩ := e'
    exact ⟨by simpa using h2, by rw [ltR, e], h1, fun j hj => by simpa using h3 j hj⟩

set_option maxRecDepth 100000 in
set_option maxHeartbeats 1000000 in
theorem late1_any (q : Nat) (A1 : Option Addr) (n c1 B : Nat) (g : Nat → Nat → Int) (x : Nat) (y z : Int) (w : World) (hB : B ≤ w.heap.size) (h1 : StAt B w A1 n g) (hx : x < n) (hn : n ≤ 1000) (hq : w.cell? ⟨q, 0, none⟩ = some (.slice A1 n c1)) :
    Calls Try.prog 96 #[.agg #[.int .i64 (x : Nat), .int .i64 y, .int .i64 z], .pointer (some ⟨q, 0, none⟩)] w fun e w' => e = .returned (.bool (decide (g x 1 < y))) ∧ Below w.heap.size w w' := by
  obtain ⟨b, off, rfl, hb, c0, c1', c2, c3⟩ := h1.at hx
  have hbw : b < w.heap.size := by omega
  have hqw : q < w.heap.size := cell_lt hq
  have hb0 : ∀ o, Below w.heap.size w (w.alloc o) := fun o => (Below.refl _ _).alloc (Nat.le_refl _) _
  have hxi : (x : Int) < (n : Int) := by omega
  have hx0 : (0 : Int) ≤ (x : Int) := by omega
  generalize g x 1 = p at c1' ⊢
  clear c0 c2 c3 h1
  go_enter Try.func96, Try.ntmps96
  go_wp2_with fail
  go_quiet (fail)
  go_wp2_with fail
  go_ret
  exact ⟨rfl, below_drewN (hb0 _) _⟩

set_option maxRecDepth 100000 in
set_option maxHeartbeats 1000000 in
theorem IndexFunc_late (q : Nat) (A1 A3 : Option Addr) (n c1 c3 B : Nat) (f g : Nat → Nat → Int) (bg : Int) (t : List Nat) (w : World) (hB : B ≤ w.heap.size) (h1 : StAt B w A1 n g) (ht : ∀ x ∈ t, x < n) (hn : n ≤ 1000) (hm : t.length ≤ 1000) (hv : VisAt B w A3 f g bg t) (hqB : q < w.heap.size) (hq : w.cell? ⟨q, 0, none⟩ = some (.slice A1 n c1)) :
    Calls Try.prog 95 #[.slice A3 t.length c3, .func (.func 96) #[] #[.pointer (some ⟨q, 0, none⟩)]] w fun e w' => e = .returned (.int .i64 (ltR f g bg t)) ∧ Below w.heap.size w w' := by
  have H1 := Lib.hid (show StAt w.heap.size w A1 n g from h1.below (Below.refl _ _) hB)
  have HV := Lib.hid (show VisAt w.heap.size w A3 f g bg t from hv.below (Below.refl _ _) hB)
  have Ht := Lib.hid ht
  have Hsome := Lib.hid (fun k hk h h' => lt_some (f := f) (g := g) (b := bg) (t := t) (k := k) hk h h')
  have Hnone := Lib.hid (fun h => lt_none (f := f) (g := g) (b := bg) (t := t) h)
  have Hget := Lib.hid (fun k (hk : k < t.length) => ltB_get (f := f) (g := g) (b := bg) hk)
  generalize ltR f g bg t = r at Hsome Hnone ⊢
  generalize ltB f g bg t = P at Hsome Hnone Hget
  clear h1 hv ht
  go_enter Try.func95, Try.ntmps95
  go_wp2_with fail
  go_loopw [8] (fun vk wr => ∃ k : Nat, k ≤ t.length ∧ vk = .int .i64 k ∧ (∀ j, j < k → P j = false) ∧ Below w.heap.size w wr) (fun vk _ => t.length - (intOf vk).toNat)
  case atStart => exact ⟨0, Nat.zero_le _, rfl, fun j hj => absurd hj (Nat.not_lt_zero j), Below.refl _ _⟩
  case round =>
    obtain ⟨k, hk, rfl, hn', hbr⟩ := hrel
    have HN := Lib.hid hn'
    have HBr := Lib.hid hbr
    clear hn' hbr
    by_cases hlt : k < t.length
    · obtain ⟨q3, o3, rfl, hq3, a0, a1, a2⟩ := (HV.out.below HBr.out (Nat.le_refl _)).at hlt
      have cs := Lib.hid (late1_any q A1 n c1 w.heap.size g t[k] (arr f g (nowT f g bg t k) (atT t k) t[k]) (arr f g (nowT f g bg t k) (atT t k) t[k] + g t[k] 2) wr HBr.out.size (H1.out.below HBr.out (Nat.le_refl _)) (Ht.out _ (List.getElem_mem hlt)) hn ((HBr.out.cell (p := ⟨q, 0, none⟩) hqB).trans hq))
      rw [← Hget.out k hlt] at cs
      have hkI : (k : Int) < (t.length : Int) := by omega
      have hk0 : (0 : Int) ≤ (k : Int) := by omega
      generalize arr f g (nowT f g bg t k) (atT t k) t[k] = y at cs a1 a2
      generalize y + g t[k] 2 = z at cs a2
      generalize t[k] = x at cs a0
      cases hp : P k with
      | true =>
        rw [hp] at cs
        have HR := Lib.hid (Hsome.out k hlt hp HN.out)
        clear hp
        go_wp2_with (go_at_call 96; refine cs.out.mono ?_; rintro e w3 ⟨rfl, hb3⟩)
        go_ret
        exact ⟨by rw [HR.out]; rfl, HBr.out.trans (hb3.mono HBr.out.size)⟩
      | false =>
        rw [hp] at cs
        have HN2 := Lib.hid (show ∀ j, j < k + 1 → P j = false from fun j hj => by
          by_cases e : j = k
          · subst e; exact hp
          · exact HN.out j (by omega))
        clear hp
        go_wp2_with (go_at_call 96; refine cs.out.mono ?_; rintro e w3 ⟨rfl, hb3⟩)
        go_roundw
        case rel => exact ⟨k + 1, by omega, by go_num, HN2.out, HBr.out.trans (hb3.mono HBr.out.size)⟩
        case measure => simp [intOf]; omega
    · obtain rfl : k = t.length := by omega
      have HR := Lib.hid (Hnone.out HN.out)
      go_wp2_with fail
      go_ret
      exact ⟨by rw [HR.out]; rfl, HBr.out⟩

set_option maxRecDepth 100000 in
set_option maxHeartbeats 1000000 in
theorem late_any (A1 A3 : Option Addr) (n c1 c3 B : Nat) (f g : Nat → Nat → Int) (bg : Int) (t : List Nat) (w : World) (hB : B ≤ w.heap.size) (h1 : StAt B w A1 n g) (ht : ∀ x ∈ t, x < n) (hn : n ≤ 1000) (hm : t.length ≤ 1000) (hv : VisAt B w A3 f g bg t) :
    Calls Try.prog 76 #[.slice A1 n c1, .slice A3 t.length c3] w fun e w' => e = .returned (.int .i64 (ltR f g bg t)) ∧ Below w.heap.size w w' := by
  have hB0 : Below w.heap.size w (w.alloc (.cells #[.slice A1 n c1] 43)) := (Below.refl _ _).alloc (Nat.le_refl _) _
  have cc := Lib.hid (IndexFunc_late w.heap.size A1 A3 n c1 c3 w.heap.size f g bg t (w.alloc (.cells #[.slice A1 n c1] 43)) hB0.size ((h1.below (Below.refl _ _) hB).below hB0 (Nat.le_refl _)) ht hn hm ((hv.below (Below.refl _ _) hB).below hB0 (Nat.le_refl _)) (by simp) (blk1 (Blk.new w 43 #[.slice A1 n c1])).1)
  have HB0 := Lib.hid hB0
  clear h1 hv hB0
  go_enter Try.func76, Try.ntmps76
  go_wp2_with (go_at_call 95; refine cc.out.mono ?_; rintro e w3 ⟨rfl, hb3⟩)
  go_ret
  exact ⟨rfl, HB0.out.trans (hb3.mono HB0.out.size)⟩

set_option maxRecDepth 100000 in
set_option maxHeartbeats 1000000 in
theorem check_ref (b off n c c1 c2 B : Nat) (f g : Nat → Nat → Int) (A1 A2 : Option Addr) (t : List Nat) (bg : Int) (w : World) (hB : B ≤ w.heap.size) (h : WaAt B w b off n f) (hf : ∀ i j, i < n → j < n → 0 ≤ f i j ∧ f i j ≤ 1000) (h1 : StAt B w A1 n g) (hg : VS n g)
    (h2 : IntsAt B w A2 (intL t)) (ht : ∀ x ∈ t, x < n) (hn : 1 ≤ n) (hn7 : n ≤ 1000) (hm : t.length ≤ 1000) (hbg : 0 ≤ bg ∧ bg ≤ 10000) :
    Calls Try.prog 77 #[.slice (some ⟨b, off, none⟩) n c, .slice A1 n c1, .slice A2 t.length c2, .int .i64 bg] w fun e w' => e = .returned (.tuple #[.int .i64 (if ltR f g bg t = -1 then bkT f g bg t else ltR f g bg t), .bool (decide (ltR f g bg t = -1))]) ∧ Below w.heap.size w w' := by
  have cd := Lib.hid (drive_ref b off n c c1 c2 B f g A1 A2 t bg w hB h hf h1 hg h2 ht hn hn7 hm hbg)
  have H1 := Lib.hid (show StAt w.heap.size w A1 n g from h1.below (Below.refl _ _) hB)
  have Ht := Lib.hid ht
  have Hsome := Lib.hid (fun k hk h h' => lt_some (f := f) (g := g) (b := bg) (t := t) (k := k) hk h h')
  have Hnone := Lib.hid (fun h => lt_none (f := f) (g := g) (b := bg) (t := t) h)
  have Hget := Lib.hid (fun k (hk : k < t.length) => ltB_get (f := f) (g := g) (b := bg) hk)
  have HVo := Lib.hid (fun (A3 : Option Addr) (c3 : Nat) (W : World) (ho : W.ownsRow w.heap.size 56 3 (.slice A3 t.length c3) t.length ((viT f g bg t t.length).flatMap fun r => r.map (Value.int .i64))) => show VisAt W.heap.size W A3 f g bg t from RowsAt.of_own (viT_row _ _ _ _ _) (c := c3) (base := w.heap.size) (e := 56) (by rw [viT_length]; exact ho))
  generalize ltR f g bg t = r at Hsome Hnone ⊢
  generalize ltB f g bg t = P at Hsome Hnone Hget
  generalize bkT f g bg t = bk at cd ⊢
  clear h h1 h2 ht hf hg
  obtain ⟨v, hv⟩ : ∃ v, (if r = -1 then bk else r) = v := ⟨_, rfl⟩
  obtain ⟨ok, hk⟩ : ∃ ok, decide (r = -1) = ok := ⟨_, rfl⟩
  rw [hv, hk]
  have Hv := Lib.hid (And.intro hv hk)
  clear hv hk
  go_enter Try.func77, Try.ntmps77
  go_wp2_with (go_at_call 74; refine cd.out.mono ?_; rintro e w2 ⟨A3, c3, rfl, ho, hb2⟩; have HV := Lib.hid (HVo.out _ _ _ ho); clear ho)
  go_loopw [12] (fun vk wr => ∃ k : Nat, k ≤ t.length ∧ vk = .int .i64 k ∧ (∀ j, j < k → P j = false) ∧ Below w2.heap.size w2 wr) (fun vk _ => t.length - (intOf vk).toNat)
  case atStart => exact ⟨0, Nat.zero_le _, rfl, fun j hj => absurd hj (Nat.not_lt_zero j), Below.refl _ _⟩
  case round =>
    obtain ⟨k, hk, rfl, hn', hbr⟩ := hrel
    have HN := Lib.hid hn'
    have HBr := Lib.hid (hb2.trans (hbr.mono hb2.size))
    have HBx := Lib.hid hbr
    clear hn' hbr
    by_cases hlt : k < t.length
    · obtain ⟨q3, o3, rfl, hq3, a0, a1, _⟩ := (HV.out.below HBx.out (Nat.le_refl _)).at hlt
      have hx := Ht.out _ (List.getElem_mem hlt)
      obtain ⟨b3, o3', rfl, hb3, _, g1, _, _⟩ := (H1.out.below HBr.out (Nat.le_refl _)).at hx
      have hget := Hget.out k hlt
      have hkI : (k : Int) < (t.length : Int) := by omega
      have hk0 : (0 : Int) ≤ (k : Int) := by omega
      generalize arr f g (nowT f g bg t k) (atT t k) t[k] = y at hget a1
      generalize t[k] = x at hget a0 hx g1
      generalize g x 1 = p at hget g1
      have hxi : (x : Int) < (n : Int) := by omega
      have hx0 : (0 : Int) ≤ (x : Int) := by omega
      cases hp : P k with
      | true =>
        rw [hp] at hget
        have hd := hget.symm
        have HR := Lib.hid (Hsome.out k hlt hp HN.out)
        clear hp hget
        go_wp2_with fail
        go_quiet (fail)
        go_wp2_with fail
        go_ret2
        refine ⟨?_, below_drewN HBr.out _⟩
        have hr := HR.out
        have e1 : v = (k : Int) := by rw [← Hv.out.1, hr, if_neg (by omega)]
        have e2 : ok = false := by rw [← Hv.out.2]; exact decide_eq_false (by omega)
        rw [e1, e2]; rfl
      | false =>
        rw [hp] at hget
        have hd := hget.symm
        have HN2 := Lib.hid (show ∀ j, j < k + 1 → P j = false from fun j hj => by
          by_cases e : j = k
          · subst e; exact hp
          · exact HN.out j (by omega))
        clear hp hget
        go_wp2_with fail
        go_quiet (fail)
        go_wp2_with fail
        go_roundw
        case rel => exact ⟨k + 1, by omega, by go_num, HN2.out, below_drewN HBx.out _⟩
        case measure => simp [intOf]; omega
    · obtain rfl : k = t.length := by omega
      have HR := Lib.hid (Hnone.out HN.out)
      go_wp2_with fail
      go_ret2
      refine ⟨?_, HBr.out⟩
      have hr := HR.out
      have e1 : v = bk := by rw [← Hv.out.1, if_pos hr]
      have e2 : ok = true := by rw [← Hv.out.2]; exact decide_eq_true hr
      rw [e1, e2]; rfl
end Go.Proofs.Ytmodbpglopfghaa
