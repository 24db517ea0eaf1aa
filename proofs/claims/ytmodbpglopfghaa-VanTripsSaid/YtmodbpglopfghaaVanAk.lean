/- Whether rows, and tables, are equal. -/
import Derived.Test.YtmodbpglopfghaaVanAj
set_option linter.unusedSimpArgs false
set_option linter.unusedVariables false
namespace Go.Proofs.Ytmodbpglopfghaa
open Go.RowKit

theorem list_ext {α : Type} {l l' : List α} (hl : l.length = l'.length) (h : ∀ i (h1 : i < l.length) (h2 : i < l'.length), l[i] = l'[i]) : l = l' := List.ext_getElem hl h
section
variable {α : Type} [DecidableEq α] {l l' : List α}
theorem eq_lens (h : ¬ l.length = l'.length) : decide (l = l') = false := by
  rw [decide_eq_false_iff_not]
  exact fun e => h (by rw [e])
theorem eq_at {i : Nat} (h1 : i < l.length) (h2 : i < l'.length) (h : ¬ l[i] = l'[i]) : decide (l = l') = false := by
  rw [decide_eq_false_iff_not]
  exact fun e => h (by subst e; rfl)
theorem eq_all (hl : l.length = l'.length) (h : ∀ i (h1 : i < l.length) (h2 : i < l'.length), l[i] = l'[i]) : decide (l = l') = true := by
  rw [decide_eq_true_iff]
  exact List.ext_getElem hl h
end

set_option maxRecDepth 100000 in
set_option maxHeartbeats 1000000 in
theorem SameInts_any (A A' : Option Addr) (c c' B : Nat) (l l' : List Int) (w : World) (hB : B ≤ w.heap.size) (h : IntsAt B w A l) (h' : IntsAt B w A' l') (hm : l.length ≤ 1000) :
    Calls Try.prog 34 #[.slice A l.length c, .slice A' l'.length c'] w fun e w' => e = .returned (.bool (decide (l = l'))) ∧ Below w.heap.size w w' := by
  have H := Lib.hid (show IntsAt w.heap.size w A l from h.below (Below.refl _ _) hB)
  have H' := Lib.hid (show IntsAt w.heap.size w A' l' from h'.below (Below.refl _ _) hB)
  clear h h'
  by_cases hl : l.length = l'.length
  · have Hat := Lib.hid (fun i h1 h2 hne => eq_at (l := l) (l' := l') (i := i) h1 h2 hne)
    have Hall := Lib.hid (fun h => eq_all (l := l) (l' := l') hl h)
    have HL := Lib.hid hl
    rw [← hl]
    clear hl
    go_enter Try.func34, Try.ntmps34
    go_wp2_with fail
    go_loopw [5] (fun vk wr => ∃ k : Nat, k ≤ l.length ∧ vk = .int .i64 k ∧ Aside (∀ i (h1 : i < l.length) (h2 : i < l'.length), i < k → l[i] = l'[i]) ∧ Below w.heap.size w wr) (fun vk _ => l.length - (intOf vk).toNat)
    case atStart => exact ⟨0, Nat.zero_le _, rfl, (fun i _ _ hi => absurd hi (Nat.not_lt_zero i)), Below.refl _ _⟩
    case round =>
      obtain ⟨k, hk, rfl, hn, hbr⟩ := hrel
      have HN := Lib.hid hn.out
      have HBr := Lib.hid hbr
      clear hn hbr
      by_cases hlt : k < l.length
      · have hlt' : k < l'.length := by rw [← HL.out]; exact hlt
        obtain ⟨b1, o1, rfl, _, y0⟩ := (H.out.below HBr.out (Nat.le_refl _)).at hlt
        obtain ⟨b2, o2, rfl, _, y1⟩ := (H'.out.below HBr.out (Nat.le_refl _)).at hlt'
        have hkI : (k : Int) < (l.length : Int) := by omega
        have hk0 : (0 : Int) ≤ (k : Int) := by omega
        by_cases he : l[k] = l'[k]
        · have HN2 := Lib.hid (show ∀ i (h1 : i < l.length) (h2 : i < l'.length), i < k + 1 → l[i] = l'[i] from fun i h1 h2 hi => by
            by_cases e : i = k
            · subst e; exact he
            · exact HN.out i h1 h2 (by omega))
          rw [← he] at y1
          generalize l[k] = x at y0 y1
          clear he hlt'
          go_wp2_with fail
          go_quiet (fail)
          go_wp2_with fail
          go_roundw
          case rel => exact ⟨k + 1, by omega, by go_num, HN2.out, below_drewN HBr.out _⟩
          case measure => simp [intOf]; omega
        · have HR := Lib.hid (Hat.out k hlt hlt' he)
          have hd : (l[k] != l'[k]) = true := by simpa using he
          generalize l[k] = x at y0 hd
          generalize l'[k] = y at y1 hd
          clear he hlt'
          go_wp2_with fail
          go_quiet (fail)
          go_wp2_with fail
          go_ret
          exact ⟨by rw [HR.out]; rfl, below_drewN HBr.out _⟩
      · obtain rfl : k = l.length := by omega
        have HR := Lib.hid (Hall.out fun i h1 h2 => HN.out i h1 h2 h1)
        go_wp2_with fail
        go_ret
        exact ⟨by rw [HR.out]; rfl, HBr.out⟩
  · have HR := Lib.hid (eq_lens (l := l) (l' := l') hl)
    have hne : ((l.length : Int) == (l'.length : Int)) = false := beqf (by omega)
    have hne2 : ((l.length : Int) != (l'.length : Int)) = true := by simp; omega
    generalize l'.length = m at *
    clear hl
    go_enter Try.func34, Try.ntmps34
    go_wp2_with fail
    go_ret
    exact ⟨by rw [HR.out]; rfl, Below.refl _ _⟩

set_option maxRecDepth 100000 in
set_option maxHeartbeats 1000000 in
theorem Equal_any (A A' : Option Addr) (c c' B : Nat) (l l' : List Int) (w : World) (hB : B ≤ w.heap.size) (h : IntsAt B w A l) (h' : IntsAt B w A' l') (hm : l.length ≤ 1000) :
    Calls Try.prog 79 #[.slice A l.length c, .slice A' l'.length c'] w fun e w' => e = .returned (.bool (decide (l = l'))) ∧ Below w.heap.size w w' := by
  have H := Lib.hid (show IntsAt w.heap.size w A l from h.below (Below.refl _ _) hB)
  have H' := Lib.hid (show IntsAt w.heap.size w A' l' from h'.below (Below.refl _ _) hB)
  clear h h'
  by_cases hl : l.length = l'.length
  · have Hat := Lib.hid (fun i h1 h2 hne => eq_at (l := l) (l' := l') (i := i) h1 h2 hne)
    have Hall := Lib.hid (fun h => eq_all (l := l) (l' := l') hl h)
    have HL := Lib.hid hl
    rw [← hl]
    clear hl
    go_enter Try.func79, Try.ntmps79
    go_wp2_with fail
    go_loopw [13] (fun vk wr => ∃ k : Nat, k ≤ l.length ∧ vk = .int .i64 k ∧ Aside (∀ i (h1 : i < l.length) (h2 : i < l'.length), i < k → l[i] = l'[i]) ∧ Below w.heap.size w wr) (fun vk _ => l.length - (intOf vk).toNat)
    case atStart => exact ⟨0, Nat.zero_le _, rfl, (fun i _ _ hi => absurd hi (Nat.not_lt_zero i)), Below.refl _ _⟩
    case round =>
      obtain ⟨k, hk, rfl, hn, hbr⟩ := hrel
      have HN := Lib.hid hn.out
      have HBr := Lib.hid hbr
      clear hn hbr
      by_cases hlt : k < l.length
      · have hlt' : k < l'.length := by rw [← HL.out]; exact hlt
        obtain ⟨b1, o1, rfl, _, y0⟩ := (H.out.below HBr.out (Nat.le_refl _)).at hlt
        obtain ⟨b2, o2, rfl, _, y1⟩ := (H'.out.below HBr.out (Nat.le_refl _)).at hlt'
        have hkI : (k : Int) < (l.length : Int) := by omega
        have hk0 : (0 : Int) ≤ (k : Int) := by omega
        by_cases he : l[k] = l'[k]
        · have HN2 := Lib.hid (show ∀ i (h1 : i < l.length) (h2 : i < l'.length), i < k + 1 → l[i] = l'[i] from fun i h1 h2 hi => by
            by_cases e : i = k
            · subst e; exact he
            · exact HN.out i h1 h2 (by omega))
          rw [← he] at y1
          generalize l[k] = x at y0 y1
          clear he hlt'
          go_wp2_with fail
          go_quiet (fail)
          go_wp2_with fail
          go_roundw
          case rel => exact ⟨k + 1, by omega, by go_num, HN2.out, below_drewN HBr.out _⟩
          case measure => simp [intOf]; omega
        · have HR := Lib.hid (Hat.out k hlt hlt' he)
          have hd : (l[k] != l'[k]) = true := by simpa using he
          generalize l[k] = x at y0 hd
          generalize l'[k] = y at y1 hd
          clear he hlt'
          go_wp2_with fail
          go_quiet (fail)
          go_wp2_with fail
          go_ret
          exact ⟨by rw [HR.out]; rfl, below_drewN HBr.out _⟩
      · obtain rfl : k = l.length := by omega
        have HR := Lib.hid (Hall.out fun i h1 h2 => HN.out i h1 h2 h1)
        go_wp2_with fail
        go_ret
        exact ⟨by rw [HR.out]; rfl, HBr.out⟩
  · have HR := Lib.hid (eq_lens (l := l) (l' := l') hl)
    have hne : ((l.length : Int) == (l'.length : Int)) = false := beqf (by omega)
    have hne2 : ((l.length : Int) != (l'.length : Int)) = true := by simp; omega
    generalize l'.length = m at *
    clear hl
    go_enter Try.func79, Try.ntmps79
    go_wp2_with fail
    go_ret
    exact ⟨by rw [HR.out]; rfl, Below.refl _ _⟩
/-- A row of a table in memory. -/
theorem TblAt.row {B : Nat} {w : World} {A : Option Addr} {rows : List (List Int)} (h : TblAt B w A rows) {k : Nat} (hk : k < rows.length) : ∃ b off A1 c1, A = some ⟨b, off, none⟩ ∧ b < B ∧ w.cell? ⟨b, off + k, none⟩ = some (.slice A1 rows[k].length c1) ∧ IntsAt B w A1 rows[k] := h k hk

set_option maxRecDepth 100000 in
set_option maxHeartbeats 1000000 in
theorem Same_any (A A' : Option Addr) (c c' B : Nat) (l l' : List (List Int)) (w : World) (hB : B ≤ w.heap.size) (h : TblAt B w A l) (h' : TblAt B w A' l') (hm : l.length ≤ 1000) (hm2 : ∀ r ∈ l, r.length ≤ 1000) :
    Calls Try.prog 49 #[.slice A l.length c, .slice A' l'.length c'] w fun e w' => e = .returned (.bool (decide (l = l'))) ∧ Below w.heap.size w w' := by
  have H := Lib.hid (show TblAt w.heap.size w A l from h.below (Below.refl _ _) hB)
  have H' := Lib.hid (show TblAt w.heap.size w A' l' from h'.below (Below.refl _ _) hB)
  clear h h'
  by_cases hl : l.length = l'.length
  · have Hat := Lib.hid (fun i h1 h2 hne => eq_at (l := l) (l' := l') (i := i) h1 h2 hne)
    have Hall := Lib.hid (fun h => eq_all (l := l) (l' := l') hl h)
    have HL := Lib.hid hl
    have HM2 := Lib.hid hm2
    rw [← hl]
    clear hl hm2
    go_enter Try.func49, Try.ntmps49
    go_wp2_with fail
    go_loopw [5] (fun vk wr => ∃ k : Nat, k ≤ l.length ∧ vk = .int .i64 k ∧ Aside (∀ i (h1 : i < l.length) (h2 : i < l'.length), i < k → l[i] = l'[i]) ∧ Below w.heap.size w wr) (fun vk _ => l.length - (intOf vk).toNat)
    case atStart => exact ⟨0, Nat.zero_le _, rfl, (fun i _ _ hi => absurd hi (Nat.not_lt_zero i)), Below.refl _ _⟩
    case round =>
      obtain ⟨k, hk, rfl, hn, hbr⟩ := hrel
      have HN := Lib.hid hn.out
      have HBr := Lib.hid hbr
      clear hn hbr
      by_cases hlt : k < l.length
      · have hlt' : k < l'.length := by rw [← HL.out]; exact hlt
        obtain ⟨b1, o1, A1, c1, rfl, hb1, y0, i0⟩ := (H.out.below HBr.out (Nat.le_refl _)).row hlt
        obtain ⟨b2, o2, A2, c2, rfl, hb2, y1, i1⟩ := (H'.out.below HBr.out (Nat.le_refl _)).row hlt'
        have cs := Lib.hid (fun W (hW : Below wr.heap.size wr W) => SameInts_any A1 A2 c1 c2 w.heap.size l[k] l'[k] W (Nat.le_trans HBr.out.size hW.size) (i0.below (hW.mono HBr.out.size) (Nat.le_refl _)) (i1.below (hW.mono HBr.out.size) (Nat.le_refl _)) (HM2.out _ (List.getElem_mem hlt)))
        have hkI : (k : Int) < (l.length : Int) := by omega
        have hk0 : (0 : Int) ≤ (k : Int) := by omega
        by_cases he : l[k] = l'[k]
        · have HN2 := Lib.hid (show ∀ i (h1 : i < l.length) (h2 : i < l'.length), i < k + 1 → l[i] = l'[i] from fun i h1 h2 hi => by
            by_cases e : i = k
            · subst e; exact he
            · exact HN.out i h1 h2 (by omega))
          rw [decide_eq_true he] at cs
          generalize l[k].length = n1 at *
          generalize l'[k].length = n2 at *
          clear he hlt' i0 i1
          go_wp2_with fail
          go_still_tail 8, (by kernel_rfl)
          change wpList _ _ _ _ _ (wr.drewN 1)
          have hbd := Lib.hid (below_drewN (Below.refl wr.heap.size wr) 1)
          go_wp2_with (go_at_call 34; refine (cs.out _ hbd.out).mono ?_; rintro e w3 ⟨rfl, hb3⟩)
          go_roundw
          case rel => exact ⟨k + 1, by omega, by go_num, HN2.out, HBr.out.trans ((hbd.out.trans (hb3.mono hbd.out.size)).mono HBr.out.size)⟩
          case measure => simp [intOf]; omega
        · have HR := Lib.hid (Hat.out k hlt hlt' he)
          rw [decide_eq_false he] at cs
          generalize l[k].length = n1 at *
          generalize l'[k].length = n2 at *
          clear he hlt' i0 i1
          go_wp2_with fail
          go_still_tail 8, (by kernel_rfl)
          change wpList _ _ _ _ _ (wr.drewN 1)
          have hbd := Lib.hid (below_drewN (Below.refl wr.heap.size wr) 1)
          go_wp2_with (go_at_call 34; refine (cs.out _ hbd.out).mono ?_; rintro e w3 ⟨rfl, hb3⟩)
          go_ret
          exact ⟨by rw [HR.out]; rfl, HBr.out.trans ((hbd.out.trans (hb3.mono hbd.out.size)).mono HBr.out.size)⟩
      · obtain rfl : k = l.length := by omega
        have HR := Lib.hid (Hall.out fun i h1 h2 => HN.out i h1 h2 h1)
        go_wp2_with fail
        go_ret
        exact ⟨by rw [HR.out]; rfl, HBr.out⟩
  · have HR := Lib.hid (eq_lens (l := l) (l' := l') hl)
    have hne : ((l.length : Int) == (l'.length : Int)) = false := beqf (by omega)
    have hne2 : ((l.length : Int) != (l'.length : Int)) = true := by simp; omega
    generalize l'.length = m at *
    clear hl
    go_enter Try.func49, Try.ntmps49
    go_wp2_with fail
    go_ret
    exact ⟨by rw [HR.out]; rfl, Below.refl _ _⟩

set_option maxRecDepth 100000 in
set_option maxHeartbeats 1000000 in
theorem EqualFunc_any (A A' : Option Addr) (c c' B : Nat) (l l' : List (List Int)) (w : World) (hB : B ≤ w.heap.size) (h : TblAt B w A l) (h' : TblAt B w A' l') (hm : l.length ≤ 1000) (hm2 : ∀ r ∈ l, r.length ≤ 1000) :
    Calls Try.prog 78 #[.slice A l.length c, .slice A' l'.length c', .func (.func 79) #[] #[]] w fun e w' => e = .returned (.bool (decide (l = l'))) ∧ Below w.heap.size w w' := by
  have H := Lib.hid (show TblAt w.heap.size w A l from h.below (Below.refl _ _) hB)
  have H' := Lib.hid (show TblAt w.heap.size w A' l' from h'.below (Below.refl _ _) hB)
  clear h h'
  by_cases hl : l.length = l'.length
  · have Hat := Lib.hid (fun i h1 h2 hne => eq_at (l := l) (l' := l') (i := i) h1 h2 hne)
    have Hall := Lib.hid (fun h => eq_all (l := l) (l' := l') hl h)
    have HL := Lib.hid hl
    have HM2 := Lib.hid hm2
    rw [← hl]
    clear hl hm2
    go_enter Try.func78, Try.ntmps78
    go_wp2_with fail
    go_loopw [17] (fun vk wr => ∃ k : Nat, k ≤ l.length ∧ vk = .int .i64 k ∧ Aside (∀ i (h1 : i < l.length) (h2 : i < l'.length), i < k → l[i] = l'[i]) ∧ Below w.heap.size w wr) (fun vk _ => l.length - (intOf vk).toNat)
    case atStart => exact ⟨0, Nat.zero_le _, rfl, (fun i _ _ hi => absurd hi (Nat.not_lt_zero i)), Below.refl _ _⟩
    case round =>
      obtain ⟨k, hk, rfl, hn, hbr⟩ := hrel
      have HN := Lib.hid hn.out
      have HBr := Lib.hid hbr
      clear hn hbr
      by_cases hlt : k < l.length
      · have hlt' : k < l'.length := by rw [← HL.out]; exact hlt
        obtain ⟨b1, o1, A1, c1, rfl, hb1, y0, i0⟩ := (H.out.below HBr.out (Nat.le_refl _)).row hlt
        obtain ⟨b2, o2, A2, c2, rfl, hb2, y1, i1⟩ := (H'.out.below HBr.out (Nat.le_refl _)).row hlt'
        have cs := Lib.hid (Equal_any A1 A2 c1 c2 w.heap.size l[k] l'[k] wr HBr.out.size i0 i1 (HM2.out _ (List.getElem_mem hlt)))
        have hkI : (k : Int) < (l.length : Int) := by omega
        have hk0 : (0 : Int) ≤ (k : Int) := by omega
        by_cases he : l[k] = l'[k]
        · have HN2 := Lib.hid (show ∀ i (h1 : i < l.length) (h2 : i < l'.length), i < k + 1 → l[i] = l'[i] from fun i h1 h2 hi => by
            by_cases e : i = k
            · subst e; exact he
            · exact HN.out i h1 h2 (by omega))
          rw [decide_eq_true he] at cs
          generalize l[k].length = n1 at *
          generalize l'[k].length = n2 at *
          clear he hlt' i0 i1
          go_wp2_with (go_at_call 79; refine cs.out.mono ?_; rintro e w3 ⟨rfl, hb3⟩)
          go_roundw
          case rel => exact ⟨k + 1, by omega, by go_num, HN2.out, HBr.out.trans (hb3.mono HBr.out.size)⟩
          case measure => simp [intOf]; omega
        · have HR := Lib.hid (Hat.out k hlt hlt' he)
          rw [decide_eq_false he] at cs
          generalize l[k].length = n1 at *
          generalize l'[k].length = n2 at *
          clear he hlt' i0 i1
          go_wp2_with (go_at_call 79; refine cs.out.mono ?_; rintro e w3 ⟨rfl, hb3⟩)
          go_ret
          exact ⟨by rw [HR.out]; rfl, HBr.out.trans (hb3.mono HBr.out.size)⟩
      · obtain rfl : k = l.length := by omega
        have HR := Lib.hid (Hall.out fun i h1 h2 => HN.out i h1 h2 h1)
        go_wp2_with fail
        go_ret
        exact ⟨by rw [HR.out]; rfl, HBr.out⟩
  · have HR := Lib.hid (eq_lens (l := l) (l' := l') hl)
    have hne : ((l.length : Int) == (l'.length : Int)) = false := beqf (by omega)
    have hne2 : ((l.length : Int) != (l'.length : Int)) = true := by simp; omega
    generalize l'.length = m at *
    clear hl
    go_enter Try.func78, Try.ntmps78
    go_wp2_with fail
    go_ret
    exact ⟨by rw [HR.out]; rfl, Below.refl _ _⟩
end Go.Proofs.Ytmodbpglopfghaa
