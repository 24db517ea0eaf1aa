/- The reference's IsSet, ruleOK. -/
import Derived.Test.YtgoojcjfhghmgaaDoorDisY
namespace Go.Proofs.YtgoojcjfhghmgaaDoor
open Go.RowKit

theorem isS_iff (l : List Int) (m : Int) : isS l (m + 1) = true ↔ ∀ j (hj : j < l.length), (0 ≤ l[j] ∧ l[j] ≤ m) ∧ ∀ i (hi : j = i + 1), l[i] < l[j] := by
  unfold isS
  rw [Bool.and_eq_true, decide_eq_true_eq, List.all_eq_true]
  constructor
  · rintro ⟨h1, h2⟩ j hj
    have h3 := h2 l[j] (List.getElem_mem hj)
    rw [decide_eq_true_eq] at h3
    exact ⟨⟨h3.1, by omega⟩, fun i hi => List.pairwise_iff_getElem.1 h1 i j (by omega) hj (by omega)⟩
  · intro h
    refine ⟨List.pairwise_iff_getElem.2 ?_, fun x hx => ?_⟩
    · intro i j hi hj hij
      induction j with
      | zero => omega
      | succ j ih =>
        have h1 := (h (j + 1) hj).2 j rfl
        by_cases e : i = j
        · subst e; exact h1
        · have := ih (by omega) (by omega); omega
    · obtain ⟨j, hj, rfl⟩ := List.getElem_of_mem hx
      rw [decide_eq_true_eq]
      have := (h j hj).1
      omega

set_option maxRecDepth 100000 in
theorem within_ref (n lo hi : Int) (w : World) : Calls Tryd.prog 106 #[.int .i64 n, .int .i64 lo, .int .i64 hi] w fun e w' => e = .returned (.bool (decide (lo ≤ n) && decide (n ≤ hi))) ∧ w' = w := by
  cases h : decide (lo ≤ n)
  all_goals
    go_enter Tryd.func106, Tryd.ntmps106
    go_wp2_with fail
    go_ret
    exact ⟨rfl, rfl⟩

set_option maxRecDepth 100000 in
set_option maxHeartbeats 2000000 in
theorem IsSet_ref (A : Option Addr) (c B : Nat) (l : List Int) (m : Int) (w : World) (h : IntsAt B w A l) (hm : l.length ≤ 1000) :
    Calls Tryd.prog 61 #[.slice A l.length c, .int .i64 m] w fun e w' => e = .returned (.bool (isS l (m + 1))) ∧ Drew w w' := by
  have HI := Lib.hid (isS_iff l m)
  generalize isS l (m + 1) = r at HI ⊢
  go_enter Tryd.func61, Tryd.ntmps61
  go_wp2_with fail
  go_loopw [5] (fun i wr => ∃ k : Nat, k ≤ l.length ∧ i = .int .i64 k ∧ (∀ j (hj : j < l.length), j < k → (0 ≤ l[j] ∧ l[j] ≤ m) ∧ ∀ i (hi : j = i + 1), l[i] < l[j]) ∧ Drew w wr) (fun i _ => l.length - (intOf i).toNat)
  case atStart => exact ⟨0, Nat.zero_le _, rfl, fun j _ hk => absurd hk (Nat.not_lt_zero j), 0, rfl⟩
  case round =>
    obtain ⟨k, hk, rfl, hn, hb⟩ := hrel
    have Hb := Lib.hid hb
    have Hn := Lib.hid hn
    clear hb hn
    by_cases hlt : k < l.length
    · obtain ⟨b, off, rfl, hbB, hc⟩ := h.at hlt
      have d0 := (Hb.out.cell _).trans hc
      have k0 : (0 : Int) ≤ (k : Int) := by omega
      have k1 : (k : Int) < (l.length : Int) := by omega
      have Hbad := Lib.hid (fun hx : ¬ ((0 ≤ l[k] ∧ l[k] ≤ m) ∧ ∀ i (hi : k = i + 1), l[i] < l[k]) => show r = false from by
        cases hr : r with
        | false => rfl
        | true => exact absurd (HI.out.1 hr k hlt) hx)
      have Hgood := Lib.hid (fun hx : (0 ≤ l[k] ∧ l[k] ≤ m) ∧ ∀ i (hi : k = i + 1), l[i] < l[k] => show ∀ j (hj : j < l.length), j < k + 1 → (0 ≤ l[j] ∧ l[j] ≤ m) ∧ ∀ i (hi : j = i + 1), l[i] < l[j] from fun j hj hjk => by
        by_cases e : j = k
        · subst e; exact hx
        · exact Hn.out j hj (by omega))
      clear hc HI
      have cw := Lib.hid (fun W => within_ref l[k] 0 m W)
      by_cases hw : 0 ≤ l[k] ∧ l[k] ≤ m
      · have hwd : (decide (0 ≤ l[k]) && decide (l[k] ≤ m)) = true := by simp [hw]
        rw [hwd] at cw
        by_cases hk0 : k = 0
        · have Hg := Lib.hid (Hgood.out ⟨hw, fun i hi => by omega⟩)
          have hd : decide (0 < k) = false := by simp; omega
          clear hw hwd Hbad Hgood Hn hk0
          go_wp2_with fail
          go_quiet ((go_at_call 106; exact Calls.quiet_of_same (cw.out _)))
          go_wp2_with fail
          go_roundw
          case rel => exact ⟨k + 1, by omega, by go_num, Hg.out, Hb.out.drewN _⟩
          case measure => simp [intOf]; omega
        · obtain ⟨j, hj⟩ : ∃ j, k = j + 1 := ⟨k - 1, by omega⟩
          have hjl : j < l.length := by omega
          obtain ⟨b', off', e', hbB', hc'⟩ := h.at hjl
          cases e'
          have d1 := (Hb.out.cell _).trans hc'
          have hd : decide (0 < k) = true := by simp; omega
          have j0 : (0 : Int) ≤ (j : Int) := by omega
          have j1 : (j : Int) < (l.length : Int) := by omega
          have jw : IntKind.i64.wrap ((k : Int) - 1) = (j : Int) := by rw [IntKind.wrap_i64]; omega
          by_cases hlj : l[j] < l[k]
          · have Hg := Lib.hid (Hgood.out ⟨hw, fun i hi => by have e : i = j := (by omega); subst e; exact hlj⟩)
            have hd2 : decide (l[k] ≤ l[j]) = false := by simpa using hlj
            clear hw hwd Hbad Hgood Hn hk0 hj hc' hlj
            go_wp2_with fail
            go_quiet ((go_at_call 106; exact Calls.quiet_of_same (cw.out _)))
            go_wp2_with fail
            go_roundw
            case rel => exact ⟨k + 1, by omega, by go_num, Hg.out, Hb.out.drewN _⟩
            case measure => simp [intOf]; omega
          · have Hr := Lib.hid (Hbad.out (fun hx => hlj (hx.2 j hj)))
            have hd2 : decide (l[k] ≤ l[j]) = true := by simp; omega
            clear hw hwd Hbad Hgood Hn hk0 hj hc' hlj
            go_wp2_with fail
            go_quiet ((go_at_call 106; exact Calls.quiet_of_same (cw.out _)))
            go_wp2_with fail
            go_ret
            exact ⟨by rw [Hr.out]; rfl, Hb.out.drewN _⟩
      · have hwd : (decide (0 ≤ l[k]) && decide (l[k] ≤ m)) = false := by simp; omega
        rw [hwd] at cw
        have Hr := Lib.hid (Hbad.out (fun hx => hw hx.1))
        clear hw hwd Hbad Hgood Hn
        go_wp2_with fail
        go_quiet ((go_at_call 106; exact Calls.quiet_of_same (cw.out _)))
        go_wp2_with fail
        go_ret
        exact ⟨by rw [Hr.out]; rfl, Hb.out.drewN _⟩
    · obtain rfl : k = l.length := by omega
      have Hr := Lib.hid (HI.out.2 (fun j hj => Hn.out j hj hj))
      clear HI Hn
      go_wp2_with fail
      go_ret
      exact ⟨by rw [Hr.out]; rfl, Hb.out⟩
end Go.Proofs.YtgoojcjfhghmgaaDoor
