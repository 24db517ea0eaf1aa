/- The length of a tour. -/
import Derived.Test.YtmodbpglopfghaaVanS
set_option linter.unusedSimpArgs false
set_option linter.unusedVariables false
namespace Go.Proofs.Ytmodbpglopfghaa
open Go.RowKit

/-- The length of the first k ways, and where they end. -/
def lnT (f : Nat → Nat → Int) (t : List Nat) (k : Nat) : Int := cost f (pathE 0 (t.take k))
def atT (t : List Nat) (k : Nat) : Nat := (t.take k).getLast?.getD 0
theorem pathE_snoc : ∀ (t : List Nat) (a s : Nat), pathE a (t ++ [s]) = pathE a t ++ [(t.getLast?.getD a, s)]
  | [], a, s => rfl
  | x :: r, a, s => by
    rw [List.cons_append, pathE, pathE, pathE_snoc r x s, List.cons_append]
    congr 3
    cases r with
    | nil => rfl
    | cons y r => simp [List.getLast?_cons_cons, List.getLast?_eq_some_getLast]
theorem cost_append (f : Nat → Nat → Int) (a b : List Ed) : cost f (a ++ b) = cost f a + cost f b := by simp [cost]
section
variable {f : Nat → Nat → Int} {t : List Nat} {k : Nat}
theorem lnT_zero (f : Nat → Nat → Int) (t : List Nat) : lnT f t 0 = 0 := by simp [lnT, pathE, cost]
theorem atT_zero (t : List Nat) : atT t 0 = 0 := by simp [atT]
theorem lnT_succ (h : k < t.length) : lnT f t (k + 1) = lnT f t k + f (atT t k) t[k] := by
  unfold lnT atT
  rw [List.take_succ_eq_append_getElem h, pathE_snoc, cost_append]; simp [cost]
theorem atT_succ (h : k < t.length) : atT t (k + 1) = t[k] := by
  unfold atT
  rw [List.take_succ_eq_append_getElem h, List.getLast?_concat]; rfl
theorem lnT_all (f : Nat → Nat → Int) (t : List Nat) : lenF f 0 t = lnT f t t.length + f (atT t t.length) 0 := by
  unfold lnT atT
  rw [List.take_length, pathE_cost]
theorem atT_lt {n : Nat} (h : ∀ x ∈ t, x < n) (hn : 1 ≤ n) : ∀ k, atT t k < n := fun k => by
  unfold atT
  rcases last_mem (t := t.take k) (a := 0) with h1 | h1
  · rw [h1]; exact hn
  · exact h _ (List.mem_of_mem_take h1)
theorem lnT_bd {n : Nat} (hf : ∀ i j, i < n → j < n → 0 ≤ f i j ∧ f i j ≤ 1000) (h : ∀ x ∈ t, x < n) (hn : 1 ≤ n) : ∀ k, k ≤ t.length → 0 ≤ lnT f t k ∧ lnT f t k ≤ 1000 * (k : Int)
  | 0, _ => by rw [lnT_zero]; simp
  | k + 1, hk => by
    have ih := lnT_bd hf h hn k (by omega)
    have := hf _ _ (atT_lt h hn k) (h t[k] (List.getElem_mem (by omega)))
    rw [lnT_succ (by omega)]
    omega
end


set_option maxRecDepth 100000 in
set_option maxHeartbeats 1000000 in
theorem length_any (b off n c c' B : Nat) (f : Nat → Nat → Int) (A' : Option Addr) (t : List Nat) (w : World) (h : WaAt B w b off n f) (hf : ∀ i j, i < n → j < n → 0 ≤ f i j ∧ f i j ≤ 1000) (h' : IntsAt B w A' (intL t)) (ht : ∀ x ∈ t, x < n) (hn : 1 ≤ n) (hm : t.length ≤ 1000) :
    Calls Try.prog 66 #[.slice (some ⟨b, off, none⟩) n c, .slice A' t.length c'] w fun e w' => e = .returned (.int .i64 (lenF f 0 t)) ∧ w = w' := by
  have H := Lib.hid h
  have H' := Lib.hid h'
  have Hat := Lib.hid (atT_lt ht hn)
  have Hbd := Lib.hid (lnT_bd hf ht hn)
  have Hf := Lib.hid hf
  have Ht := Lib.hid ht
  clear h h' ht hf
  go_enter Try.func66, Try.ntmps66
  go_wp2_with fail
  go_loop [5, 6, 11] (fun vs va vk => ∃ k : Nat, k ≤ t.length ∧ vk = .int .i64 k ∧ vs = .int .i64 (lnT f t k) ∧ va = .int .i64 (atT t k : Nat)) (fun _ _ vk => t.length - (intOf vk).toNat)
  case atStart => exact ⟨0, Nat.zero_le _, rfl, by rw [lnT_zero], by rw [atT_zero]; rfl⟩
  case round =>
    obtain ⟨k, hk, rfl, rfl, rfl⟩ := hrel
    have hat := Hat.out k
    have hbd := Hbd.out k hk
    obtain ⟨b2, o2, c2, hb2, e1, f1⟩ := H.out.2 _ hat
    have hai : ((atT t k : Nat) : Int) < (n : Int) := by omega
    by_cases hlt : k < t.length
    · obtain ⟨b1, o1, rfl, hb1, y0⟩ := H'.out.at (k := k) (by rw [intL_length]; exact hlt)
      rw [intL_get hlt] at y0
      have hs := Ht.out _ (List.getElem_mem hlt)
      have e2 := f1 _ hs
      have hfb := Hf.out _ _ hat hs
      have HL := Lib.hid (lnT_succ (f := f) hlt)
      have HA := Lib.hid (atT_succ hlt)
      generalize atT t k = a at e1 hai hat HL e2 hfb f1 ⊢
      generalize lnT f t k = s at hbd HL ⊢
      generalize t[k] = x at y0 hs e2 HL HA hfb
      generalize f a x = d at e2 HL hfb
      have hxi : ((x : Nat) : Int) < (n : Int) := by omega
      have hw1 : IntKind.i64.wrap (s + d) = s + d := IntWalk.i64_in _ (by omega)
      clear f1 hfb
      go_wp2_with fail
      go_round
      case rel => exact ⟨k + 1, by omega, by go_num, by rw [HL.out], by rw [HA.out]⟩
      case measure => simp [intOf]; omega
    · obtain rfl : k = t.length := by omega
      have e2 := f1 0 hn
      have HL := Lib.hid (lnT_all f t)
      have hfb := Hf.out _ _ hat hn
      generalize atT t t.length = a at e1 hai hat HL e2 hfb f1 ⊢
      generalize lnT f t t.length = s at hbd HL ⊢
      generalize f a 0 = d at e2 HL hfb
      rw [Nat.add_zero] at e2
      have hw1 : IntKind.i64.wrap (s + d) = s + d := IntWalk.i64_in _ (by omega)
      have hn0 : 0 < n := by omega
      clear f1 hfb
      go_wp2_with fail
      go_ret
      exact ⟨by rw [HL.out]; rfl, rfl⟩

set_option maxRecDepth 100000 in
set_option maxHeartbeats 1000000 in
theorem length_ref (b off n c c' B : Nat) (f : Nat → Nat → Int) (A' : Option Addr) (t : List Nat) (w : World) (hB : B ≤ w.heap.size) (h : WaAt B w b off n f) (hf : ∀ i j, i < n → j < n → 0 ≤ f i j ∧ f i j ≤ 1000) (h' : IntsAt B w A' (intL t)) (ht : ∀ x ∈ t, x < n) (hn : 1 ≤ n) (hm : t.length ≤ 1000) :
    Calls Try.prog 63 #[.slice (some ⟨b, off, none⟩) n c, .slice A' t.length c'] w fun e w' => e = .returned (.int .i64 (lenF f 0 t)) ∧ Below w.heap.size w w' := by
  have H := Lib.hid (h.below (Below.refl _ _) hB)
  have H' := Lib.hid (show IntsAt w.heap.size w A' (intL t) from h'.below (Below.refl _ _) hB)
  have Hat := Lib.hid (atT_lt ht hn)
  have Hbd := Lib.hid (lnT_bd hf ht hn)
  have Hf := Lib.hid hf
  have Ht := Lib.hid ht
  clear h h' ht hf
  go_enter Try.func63, Try.ntmps63
  go_wp2_with fail
  go_loopw [5, 6, 7] (fun vs va vk wr => ∃ k : Nat, k ≤ t.length ∧ vk = .int .i64 k ∧ vs = .int .i64 (lnT f t k) ∧ va = .int .i64 (atT t k : Nat) ∧ Below w.heap.size w wr) (fun _ _ vk _ => t.length - (intOf vk).toNat)
  case atStart => exact ⟨0, Nat.zero_le _, rfl, by rw [lnT_zero], by rw [atT_zero]; rfl, Below.refl _ _⟩
  case round =>
    obtain ⟨k, hk, rfl, rfl, rfl, hbr⟩ := hrel
    have hat := Hat.out k
    have hbd := Hbd.out k hk
    have HBr := Lib.hid hbr
    obtain ⟨b2, o2, c2, hb2, e1, f1⟩ := (H.out.below hbr (Nat.le_refl _)).2 _ hat
    have hai : ((atT t k : Nat) : Int) < (n : Int) := by omega
    clear hbr
    by_cases hlt : k < t.length
    · obtain ⟨b1, o1, rfl, hb1, y0⟩ := (H'.out.below HBr.out (Nat.le_refl _)).at (k := k) (by rw [intL_length]; exact hlt)
      rw [intL_get hlt] at y0
      have hs := Ht.out _ (List.getElem_mem hlt)
      have e2 := f1 _ hs
      have hfb := Hf.out _ _ hat hs
      have HL := Lib.hid (lnT_succ (f := f) hlt)
      have HA := Lib.hid (atT_succ hlt)
      generalize atT t k = a at e1 hai hat HL e2 hfb f1 ⊢
      generalize lnT f t k = s at hbd HL ⊢
      generalize t[k] = x at y0 hs e2 HL HA hfb
      generalize f a x = d at e2 HL hfb
      have hxi : ((x : Nat) : Int) < (n : Int) := by omega
      have hki : ((k : Nat) : Int) < (t.length : Int) := by omega
      have hk0 : (0 : Int) ≤ (k : Int) := by omega
      have ha0 : (0 : Int) ≤ (a : Int) := by omega
      have hx0 : (0 : Int) ≤ (x : Int) := by omega
      have hw1 : IntKind.i64.wrap (s + d) = s + d := IntWalk.i64_in _ (by omega)
      clear f1 hfb
      go_wp2_with fail
      go_quiet (fail)
      go_wp2_with fail
      go_roundw
      case rel => exact ⟨k + 1, by omega, by go_num, by rw [HL.out], by rw [HA.out], below_drewN HBr.out _⟩
      case measure => simp [intOf]; omega
    · obtain rfl : k = t.length := by omega
      have e2 := f1 0 hn
      have HL := Lib.hid (lnT_all f t)
      have hfb := Hf.out _ _ hat hn
      generalize atT t t.length = a at e1 hai hat HL e2 hfb f1 ⊢
      generalize lnT f t t.length = s at hbd HL ⊢
      generalize f a 0 = d at e2 HL hfb
      rw [Nat.add_zero] at e2
      have hw1 : IntKind.i64.wrap (s + d) = s + d := IntWalk.i64_in _ (by omega)
      have hn0 : 0 < n := by omega
      clear f1 hfb
      go_wp2_with fail
      go_ret
      exact ⟨by rw [HL.out]; rfl, HBr.out⟩
end Go.Proofs.Ytmodbpglopfghaa
