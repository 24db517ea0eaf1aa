/- in, sameSpans. -/
import Derived.Test.YtefojeaoechgoaaTimE
import Derived.Test.YtefojeaoechgoaaPlain2
namespace Go.Proofs.Ytefojeaoechgoaa
open Go.RowKit

theorem inM_first {l : List Sp} {d : Int} {k : Nat} (hk : k < l.length) (h : ∀ j (hj : j < l.length), j < k → inS l[j] d = false) (hi : inS l[k] d = true) : inM l d = l[k].m := by
  have e : l.find? (fun x => inS x d) = some l[k] := by
    rw [List.find?_eq_some_iff_getElem]
    exact ⟨hi, k, hk, rfl, fun j hj => by simpa using h j (by omega) hj⟩
  unfold inM
  rw [e]
theorem inM_none {l : List Sp} {d : Int} (h : ∀ j (hj : j < l.length), inS l[j] d = false) : inM l d = 0 := by
  have e : l.find? (fun x => inS x d) = none := by
    rw [List.find?_eq_none]
    intro x hx
    obtain ⟨i, hi, rfl⟩ := List.getElem_of_mem hx
    simpa using h i hi
  unfold inM
  rw [e]

set_option maxRecDepth 100000 in
set_option maxHeartbeats 1000000 in
theorem in_any (A : Option Addr) (c B : Nat) (l : List Sp) (d : Int) (w : World) (h : SpansAt B w A l) (hm : l.length ≤ 100000) :
    Calls Try.prog 9 #[.slice A l.length c, .int .i64 d] w fun e w' => e = .returned (.int .i64 (inM l d)) ∧ w = w' := by
  go_enter Try.func9, Try.ntmps9
  go_wp2_with fail
  go_loop [5] (fun i => ∃ k : Nat, k ≤ l.length ∧ i = .int .i64 k ∧ ∀ j (hj : j < l.length), j < k → inS l[j] d = false) (fun i => l.length - (intOf i).toNat)
  case atStart => exact ⟨0, Nat.zero_le _, rfl, fun j hj hk => by omega⟩
  case round =>
    obtain ⟨k, hk, rfl, hn⟩ := hrel
    by_cases hlt : k < l.length
    · obtain ⟨b, off, rfl, hbB, c0, c1, c2⟩ := h.at hlt
      have Hn := Lib.hid hn
      clear hn
      by_cases h1 : l[k].f ≤ d
      · by_cases h2 : d < l[k].t
        · have Hm := Lib.hid (inM_first hlt Hn.out (by simp only [inS, decide_eq_true_eq]; exact ⟨h1, h2⟩))
          go_wp2_with fail
          go_ret
          exact ⟨by rw [Hm.out]; rfl, rfl⟩
        · have H2 := Lib.hid h2
          go_wp2_with fail
          go_round
          case rel =>
            refine ⟨k + 1, by omega, by go_num, fun j hj hjk => ?_⟩
            by_cases e : j = k
            · subst e; have := H2.out; simp only [inS, decide_eq_false_iff_not]; omega
            · exact Hn.out j hj (by omega)
          case measure => simp [intOf]; omega
      · have H2 := Lib.hid h1
        go_wp2_with fail
        go_round
        case rel =>
          refine ⟨k + 1, by omega, by go_num, fun j hj hjk => ?_⟩
          by_cases e : j = k
          · subst e; have := H2.out; simp only [inS, decide_eq_false_iff_not]; omega
          · exact Hn.out j hj (by omega)
        case measure => simp [intOf]; omega
    · obtain rfl : k = l.length := by omega
      have Hm := Lib.hid (inM_none (l := l) (d := d) fun j hj => hn j hj hj)
      clear hn
      go_wp2_with fail
      go_ret
      exact ⟨by rw [Hm.out]; rfl, rfl⟩

set_option maxRecDepth 100000 in
set_option maxHeartbeats 1000000 in
theorem same_eq (A A' : Option Addr) (c c' B : Nat) (l : List Sp) (w : World) (h : SpansAt B w A l) (h' : SpansAt B w A' l) (hm : l.length ≤ 100000) :
    Calls Try.prog 11 #[.slice A l.length c, .slice A' l.length c'] w fun e w' => e = .returned (.bool true) ∧ Below w.heap.size w w' := by
  go_enter Try.func11, Try.ntmps11
  go_wp2_with fail
  go_loopw [5] (fun i wr => ∃ k : Nat, k ≤ l.length ∧ i = .int .i64 k ∧ Drew w wr) (fun i _ => l.length - (intOf i).toNat)
  case atStart => exact ⟨0, Nat.zero_le _, rfl, 0, rfl⟩
  case round =>
    obtain ⟨k, hk, rfl, hb⟩ := hrel
    by_cases hlt : k < l.length
    · obtain ⟨b, off, rfl, hbB, r0, r1, r2⟩ := h.at hlt
      obtain ⟨b', off', rfl, hbB', t0, t1, t2⟩ := h'.at hlt
      have d0 := (hb.cell _).trans r0
      have d1 := (hb.cell _).trans r1
      have d2 := (hb.cell _).trans r2
      have e0 := (hb.cell _).trans t0
      have e1 := (hb.cell _).trans t1
      have e2 := (hb.cell _).trans t2
      have Hb := Lib.hid hb
      generalize l[k].f = x0 at d0 e0
      generalize l[k].t = x1 at d1 e1
      generalize l[k].m = x2 at d2 e2
      clear hb r0 r1 r2 t0 t1 t2
      go_wp2_with fail
      go_quiet (fail)
      go_wp2_with fail
      go_roundw
      case rel => exact ⟨k + 1, by omega, by go_num, Hb.out.drewN _⟩
      case measure => simp [intOf]; omega
    · obtain rfl : k = l.length := by omega
      go_wp2_with fail
      go_ret
      exact ⟨rfl, hb.below _⟩
end Go.Proofs.Ytefojeaoechgoaa
