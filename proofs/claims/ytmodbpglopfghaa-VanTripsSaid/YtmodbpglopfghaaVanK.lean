/- Whether ways and potentials are fit. -/
import Derived.Test.YtmodbpglopfghaaVanJ
import Derived.StillTailTactics
set_option linter.unusedSimpArgs false
set_option linter.unusedVariables false
namespace Go.Proofs.Ytmodbpglopfghaa
open Go.RowKit

def badP (x : Int) : Bool := decide (x < -1000) || decide (1000 < x)
theorem weighed1_any (x : Int) (w : World) : Calls Try.prog 87 #[.int .i64 x] w fun e w' => e = .returned (.bool (badP x)) ∧ w = w' := by
  by_cases h1 : x < -1000
  · have hd : decide (x < -1000) = true := by simpa using h1
    have Hr := Lib.hid (show badP x = true by simp [badP, h1])
    go_enter Try.func87, Try.ntmps87
    go_wp2_with fail
    go_ret
    exact ⟨by rw [Hr.out]; rfl, rfl⟩
  · have hd : decide (x < -1000) = false := by simpa using h1
    have Hr := Lib.hid (show badP x = decide (1000 < x) by simp [badP, h1])
    go_enter Try.func87, Try.ntmps87
    go_wp2_with fail
    go_ret
    exact ⟨by rw [Hr.out]; rfl, rfl⟩
/-- The place of the first potential that is not fit, or -1. -/
def ixP (p : List Int) (r : Int) : Prop := (r = -1 ∧ p.any badP = false) ∨ (0 ≤ r ∧ p.any badP = true)

set_option maxRecDepth 100000 in
theorem indexFunc_any (A : Option Addr) (c B : Nat) (p : List Int) (w : World) (h : IntsAt B w A p) (hm : p.length ≤ 1000000) :
    Calls Try.prog 100 #[.slice A p.length c, .func (.func 87) #[] #[]] w fun e w' => ∃ r, e = .returned (.int .i64 r) ∧ ixP p r ∧ w = w' := by
  have H := Lib.hid h
  clear h
  go_enter Try.func100, Try.ntmps100
  go_wp2_with fail
  go_loop [8] (fun i => ∃ k : Nat, k ≤ p.length ∧ i = .int .i64 k ∧ Aside (∀ j (hj : j < p.length), j < k → badP p[j] = false)) (fun i => p.length - (intOf i).toNat)
  case atStart => exact ⟨0, Nat.zero_le _, rfl, fun j _ hk => absurd hk (Nat.not_lt_zero j)⟩
  case round =>
    obtain ⟨k, hk, rfl, hn⟩ := hrel
    have HN := Lib.hid hn.out
    clear hn
    by_cases hlt : k < p.length
    · obtain ⟨b, off, rfl, hb, q0⟩ := H.out.at hlt
      have cw := Lib.hid (weighed1_any p[k] w)
      cases hbad : badP p[k] with
      | true =>
        rw [hbad] at cw
        have HR := Lib.hid (show ixP p (k : Int) from .inr ⟨by omega, List.any_eq_true.2 ⟨_, List.getElem_mem hlt, hbad⟩⟩)
        generalize p[k] = x at q0 cw
        clear hbad
        go_wp2_with (go_at_call 87; refine cw.out.mono ?_; rintro e w1 ⟨rfl, rfl⟩)
        go_ret
        exact ⟨_, rfl, HR.out, rfl⟩
      | false =>
        rw [hbad] at cw
        have HN2 := Lib.hid (show ∀ j (hj : j < p.length), j < k + 1 → badP p[j] = false from fun j hj hjk => by
          by_cases e : j = k
          · subst e; exact hbad
          · exact HN.out j hj (by omega))
        generalize p[k] = x at q0 cw
        clear hbad
        go_wp2_with (go_at_call 87; refine cw.out.mono ?_; rintro e w1 ⟨rfl, rfl⟩)
        go_round
        case rel => exact ⟨k + 1, by omega, by go_num, HN2.out⟩
        case measure => simp [intOf]; omega
    · obtain rfl : k = p.length := by omega
      have HR := Lib.hid (show ixP p (-1) from .inl ⟨rfl, by
        rw [List.any_eq_false]
        intro x hx
        obtain ⟨j, hj, rfl⟩ := List.mem_iff_getElem.1 hx
        rw [HN.out j hj hj]; simp⟩)
      go_wp2_with fail
      go_ret
      exact ⟨_, rfl, HR.out, rfl⟩
theorem containsFunc_any (A : Option Addr) (c B : Nat) (p : List Int) (w : World) (h : IntsAt B w A p) (hm : p.length ≤ 1000000) :
    Calls Try.prog 86 #[.slice A p.length c, .func (.func 87) #[] #[]] w fun e w' => e = .returned (.bool (p.any badP)) ∧ w = w' := by
  have ci := Lib.hid (indexFunc_any A c B p w h hm)
  clear h
  go_enter Try.func86, Try.ntmps86
  go_wp2_with (go_at_call 100; refine ci.out.mono ?_; rintro e w1 ⟨r, rfl, hr, rfl⟩; have hd : decide (0 ≤ r) = p.any badP := (by rcases hr with ⟨h1, h2⟩ | ⟨h1, h2⟩ <;> rw [h2] <;> simp <;> omega); have HD := Lib.hid hd; clear hd hr)
  go_ret
  exact ⟨by rw [← HD.out]; rfl, rfl⟩
/-- Whether ways and potentials are fit. -/
structure WG (rows : List (List Int)) (p : List Int) : Prop where
  vw : VW rows
  n3 : 3 ≤ rows.length
  len : p.length = rows.length
  ok : ∀ x ∈ p, -1000 ≤ x ∧ x ≤ 1000
noncomputable def wgR (rows : List (List Int)) (p : List Int) : Int := @ite _ (VW rows) (Classical.propDecidable _) (@ite _ (WG rows p) (Classical.propDecidable _) 0 1) (vwR rows)
theorem wg_ok {rows : List (List Int)} {p : List Int} (h : WG rows p) : wgR rows p = 0 := by rw [wgR, if_pos h.vw, if_pos h]
theorem wg_bad {rows : List (List Int)} {p : List Int} (hv : VW rows) (h : ¬ WG rows p) : wgR rows p = 1 := by rw [wgR, if_pos hv, if_neg h]
theorem wg_vw {rows : List (List Int)} {p : List Int} (hv : ¬ VW rows) : wgR rows p = vwR rows := by rw [wgR, if_neg hv]
theorem wg_zero {rows : List (List Int)} {p : List Int} (h : wgR rows p = 0) : WG rows p := by
  unfold wgR at h
  split at h
  · split at h
    · assumption
    · contradiction
  · rename_i hv; exact absurd h (vw_ne hv)
theorem bad_iff (p : List Int) : p.any badP = false ↔ ∀ x ∈ p, -1000 ≤ x ∧ x ≤ 1000 := by
  rw [List.any_eq_false]
  constructor
  · intro h x hx
    have := h x hx
    simp [badP] at this
    omega
  · intro h x hx
    have := h x hx
    simp [badP]
    omega

set_option maxRecDepth 100000 in
set_option maxHeartbeats 1000000 in
theorem weighed_any (A A' : Option Addr) (c c' B : Nat) (rows : List (List Int)) (p : List Int) (w : World) (hB : B ≤ w.heap.size) (h : TblAt B w A rows) (h' : IntsAt B w A' p) (hl : ∀ r ∈ rows, r.length ≤ 30) (hm : p.length ≤ 1000) :
    Calls Try.prog 58 #[.slice A rows.length c, .slice A' p.length c'] w fun e w' => e = .returned (.int .i64 (wgR rows p)) ∧ w = w' := by
  have cv := Lib.hid (Validate_any A c B rows w h hl)
  by_cases hv : VW rows
  · rw [vw_ok hv] at cv
    have cc := Lib.hid (containsFunc_any A' c' B p w h' (by omega))
    by_cases h3 : rows.length < 3
    · have HR := Lib.hid (wg_bad (p := p) hv fun hw => by have := hw.n3; omega)
      have hd : decide ((rows.length : Int) < 3) = true := by simp; omega
      clear h h' hl hv
      go_enter Try.func58, Try.ntmps58
      go_wp2_with (go_at_call 30; refine cv.out.mono ?_; rintro e w1 ⟨rfl, hw1⟩; obtain rfl := hw1.symm; clear hw1)
      go_ret
      exact ⟨by rw [HR.out]; rfl, rfl⟩
    · have hd : decide ((rows.length : Int) < 3) = false := by simp; omega
      by_cases hlen : p.length = rows.length
      · rw [hlen] at cc ⊢
        by_cases hok : p.any badP = false
        · have HR := Lib.hid (wg_ok (rows := rows) (p := p) ⟨hv, by omega, hlen, (bad_iff p).1 hok⟩)
          rw [hok] at cc
          clear h h' hl hv hok hlen
          go_enter Try.func58, Try.ntmps58
          go_wp2_with (first | (go_at_call 30; refine cv.out.mono ?_; rintro e w1 ⟨rfl, hw1⟩; obtain rfl := hw1.symm; clear hw1) | (go_at_call 86; refine cc.out.mono ?_; rintro e w1 ⟨rfl, rfl⟩))
          go_ret
          exact ⟨by rw [HR.out]; rfl, rfl⟩
        · have HR := Lib.hid (wg_bad (p := p) hv fun hw => hok ((bad_iff p).2 hw.ok))
          rw [show p.any badP = true by simpa using hok] at cc
          clear h h' hl hv hok hlen
          go_enter Try.func58, Try.ntmps58
          go_wp2_with (first | (go_at_call 30; refine cv.out.mono ?_; rintro e w1 ⟨rfl, hw1⟩; obtain rfl := hw1.symm; clear hw1) | (go_at_call 86; refine cc.out.mono ?_; rintro e w1 ⟨rfl, rfl⟩))
          go_ret
          exact ⟨by rw [HR.out]; rfl, rfl⟩
      · have hne : ((p.length : Int) != (rows.length : Int)) = true := by simp; omega
        have HR := Lib.hid (wg_bad (p := p) hv fun hw => hlen hw.len)
        clear h h' hl hv hlen
        go_enter Try.func58, Try.ntmps58
        go_wp2_with (first | (go_at_call 30; refine cv.out.mono ?_; rintro e w1 ⟨rfl, hw1⟩; obtain rfl := hw1.symm; clear hw1))
        go_ret
        exact ⟨by rw [HR.out]; rfl, rfl⟩
  · have HR := Lib.hid (wg_vw (p := p) hv)
    have hne : (vwR rows != 0) = true := by simpa using vw_ne hv
    have hne2 : (vwR rows == 0) = false := by simpa using vw_ne hv
    generalize vwR rows = e0 at cv hne hne2 HR
    clear h h' hl hv
    go_enter Try.func58, Try.ntmps58
    go_wp2_with (go_at_call 30; refine cv.out.mono ?_; rintro e w1 ⟨rfl, hw1⟩; obtain rfl := hw1.symm; clear hw1)
    go_ret
    exact ⟨by rw [HR.out]; rfl, rfl⟩
end Go.Proofs.Ytmodbpglopfghaa
