/- VanEarliest returns true for every input, and its arguments read as they did: no condition. -/
import Derived.Test.YtmodbpglopfghaaVanAb
import Derived.Test.YtmodbpglopfghaaVanI
import Derived.OwnWalk
import Derived.Test.YtmodbpglopfghaaVanR
import Derived.Test.YtmodbpglopfghaaVanT
import Derived.Test.YtmodbpglopfghaaOpen
import Derived.Test.YtmodbpglopfghaaOpen3
import Derived.Test.YtmodbpglopfghaaVanBb
import Derived.Test.YtmodbpglopfghaaVanBc
import Derived.Test.YtmodbpglopfghaaVanZ
import Derived.Test.YtmodbpglopfghaaRows
import Derived.Test.YtmodbpglopfghaaOpen4
import Derived.Carry
import Derived.ShutString

set_option linter.unusedSimpArgs false
set_option linter.unusedVariables false
namespace Go.Proofs.Ytmodbpglopfghaa
open Go.RowKit

/-- Stops in memory: Open, Close, Stay, Boxes. -/
def StAt (B : Nat) (w : World) (A : Option Addr) (n : Nat) (g : Nat → Nat → Int) : Prop := ElsAt B w A 4 n fun k j => .int .i64 (g k j)
theorem StAt.below {B B' n : Nat} {w w' : World} {A : Option Addr} {g : Nat → Nat → Int} (h : StAt B w A n g) (hb : Below B w w') (hB : B ≤ B') : StAt B' w' A n g := ElsAt.below h hb hB
theorem StAt.at {B n : Nat} {w : World} {A : Option Addr} {g : Nat → Nat → Int} (h : StAt B w A n g) {k : Nat} (hk : k < n) :
    ∃ b off, A = some ⟨b, off, none⟩ ∧ b < B ∧ w.cell? ⟨b, off + k * 4, none⟩ = some (.int .i64 (g k 0)) ∧ w.cell? ⟨b, off + k * 4 + 1, none⟩ = some (.int .i64 (g k 1)) ∧ w.cell? ⟨b, off + k * 4 + 2, none⟩ = some (.int .i64 (g k 2)) ∧ w.cell? ⟨b, off + k * 4 + 3, none⟩ = some (.int .i64 (g k 3)) := by
  obtain ⟨b, off, e, hb, hc⟩ := h k hk
  exact ⟨b, off, e, hb, hc 0 (by omega), hc 1 (by omega), hc 2 (by omega), hc 3 (by omega)⟩
/-- A stop's numbers are within limits. -/
def okS (g : Nat → Nat → Int) (k : Nat) : Prop := (∀ j, j < 3 → 0 ≤ g k j ∧ g k j ≤ 10000) ∧ 0 ≤ g k 3 ∧ g k 3 ≤ 100
def VS (n : Nat) (g : Nat → Nat → Int) : Prop := ∀ k, k < n → okS g k
/-- The error of ways and stops. -/
noncomputable def vsR (rows : List (List Int)) (n : Nat) (g : Nat → Nat → Int) : Int :=
  if vwR rows ≠ 0 then vwR rows else if n ≠ rows.length then 1 else @ite _ (VS n g) (Classical.propDecidable _) 0 1
theorem vs_ways {rows : List (List Int)} {n : Nat} {g : Nat → Nat → Int} (h : vwR rows ≠ 0) : vsR rows n g = vwR rows := if_pos h
theorem vs_len {rows : List (List Int)} {n : Nat} {g : Nat → Nat → Int} (h : vwR rows = 0) (h' : n ≠ rows.length) : vsR rows n g = 1 := by
  unfold vsR
  rw [if_neg (by simpa using h), if_pos h']
theorem vs_bad {rows : List (List Int)} {n : Nat} {g : Nat → Nat → Int} (h : vwR rows = 0) (h' : n = rows.length) (h2 : ¬ VS n g) : vsR rows n g = 1 := by
  unfold vsR
  rw [if_neg (by simpa using h), if_neg (by simpa using h'), if_neg h2]
theorem vs_ok {rows : List (List Int)} {n : Nat} {g : Nat → Nat → Int} (h : vwR rows = 0) (h' : n = rows.length) (h2 : VS n g) : vsR rows n g = 0 := by
  unfold vsR
  rw [if_neg (by simpa using h), if_neg (by simpa using h'), if_pos h2]
theorem vs_zero {rows : List (List Int)} {n : Nat} {g : Nat → Nat → Int} (h : vsR rows n g = 0) : VW rows ∧ n = rows.length ∧ VS n g := by
  by_cases h1 : vwR rows = 0
  · by_cases h2 : n = rows.length
    · by_cases h3 : VS n g
      · exact ⟨vw_zero h1, h2, h3⟩
      · rw [vs_bad h1 h2 h3] at h; cases h
    · rw [vs_len h1 h2] at h; cases h
  · rw [vs_ways h1] at h; exact absurd h h1

set_option maxRecDepth 100000 in
set_option maxHeartbeats 1000000 in
theorem ValidateStops_any (A A' : Option Addr) (c c' B : Nat) (rows : List (List Int)) (n : Nat) (g : Nat → Nat → Int) (w : World) (hB : B ≤ w.heap.size) (h : TblAt B w A rows) (hl : ∀ r ∈ rows, r.length ≤ 30) (h' : StAt B w A' n g) (hn : n ≤ 1000) :
    Calls Try.prog 39 #[.slice A rows.length c, .slice A' n c'] w fun e w' => e = .returned (.int .i64 (vsR rows n g)) ∧ Below w.heap.size w w' := by
  have cv := Lib.hid (Validate_any A c B rows w h hl)
  by_cases hv : vwR rows = 0
  · have hv1 := (vw_zero hv).n1
    rw [hv] at cv
    by_cases hne : n = rows.length
    · have hnn : ((n : Int) != (rows.length : Int)) = false := by simp; omega
      have Hbad := Lib.hid (fun h2 : ¬ VS n g => vs_bad hv hne h2)
      have Hok := Lib.hid (fun h2 : VS n g => vs_ok hv hne h2)
      have H := Lib.hid (show StAt w.heap.size w A' n g from h'.below (Below.refl _ _) hB)
      generalize vsR rows n g = r at Hbad Hok ⊢
      generalize rows.length = m at cv hnn hne ⊢
      clear h h' hv hne hv1
      go_enter Try.func39, Try.ntmps39
      go_wp2_with (go_at_call 30; refine cv.out.mono ?_; rintro e w1 ⟨rfl, hw1⟩; obtain rfl := hw1.symm; clear hw1)
      go_loopw [22] (fun i wr => ∃ k : Nat, k ≤ n ∧ i = .int .i64 k ∧ (∀ k', k' < k → okS g k') ∧ Below w.heap.size w wr) (fun i _ => n - (intOf i).toNat)
      case atStart => exact ⟨0, Nat.zero_le _, rfl, fun k' hk => absurd hk (Nat.not_lt_zero k'), Below.refl _ _⟩
      case round =>
        obtain ⟨k, hk, rfl, hs, hb⟩ := hrel
        have Hs := Lib.hid hs
        clear hs
        by_cases hlt : k < n
        · obtain ⟨b, off, rfl, hbB, c0, c1, c2, c3⟩ := H.out.at hlt
          have d0 := (hb.cell (p := ⟨b, off + k * 4, none⟩) hbB).trans c0
          have d1 := (hb.cell (p := ⟨b, off + k * 4 + 1, none⟩) hbB).trans c1
          have d2 := (hb.cell (p := ⟨b, off + k * 4 + 2, none⟩) hbB).trans c2
          have d3 := (hb.cell (p := ⟨b, off + k * 4 + 3, none⟩) hbB).trans c3
          clear c0 c1 c2 c3
          have hbs := hb.size
          have hbw : b < wr.heap.size := by omega
          go_wp2_with fail
          obtain ⟨W1, hW1⟩ : ∃ W1, (wr.alloc (.cells #[.int .i64 (g k 0), .int .i64 (g k 1), .int .i64 (g k 2), .int .i64 (g k 3)] 89)).alloc (.cells #[.int .i64 (g k 0), .int .i64 (g k 1), .int .i64 (g k 2)] 3) = W1 := ⟨_, rfl⟩
          rw [hW1]
          have hblk : Blk W1 wr.heap.size 89 #[.int .i64 (g k 0), .int .i64 (g k 1), .int .i64 (g k 2), .int .i64 (g k 3)] := by rw [← hW1]; exact (Blk.new _ _ _).alloc _
          have hblk2 : Blk W1 (wr.heap.size + 1) 3 #[.int .i64 (g k 0), .int .i64 (g k 1), .int .i64 (g k 2)] := by rw [← hW1]; exact blk_new' (by simp)
          have hb1 : Below w.heap.size w W1 := by rw [← hW1]; exact (hb.alloc hb.size _).alloc (by simp; omega) _
          have F := Lib.hid (show ∀ j, j < 3 → W1.cell? ⟨wr.heap.size + 1, j, none⟩ = some (.int .i64 (g k j)) from fun j hj => by
            obtain ⟨q0, q1, q2, _⟩ := blk3 hblk2
            rcases (show j = 0 ∨ j = 1 ∨ j = 2 by omega) with e | e | e <;> subst e
            · exact q0
            · exact q1
            · exact q2)
          obtain ⟨_, _, _, q3, _⟩ := blk4 hblk
          have Hbs := Lib.hid (fun (hno : ¬ okS g k) => Hbad.out fun hv => hno (hv k hlt))
          have Hss := Lib.hid (fun (ho : okS g k) => show ∀ k', k' < k + 1 → okS g k' from fun k' hk' => by
            by_cases e : k' = k
            · subst e; exact ho
            · exact Hs.out k' (by omega))
          have HO := Lib.hid (show okS g k ↔ (∀ j, j < 3 → 0 ≤ g k j ∧ g k j ≤ 10000) ∧ 0 ≤ g k 3 ∧ g k 3 ≤ 100 from Iff.rfl)
          generalize okS g k = O at Hbs Hss HO
          have hw1 : wr.heap.size + 1 < W1.heap.size := hblk2.lt
          clear hW1 d0 d1 d2 d3 hblk hblk2
          go_loop [34] (fun s => ∃ j : Nat, j ≤ 3 ∧ s = .int .i64 j ∧ ∀ j', j' < j → 0 ≤ g k j' ∧ g k j' ≤ 10000) (fun s => 3 - (intOf s).toNat)
          case atStart => exact ⟨0, Nat.zero_le _, rfl, fun j' hk => absurd hk (Nat.not_lt_zero j')⟩
          case round =>
            obtain ⟨j, hj, rfl, hm⟩ := hrel
            have Hm := Lib.hid hm
            clear hm
            by_cases hjl : j < 3
            · have q := F.out j hjl
              have hjl' : (j : Int) < 3 := by omega
              have Hno := Lib.hid (fun (hno : ¬ (0 ≤ g k j ∧ g k j ≤ 10000)) => Hbs.out fun ho => hno ((HO.out.1 ho).1 j hjl))
              have Hm2 := Lib.hid (fun (ho : 0 ≤ g k j ∧ g k j ≤ 10000) => show ∀ j', j' < j + 1 → 0 ≤ g k j' ∧ g k j' ≤ 10000 from fun j' hj' => by
                by_cases e : j' = j
                · subst e; exact ho
                · exact Hm.out j' (by omega))
              generalize g k j = x at q Hno Hm2
              by_cases h1 : x < 0
              · have hx : decide (x < 0) = true := by simpa using h1
                have Hr := Lib.hid (Hno.out (by omega))
                go_wp2_with fail
                go_ret
                exact ⟨by rw [Hr.out]; rfl, hb1⟩
              · have hx : decide (x < 0) = false := by simpa using h1
                by_cases h2 : 10000 < x
                · have hx2 : decide (10000 < x) = true := by simpa using h2
                  have Hr := Lib.hid (Hno.out (by omega))
                  go_wp2_with fail
                  go_ret
                  exact ⟨by rw [Hr.out]; rfl, hb1⟩
                · have hx2 : decide (10000 < x) = false := by simpa using h2
                  have Hr := Lib.hid (Hm2.out (by omega))
                  clear h1 h2
                  go_wp2_with fail
                  go_round
                  case rel => exact ⟨j + 1, by omega, by go_num, Hr.out⟩
                  case measure => simp [intOf]; omega
            · obtain rfl : j = 3 := by omega
              generalize g k 3 = x at q3 HO
              by_cases h1 : x < 0
              · have hx : decide (x < 0) = true := by simpa using h1
                have Hr := Lib.hid (Hbs.out fun ho => by have := (HO.out.1 ho).2; omega)
                go_wp2_with fail
                go_ret
                exact ⟨by rw [Hr.out]; rfl, hb1⟩
              · have hx : decide (x < 0) = false := by simpa using h1
                by_cases h2 : 100 < x
                · have hx2 : decide (100 < x) = true := by simpa using h2
                  have Hr := Lib.hid (Hbs.out fun ho => by have := (HO.out.1 ho).2; omega)
                  go_wp2_with fail
                  go_ret
                  exact ⟨by rw [Hr.out]; rfl, hb1⟩
                · have hx2 : decide (100 < x) = false := by simpa using h2
                  have Hr := Lib.hid (Hss.out (HO.out.2 ⟨Hm.out, by omega, by omega⟩))
                  clear h1 h2
                  go_wp2_with fail
                  go_roundw
                  case rel => exact ⟨k + 1, by omega, by go_num, Hr.out, hb1⟩
                  case measure => simp [intOf]; omega
        · obtain rfl : k = n := by omega
          have Hr := Lib.hid (Hok.out Hs.out)
          go_wp2_with fail
          go_ret
          exact ⟨by rw [Hr.out]; rfl, hb⟩
    · have hnn : ((n : Int) != (rows.length : Int)) = true := by simp; omega
      have Hr := Lib.hid (vs_len (g := g) hv hne)
      generalize rows.length = m at cv hnn hne ⊢
      clear h h' hne hv
      go_enter Try.func39, Try.ntmps39
      go_wp2_with (go_at_call 30; refine cv.out.mono ?_; rintro e w1 ⟨rfl, hw1⟩; obtain rfl := hw1.symm; clear hw1)
      go_ret
      exact ⟨by rw [Hr.out]; rfl, Below.refl _ _⟩
  · have Hr := Lib.hid (vs_ways (n := n) (g := g) hv)
    have hne : (vwR rows != 0) = true := by simpa using hv
    generalize vwR rows = e0 at cv hne Hr
    clear h h' hv
    go_enter Try.func39, Try.ntmps39
    go_wp2_with (go_at_call 30; refine cv.out.mono ?_; rintro e w1 ⟨rfl, hw1⟩; obtain rfl := hw1.symm; clear hw1)
    go_ret
    exact ⟨by rw [Hr.out]; rfl, Below.refl _ _⟩

theorem inI_true {x lo hi : Int} (h : lo ≤ x ∧ x ≤ hi) : inI x lo hi = true := by simp [inI, h.1, h.2]
theorem inI_false {x lo hi : Int} (h : ¬ (lo ≤ x ∧ x ≤ hi)) : inI x lo hi = false := by simp only [inI, decide_eq_false_iff_not]; exact h

set_option maxRecDepth 100000 in
set_option maxHeartbeats 1000000 in
theorem ValidateStops_ref (A A' : Option Addr) (c c' B : Nat) (rows : List (List Int)) (n : Nat) (g : Nat → Nat → Int) (w : World) (hB : B ≤ w.heap.size) (h : TblAt B w A rows) (hl : rows.length ≤ 30 ∧ ∀ r ∈ rows, r.length ≤ 30) (h' : StAt B w A' n g) (hn : n ≤ 1000) :
    Calls Try.prog 40 #[.slice A rows.length c, .slice A' n c'] w fun e w' => e = .returned (.int .i64 (vsR rows n g)) ∧ Below w.heap.size w w' := by
  have cv := Lib.hid (Validate_ref A c B rows w hB h hl)
  by_cases hv : vwR rows = 0
  · have hv1 := (vw_zero hv).n1
    rw [hv] at cv
    by_cases hne : n = rows.length
    · have hnn : ((n : Int) != (rows.length : Int)) = false := by simp; omega
      have Hbad := Lib.hid (fun h2 : ¬ VS n g => vs_bad hv hne h2)
      have Hok := Lib.hid (fun h2 : VS n g => vs_ok hv hne h2)
      have H := Lib.hid (show StAt w.heap.size w A' n g from h'.below (Below.refl _ _) hB)
      generalize vsR rows n g = r at Hbad Hok ⊢
      generalize rows.length = m at cv hnn hne ⊢
      clear h h' hv hne hv1
      go_enter Try.func40, Try.ntmps40
      go_wp2_with (go_at_call 31; refine cv.out.mono ?_; rintro e w1 ⟨rfl, hb1⟩)
      go_loopw [6] (fun i wr => ∃ k : Nat, k ≤ n ∧ i = .int .i64 k ∧ (∀ k', k' < k → okS g k') ∧ Below w.heap.size w wr) (fun i _ => n - (intOf i).toNat)
      case atStart => exact ⟨0, Nat.zero_le _, rfl, fun k' hk => absurd hk (Nat.not_lt_zero k'), hb1⟩
      case round =>
        obtain ⟨k, hk, rfl, hs, hb⟩ := hrel
        have Hs := Lib.hid hs
        clear hs
        by_cases hlt : k < n
        · obtain ⟨b, off, rfl, hbB, c0, c1, c2, c3⟩ := H.out.at hlt
          have d0 := (hb.cell (p := ⟨b, off + k * 4, none⟩) hbB).trans c0
          have d1 := (hb.cell (p := ⟨b, off + k * 4 + 1, none⟩) hbB).trans c1
          have d2 := (hb.cell (p := ⟨b, off + k * 4 + 2, none⟩) hbB).trans c2
          have d3 := (hb.cell (p := ⟨b, off + k * 4 + 3, none⟩) hbB).trans c3
          clear c0 c1 c2 c3
          have hbs := hb.size
          have hbw : b < wr.heap.size := by omega
          have hb1 : ∀ o, Below w.heap.size w (wr.alloc o) := fun o => hb.alloc hb.size _
          have Hbs := Lib.hid (fun (hno : ¬ okS g k) => Hbad.out fun hv => hno (hv k hlt))
          have Hss := Lib.hid (fun (ho : okS g k) => show ∀ k', k' < k + 1 → okS g k' from fun k' hk' => by
            by_cases e : k' = k
            · subst e; exact ho
            · exact Hs.out k' (by omega))
          have HO := Lib.hid (show okS g k ↔ (0 ≤ g k 0 ∧ g k 0 ≤ 10000) ∧ (0 ≤ g k 1 ∧ g k 1 ≤ 10000) ∧ (0 ≤ g k 2 ∧ g k 2 ≤ 10000) ∧ 0 ≤ g k 3 ∧ g k 3 ≤ 100 from
            ⟨fun h => ⟨h.1 0 (by omega), h.1 1 (by omega), h.1 2 (by omega), h.2⟩, fun h => ⟨fun j hj => by
              rcases (show j = 0 ∨ j = 1 ∨ j = 2 by omega) with e | e | e <;> subst e
              · exact h.1
              · exact h.2.1
              · exact h.2.2.1, h.2.2.2⟩⟩)
          generalize okS g k = O at Hbs Hss HO
          generalize g k 0 = x0 at d0 HO
          generalize g k 1 = x1 at d1 HO
          generalize g k 2 = x2 at d2 HO
          generalize g k 3 = x3 at d3 HO
          by_cases h0 : 0 ≤ x0 ∧ x0 ≤ 10000
          · have i0 := inI_true h0
            by_cases h1 : 0 ≤ x1 ∧ x1 ≤ 10000
            · have i1 := inI_true h1
              by_cases h2 : 0 ≤ x2 ∧ x2 ≤ 10000
              · have i2 := inI_true h2
                by_cases h3 : 0 ≤ x3 ∧ x3 ≤ 100
                · have i3 := inI_true h3
                  have Hr := Lib.hid (Hss.out (HO.out.2 ⟨h0, h1, h2, h3⟩))
                  clear h0 h1 h2 h3
                  go_wp2_with (go_at_call 60; refine (within_ref _ _ _ _).mono ?_; rintro e w2 ⟨rfl, rfl⟩)
                  go_roundw
                  case rel => exact ⟨k + 1, by omega, by go_num, Hr.out, hb1 _⟩
                  case measure => simp [intOf]; omega
                · have i3 := inI_false h3
                  have Hr := Lib.hid (Hbs.out fun ho => h3 (HO.out.1 ho).2.2.2)
                  clear h0 h1 h2 h3
                  go_wp2_with (go_at_call 60; refine (within_ref _ _ _ _).mono ?_; rintro e w2 ⟨rfl, rfl⟩)
                  go_ret
                  exact ⟨by rw [Hr.out]; rfl, hb1 _⟩
              · have i2 := inI_false h2
                have Hr := Lib.hid (Hbs.out fun ho => h2 (HO.out.1 ho).2.2.1)
                clear h0 h1 h2
                go_wp2_with (go_at_call 60; refine (within_ref _ _ _ _).mono ?_; rintro e w2 ⟨rfl, rfl⟩)
                go_ret
                exact ⟨by rw [Hr.out]; rfl, hb1 _⟩
            · have i1 := inI_false h1
              have Hr := Lib.hid (Hbs.out fun ho => h1 (HO.out.1 ho).2.1)
              clear h0 h1
              go_wp2_with (go_at_call 60; refine (within_ref _ _ _ _).mono ?_; rintro e w2 ⟨rfl, rfl⟩)
              go_ret
              exact ⟨by rw [Hr.out]; rfl, hb1 _⟩
          · have i0 := inI_false h0
            have Hr := Lib.hid (Hbs.out fun ho => h0 (HO.out.1 ho).1)
            clear h0
            go_wp2_with (go_at_call 60; refine (within_ref _ _ _ _).mono ?_; rintro e w2 ⟨rfl, rfl⟩)
            go_ret
            exact ⟨by rw [Hr.out]; rfl, hb1 _⟩
        · obtain rfl : k = n := by omega
          have Hr := Lib.hid (Hok.out Hs.out)
          go_wp2_with fail
          go_ret
          exact ⟨by rw [Hr.out]; rfl, hb⟩
    · have hnn : ((n : Int) != (rows.length : Int)) = true := by simp; omega
      have Hr := Lib.hid (vs_len (g := g) hv hne)
      generalize rows.length = m at cv hnn hne ⊢
      clear h h' hne hv
      go_enter Try.func40, Try.ntmps40
      go_wp2_with (go_at_call 31; refine cv.out.mono ?_; rintro e w1 ⟨rfl, hb1⟩)
      go_ret
      exact ⟨by rw [Hr.out]; rfl, hb1⟩
  · have Hr := Lib.hid (vs_ways (n := n) (g := g) hv)
    have hne : (vwR rows != 0) = true := by simpa using hv
    generalize vwR rows = e0 at cv hne Hr
    clear h h' hv
    go_enter Try.func40, Try.ntmps40
    go_wp2_with (go_at_call 31; refine cv.out.mono ?_; rintro e w1 ⟨rfl, hb1⟩)
    go_ret
    exact ⟨by rw [Hr.out]; rfl, hb1⟩

/-- The error of ways, stops and a tour. -/
noncomputable def tsR (rows : List (List Int)) (n : Nat) (g : Nat → Nat → Int) (t : List Int) : Int := if vsR rows n g ≠ 0 then vsR rows n g else tuR rows.length t
theorem ts_zero {rows : List (List Int)} {n : Nat} {g : Nat → Nat → Int} {t : List Int} (h : tsR rows n g t = 0) : (VW rows ∧ n = rows.length ∧ VS n g) ∧ tuR rows.length t = 0 := by
  unfold tsR at h
  split at h
  · contradiction
  · exact ⟨vs_zero (by simpa using ‹¬ vsR rows n g ≠ 0›), h⟩

set_option maxRecDepth 100000 in
set_option maxHeartbeats 1000000 in
theorem stopped_any (A A' A2 : Option Addr) (c c' c2 B : Nat) (rows : List (List Int)) (n : Nat) (g : Nat → Nat → Int) (t : List Int) (w : World) (hB : B ≤ w.heap.size) (h : TblAt B w A rows) (hl : rows.length ≤ 30 ∧ ∀ r ∈ rows, r.length ≤ 30) (h' : StAt B w A' n g) (hn : n ≤ 1000)
    (h2 : IntsAt B w A2 t) (hm : t.length ≤ 1000) (hcap : t.length ≤ c2) :
    Calls Try.prog 71 #[.slice A rows.length c, .slice A' n c', .slice A2 t.length c2] w fun e w' => e = .returned (.int .i64 (tsR rows n g t)) ∧ Below w.heap.size w w' := by
  have cv := Lib.hid (ValidateStops_any A A' c c' B rows n g w hB h hl.2 h' hn)
  by_cases hv : vsR rows n g = 0
  · have Hr := Lib.hid (show tsR rows n g t = tuR rows.length t from if_neg (by simpa using hv))
    have ct := Lib.hid (fun W (hW : Below w.heap.size w W) => isTour_any A A2 rows.length c c2 w.heap.size t W ((h2.below (Below.refl _ _) hB).below hW (Nat.le_refl _)) hm hcap)
    rw [hv] at cv
    clear h h' h2 hv
    go_enter Try.func71, Try.ntmps71
    go_wp2_with (first | (go_at_call 39; refine cv.out.mono ?_; rintro e w1 ⟨rfl, hb1⟩) | (go_at_call 93; refine (ct.out _ hb1).mono ?_; rintro e w2 ⟨rfl, rfl⟩))
    go_ret
    exact ⟨by rw [Hr.out]; rfl, hb1⟩
  · have Hr := Lib.hid (show tsR rows n g t = vsR rows n g from if_pos hv)
    have hne : (vsR rows n g != 0) = true := by simpa using hv
    generalize vsR rows n g = e0 at cv hne Hr
    clear h h' h2 hv
    go_enter Try.func71, Try.ntmps71
    go_wp2_with (go_at_call 39; refine cv.out.mono ?_; rintro e w1 ⟨rfl, hb1⟩)
    go_ret
    exact ⟨by rw [Hr.out]; rfl, hb1⟩

set_option maxRecDepth 100000 in
set_option maxHeartbeats 1000000 in
theorem toured_ref (A A' A2 : Option Addr) (c c' c2 B : Nat) (rows : List (List Int)) (n : Nat) (g : Nat → Nat → Int) (t : List Int) (w : World) (hB : B ≤ w.heap.size) (h : TblAt B w A rows) (hl : rows.length ≤ 30 ∧ ∀ r ∈ rows, r.length ≤ 30) (h' : StAt B w A' n g) (hn : n ≤ 1000)
    (h2 : IntsAt B w A2 t) (hm : t.length ≤ 1000) (hcap : t.length ≤ c2) :
    Calls Try.prog 73 #[.slice A rows.length c, .slice A' n c', .slice A2 t.length c2] w fun e w' => e = .returned (.int .i64 (tsR rows n g t)) ∧ Below w.heap.size w w' := by
  have cv := Lib.hid (ValidateStops_ref A A' c c' B rows n g w hB h hl h' hn)
  by_cases hv : vsR rows n g = 0
  · have Hr := Lib.hid (show tsR rows n g t = tuR rows.length t from if_neg (by simpa using hv))
    have hn0 := (vs_zero hv).1.n0
    have ct := Lib.hid (fun W (hW : Below w.heap.size w W) => isTour_ref A A2 rows.length c c2 w.heap.size t W hW.size ((h2.below (Below.refl _ _) hB).below hW (Nat.le_refl _)) hm hn0 (by omega))
    rw [hv] at cv
    clear h h' h2 hv
    go_enter Try.func73, Try.ntmps73
    go_wp2_with (first | (go_at_call 40; refine cv.out.mono ?_; rintro e w1 ⟨rfl, hb1⟩) | (go_at_call 67; refine (ct.out _ hb1).mono ?_; rintro e w2 ⟨rfl, hb2⟩))
    go_ret
    exact ⟨by rw [Hr.out]; rfl, hb1.trans (hb2.mono hb1.size)⟩
  · have Hr := Lib.hid (show tsR rows n g t = vsR rows n g from if_pos hv)
    have hne : (vsR rows n g != 0) = true := by simpa using hv
    generalize vsR rows n g = e0 at cv hne Hr
    clear h h' h2 hv
    go_enter Try.func73, Try.ntmps73
    go_wp2_with (go_at_call 40; refine cv.out.mono ?_; rintro e w1 ⟨rfl, hb1⟩)
    go_ret
    exact ⟨by rw [Hr.out]; rfl, hb1⟩
end Go.Proofs.Ytmodbpglopfghaa


set_option linter.unusedSimpArgs false
set_option linter.unusedVariables false
namespace Go.Proofs.Ytmodbpglopfghaa
open Go.RowKit

/-- When stop s is reached by a van that leaves a at the minute now. -/
def arr (f g : Nat → Nat → Int) (now : Int) (a s : Nat) : Int := max (now + f a s) (g s 0)
/-- When it leaves the k-th stop. -/
def nowT (f g : Nat → Nat → Int) (b : Int) (t : List Nat) : Nat → Int
  | 0 => b
  | k + 1 => arr f g (nowT f g b t k) (atT t k) (t[k]?.getD 0) + g (t[k]?.getD 0) 2
theorem nowT_succ {f g : Nat → Nat → Int} {b : Int} {t : List Nat} {k : Nat} (h : k < t.length) : nowT f g b t (k + 1) = arr f g (nowT f g b t k) (atT t k) t[k] + g t[k] 2 := by
  simp [nowT, h]
/-- A visit. -/
def viR (f g : Nat → Nat → Int) (b : Int) (t : List Nat) (k : Nat) : List Int :=
  [((t[k]?.getD 0 : Nat) : Int), arr f g (nowT f g b t k) (atT t k) (t[k]?.getD 0), arr f g (nowT f g b t k) (atT t k) (t[k]?.getD 0) + g (t[k]?.getD 0) 2]
def viT (f g : Nat → Nat → Int) (b : Int) (t : List Nat) (k : Nat) : List (List Int) := (List.range k).map (viR f g b t)
theorem viT_length (f g : Nat → Nat → Int) (b : Int) (t : List Nat) (k : Nat) : (viT f g b t k).length = k := by simp [viT]
theorem viT_row (f g : Nat → Nat → Int) (b : Int) (t : List Nat) (k : Nat) : ∀ r ∈ viT f g b t k, r.length = 3 := fun r hr => by
  obtain ⟨i, _, rfl⟩ := List.mem_map.1 hr
  rfl
theorem viR_get {f g : Nat → Nat → Int} {b : Int} {t : List Nat} {k : Nat} (h : k < t.length) : viR f g b t k = [((t[k] : Nat) : Int), arr f g (nowT f g b t k) (atT t k) t[k], arr f g (nowT f g b t k) (atT t k) t[k] + g t[k] 2] := by
  simp [viR, h]
theorem viT_succ {f g : Nat → Nat → Int} {b : Int} {t : List Nat} {k : Nat} (h : k < t.length) : viT f g b t (k + 1) = viT f g b t k ++ [[((t[k] : Nat) : Int), arr f g (nowT f g b t k) (atT t k) t[k], arr f g (nowT f g b t k) (atT t k) t[k] + g t[k] 2]] := by
  rw [← viR_get h]
  simp [viT, List.range_succ]
theorem viT_get {f g : Nat → Nat → Int} {b : Int} {t : List Nat} {k : Nat} (h : k < t.length) : (viT f g b t t.length)[k]? = some [((t[k] : Nat) : Int), arr f g (nowT f g b t k) (atT t k) t[k], arr f g (nowT f g b t k) (atT t k) t[k] + g t[k] 2] := by
  rw [← viR_get h]
  simp [viT, h]
/-- When it is back. -/
def bkT (f g : Nat → Nat → Int) (b : Int) (t : List Nat) : Int := nowT f g b t t.length + f (atT t t.length) 0
def VisAt (B : Nat) (w : World) (A : Option Addr) (f g : Nat → Nat → Int) (b : Int) (t : List Nat) : Prop := RowsAt B w A 3 (viT f g b t t.length)
theorem VisAt.at {B : Nat} {w : World} {A : Option Addr} {f g : Nat → Nat → Int} {b : Int} {t : List Nat} (h : VisAt B w A f g b t) {k : Nat} (hk : k < t.length) :
    ∃ q off, A = some ⟨q, off, none⟩ ∧ q < B ∧ w.cell? ⟨q, off + k * 3, none⟩ = some (.int .i64 (t[k] : Nat)) ∧ w.cell? ⟨q, off + k * 3 + 1, none⟩ = some (.int .i64 (arr f g (nowT f g b t k) (atT t k) t[k])) ∧
      w.cell? ⟨q, off + k * 3 + 2, none⟩ = some (.int .i64 (arr f g (nowT f g b t k) (atT t k) t[k] + g t[k] 2)) := by
  obtain ⟨q, off, e, hb, hc⟩ := h k (by rw [viT_length]; exact hk)
  dsimp only at hc
  rw [viT_get hk] at hc
  exact ⟨q, off, e, hb, hc 0 (by omega), hc 1 (by omega), hc 2 (by omega)⟩
theorem VisAt.below {B B' : Nat} {w w' : World} {A : Option Addr} {f g : Nat → Nat → Int} {b : Int} {t : List Nat} (h : VisAt B w A f g b t) (hb : Below B w w') (hB : B ≤ B') : VisAt B' w' A f g b t := RowsAt.below h hb hB
theorem nowT_bd {n : Nat} {f g : Nat → Nat → Int} {b : Int} {t : List Nat} (hf : ∀ i j, i < n → j < n → 0 ≤ f i j ∧ f i j ≤ 1000) (hg : VS n g) (h : ∀ x ∈ t, x < n) (hn : 1 ≤ n) (hb : 0 ≤ b ∧ b ≤ 10000) :
    ∀ k, k ≤ t.length → 0 ≤ nowT f g b t k ∧ nowT f g b t k ≤ 10000 + 21000 * (k : Int)
  | 0, _ => by simp only [nowT]; omega
  | k + 1, hk => by
    have ih := nowT_bd hf hg h hn hb k (by omega)
    have hm := h t[k] (List.getElem_mem (by omega))
    have h1 := hf _ _ (atT_lt h hn k) hm
    have h2 := (hg _ hm).1 0 (by omega)
    have h3 := (hg _ hm).1 2 (by omega)
    rw [nowT_succ (by omega)]
    unfold arr
    omega

theorem info55 : (Try.prog.info? 55).map (fun i => (i.zero, i.size, i.bytes)) = some (some (.agg #[.int .i64 0, .int .i64 0, .int .i64 0]), 3, 24) := by kernel_rfl
theorem info56 : (Try.prog.info? 56).map (fun i => (i.zero, i.size, i.bytes)) = some (some (.agg #[.int .i64 0, .int .i64 0, .int .i64 0]), 3, 24) := by kernel_rfl

set_option maxRecDepth 100000 in
set_option maxHeartbeats 1000000 in
theorem drive_any (b off n c c1 c2 B : Nat) (f g : Nat → Nat → Int) (A1 A2 : Option Addr) (t : List Nat) (bg : Int) (w : World) (hB : B ≤ w.heap.size) (h : WaAt B w b off n f) (hf : ∀ i j, i < n → j < n → 0 ≤ f i j ∧ f i j ≤ 1000) (h1 : StAt B w A1 n g) (hg : VS n g)
    (h2 : IntsAt B w A2 (intL t)) (ht : ∀ x ∈ t, x < n) (hn : 1 ≤ n) (hn7 : n ≤ 1000) (hm : t.length ≤ 1000) (hbg : 0 ≤ bg ∧ bg ≤ 10000) :
    Calls Try.prog 72 #[.slice (some ⟨b, off, none⟩) n c, .slice A1 n c1, .slice A2 t.length c2, .int .i64 bg] w fun e w' => ∃ A3 c3, e = .returned (.tuple #[.slice A3 t.length c3, .int .i64 (bkT f g bg t)]) ∧
      w'.ownsRow w.heap.size 55 3 (.slice A3 t.length c3) t.length ((viT f g bg t t.length).flatMap fun r => r.map (Value.int .i64)) ∧ Below w.heap.size w w' := by
  have H := Lib.hid (h.below (Below.refl _ _) hB)
  have H1 := Lib.hid (show StAt w.heap.size w A1 n g from h1.below (Below.refl _ _) hB)
  have H2 := Lib.hid (show IntsAt w.heap.size w A2 (intL t) from h2.below (Below.refl _ _) hB)
  have Hat := Lib.hid (atT_lt ht hn)
  have Hbd := Lib.hid (nowT_bd hf hg ht hn hbg)
  have Hf := Lib.hid hf
  have Hg := Lib.hid hg
  have Ht := Lib.hid ht
  obtain ⟨i0, hi, hz0, hz1, hz2⟩ := info_parts info55
  clear h h1 h2 ht hf hg
  go_enter Try.func72, Try.ntmps72
  go_wp2_with fail
  go_loopw [10, 11, 12, 19] (fun out vs va vk wr => ∃ k : Nat, k ≤ t.length ∧ vk = .int .i64 k ∧ vs = .int .i64 (nowT f g bg t k) ∧ va = .int .i64 (atT t k : Nat) ∧ wr.ownsRow w.heap.size 55 3 out (viT f g bg t k).length ((viT f g bg t k).flatMap fun r => r.map (Value.int .i64)) ∧ Below w.heap.size w wr) (fun _ _ _ vk _ => t.length - (intOf vk).toNat)
  case atStart => exact ⟨0, Nat.zero_le _, rfl, rfl, by rw [atT_zero]; rfl, World.ownsRow_nil _ _ _ _, Below.refl _ _⟩
  case round =>
    obtain ⟨k, hk, rfl, rfl, rfl, hown, hbr⟩ := hrel
    have hat := Hat.out k
    have hbd := Hbd.out k hk
    have HBr := Lib.hid hbr
    have HO := Lib.hid hown
    have hlen := viT_length f g bg t k
    obtain ⟨b2, o2, c2, hb2, e1, f1⟩ := (H.out.below hbr (Nat.le_refl _)).2 _ hat
    have hai : ((atT t k : Nat) : Int) < (n : Int) := by omega
    have hbs := hbr.size
    clear hbr hown
    by_cases hlt : k < t.length
    · obtain ⟨b1, o1, rfl, hb1, y0⟩ := (H2.out.below HBr.out (Nat.le_refl _)).at (k := k) (by rw [intL_length]; exact hlt)
      rw [intL_get hlt] at y0
      have hs := Ht.out _ (List.getElem_mem hlt)
      have e2 := f1 _ hs
      have hfb := Hf.out _ _ hat hs
      obtain ⟨b3, o3, rfl, hb3, g0, _, g2, _⟩ := (H1.out.below HBr.out (Nat.le_refl _)).at hs
      have hg0 := (Hg.out _ hs).1 0 (by omega)
      have hg2 := (Hg.out _ hs).1 2 (by omega)
      have HL := Lib.hid (nowT_succ (f := f) (g := g) (b := bg) hlt)
      have HA := Lib.hid (atT_succ hlt)
      have HV := Lib.hid (viT_succ (f := f) (g := g) (b := bg) hlt)
      unfold arr at HL HV
      generalize atT t k = a at e1 hai hat HL HV e2 hfb f1 ⊢
      generalize nowT f g bg t k = s at hbd HL HV ⊢
      generalize t[k] = x at y0 hs e2 HL HA HV hfb g0 g2 hg0 hg2
      generalize f a x = d at e2 HL HV hfb
      generalize g x 0 = p at g0 hg0 HL HV
      generalize g x 2 = q at g2 hg2 HL HV
      have hxi : ((x : Nat) : Int) < (n : Int) := by omega
      have hki : ((k : Nat) : Int) < (t.length : Int) := by omega
      have hk0 : (0 : Int) ≤ (k : Int) := by omega
      have ha0 : (0 : Int) ≤ (a : Int) := by omega
      have hx0 : (0 : Int) ≤ (x : Int) := by omega
      have hw1 : IntKind.i64.wrap (s + d) = s + d := IntWalk.i64_in _ (by omega)
      have hw2 : IntKind.i64.wrap (max (s + d) p + q) = max (s + d) p + q := IntWalk.i64_in _ (by omega)
      clear f1 hfb
      go_wp2_with fail
      go_quiet (fail)
      obtain ⟨W1, hW1⟩ : ∃ W1, wr.drewN nq = W1 := ⟨_, rfl⟩
      rw [hW1]
      have q2 : W1.cell? ⟨b3, o3 + x * 4 + 2, none⟩ = some (.int .i64 q) := by rw [← hW1]; exact g2
      have HO1 : W1.ownsRow w.heap.size 55 3 u10 (viT f g bg t k).length ((viT f g bg t k).flatMap fun r => r.map (Value.int .i64)) := by rw [← hW1]; exact HO.out
      have hB1 : Below w.heap.size w W1 := by rw [← hW1]; exact below_drewN HBr.out _
      generalize hM : max (s + d) p = M at hw2 HL HV ⊢
      have hB1s := hB1.size
      have HB1 := Lib.hid hB1
      have HO2 := Lib.hid HO1
      have hbW : b3 < W1.heap.size := by omega
      clear hW1 hM g0 g2 e1 e2 y0 HO HO1 hB1
      go_wp2_with (at_builtin; refine wpList_append_own _ rfl _ _ 47 rfl w.heap.size 55 i0 _ 3 24 Try.underlying47 hi hz0 hz1 hz2 rfl (by decide) _ _ _ rfl ((HO2.out.alloc _).alloc _) ⟨W1.heap.size + 1, 0, none⟩ 1 1 _ rfl rfl (cells_new' _ _ (by simp) _ _) (by simp [Value.oneCell']) (by simp only [maxLen]; omega) (by omega) (by simp; omega) ?_; intro v' w4 hown4 hg4 _; have k4 := ((Blk.new W1 55 #[.int .i64 (x : Int), .int .i64 M, .int .i64 (M + q)]).alloc (.cells #[.int .i64 (x : Int), .int .i64 M, .int .i64 (M + q)] 55)).grown hg4 (fun e => by have := (HO2.out.lt _ e.symm).2; omega); obtain ⟨j0, j1, j2, _⟩ := blk3 k4)
      have b4 : Below w.heap.size w w4 := ((HB1.out.alloc HB1.out.size _).alloc (by simp; omega) _).grown hg4 (by simp; omega) (fun j hj => (HO2.out.lt j hj).1)
      go_roundw
      case rel =>
        refine ⟨k + 1, by omega, by go_num, by rw [HL.out], by rw [HA.out], ?_, b4⟩
        rw [HV.out]
        simpa using hown4
      case measure => simp [intOf]; omega
    · obtain rfl : k = t.length := by omega
      have e2 := f1 0 hn
      have HL := Lib.hid (show bkT f g bg t = nowT f g bg t t.length + f (atT t t.length) 0 from rfl)
      have hfb := Hf.out _ _ hat hn
      obtain ⟨A5, c5, hu⟩ := own_form HO.out
      have HO1 := HO.out
      rw [hu, hlen] at HO1
      have HO2 := Lib.hid HO1
      subst hu
      generalize atT t t.length = a at e1 hai hat HL e2 hfb f1 ⊢
      generalize nowT f g bg t t.length = s at hbd HL ⊢
      generalize f a 0 = d at e2 HL hfb
      rw [Nat.add_zero] at e2
      have hw1 : IntKind.i64.wrap (s + d) = s + d := IntWalk.i64_in _ (by omega)
      have hn0 : 0 < n := by omega
      have ha0 : (0 : Int) ≤ (a : Int) := by omega
      clear f1 hfb HO HO1
      have Hlen := Lib.hid hlen
      clear hlen
      go_wp2_with fail
      go_quiet (fail)
      go_wp2_with fail
      go_ret2
      exact ⟨_, _, by rw [HL.out, Hlen.out]; rfl, HO2.out, below_drewN HBr.out _⟩

set_option maxRecDepth 100000 in
set_option maxHeartbeats 1000000 in
theorem drive_ref (b off n c c1 c2 B : Nat) (f g : Nat → Nat → Int) (A1 A2 : Option Addr) (t : List Nat) (bg : Int) (w : World) (hB : B ≤ w.heap.size) (h : WaAt B w b off n f) (hf : ∀ i j, i < n → j < n → 0 ≤ f i j ∧ f i j ≤ 1000) (h1 : StAt B w A1 n g) (hg : VS n g)
    (h2 : IntsAt B w A2 (intL t)) (ht : ∀ x ∈ t, x < n) (hn : 1 ≤ n) (hn7 : n ≤ 1000) (hm : t.length ≤ 1000) (hbg : 0 ≤ bg ∧ bg ≤ 10000) :
    Calls Try.prog 74 #[.slice (some ⟨b, off, none⟩) n c, .slice A1 n c1, .slice A2 t.length c2, .int .i64 bg] w fun e w' => ∃ A3 c3, e = .returned (.tuple #[.slice A3 t.length c3, .int .i64 (bkT f g bg t)]) ∧
      w'.ownsRow w.heap.size 56 3 (.slice A3 t.length c3) t.length ((viT f g bg t t.length).flatMap fun r => r.map (Value.int .i64)) ∧ Below w.heap.size w w' := by
  have H := Lib.hid (h.below (Below.refl _ _) hB)
  have H1 := Lib.hid (show StAt w.heap.size w A1 n g from h1.below (Below.refl _ _) hB)
  have H2 := Lib.hid (show IntsAt w.heap.size w A2 (intL t) from h2.below (Below.refl _ _) hB)
  have Hat := Lib.hid (atT_lt ht hn)
  have Hbd := Lib.hid (nowT_bd hf hg ht hn hbg)
  have Hf := Lib.hid hf
  have Hg := Lib.hid hg
  have Ht := Lib.hid ht
  obtain ⟨i0, hi, hz0, hz1, hz2⟩ := info_parts info56
  have hbg0 : Value.int .i64 bg = .int .i64 (nowT f g bg t 0) := rfl
  clear h h1 h2 ht hf hg
  go_enter Try.func74, Try.ntmps74
  go_wp2_with fail
  go_loopw [10, 3, 11, 12] (fun out vs va vk wr => ∃ k : Nat, k ≤ t.length ∧ vk = .int .i64 k ∧ vs = .int .i64 (nowT f g bg t k) ∧ va = .int .i64 (atT t k : Nat) ∧ wr.ownsRow w.heap.size 56 3 out (viT f g bg t k).length ((viT f g bg t k).flatMap fun r => r.map (Value.int .i64)) ∧ Below w.heap.size w wr) (fun _ _ _ vk _ => t.length - (intOf vk).toNat)
  case atStart => exact ⟨0, Nat.zero_le _, rfl, rfl, by rw [atT_zero]; rfl, World.ownsRow_nil _ _ _ _, Below.refl _ _⟩
  case round =>
    obtain ⟨k, hk, rfl, rfl, rfl, hown, hbr⟩ := hrel
    have hat := Hat.out k
    have hbd := Hbd.out k hk
    have HBr := Lib.hid hbr
    have HO := Lib.hid hown
    have hlen := viT_length f g bg t k
    obtain ⟨b2, o2, c2, hb2, e1, f1⟩ := (H.out.below hbr (Nat.le_refl _)).2 _ hat
    have hb0 := H.out.1
    have hai : ((atT t k : Nat) : Int) < (n : Int) := by omega
    have hbs := hbr.size
    clear hbr hown
    by_cases hlt : k < t.length
    · obtain ⟨b1, o1, rfl, hb1, y0⟩ := (H2.out.below HBr.out (Nat.le_refl _)).at (k := k) (by rw [intL_length]; exact hlt)
      rw [intL_get hlt] at y0
      have HY := Lib.hid (show ∀ W, Below w.heap.size w W → W.cell? ⟨b1, o1 + k, none⟩ = some (.int .i64 (t[k] : Nat)) from fun W hW => by
        have := ((H2.out.below hW (Nat.le_refl _)).cells (k := k) (by rw [intL_length]; exact hlt)).2
        rw [intL_get hlt] at this
        exact this)
      have hs := Ht.out _ (List.getElem_mem hlt)
      have e2 := f1 _ hs
      have hfb := Hf.out _ _ hat hs
      obtain ⟨b3, o3, rfl, hb3, g0, g1, g2, g3⟩ := (H1.out.below HBr.out (Nat.le_refl _)).at hs
      have hg0 := (Hg.out _ hs).1 0 (by omega)
      have hg2 := (Hg.out _ hs).1 2 (by omega)
      have HL := Lib.hid (nowT_succ (f := f) (g := g) (b := bg) hlt)
      have HA := Lib.hid (atT_succ hlt)
      have HV := Lib.hid (viT_succ (f := f) (g := g) (b := bg) hlt)
      unfold arr at HL HV
      generalize atT t k = a at e1 hai hat HL HV e2 hfb f1 ⊢
      generalize nowT f g bg t k = s at hbd HL HV ⊢
      generalize t[k] = x at y0 HY hs e2 HL HA HV hfb g0 g1 g2 g3 hg0 hg2
      generalize f a x = d at e2 HL HV hfb
      generalize g x 0 = p at g0 hg0 HL HV
      generalize g x 1 = p1 at g1
      generalize g x 3 = p3 at g3
      generalize g x 2 = q at g2 hg2 HL HV
      have hxi : ((x : Nat) : Int) < (n : Int) := by omega
      have hki : ((k : Nat) : Int) < (t.length : Int) := by omega
      have hk0 : (0 : Int) ≤ (k : Int) := by omega
      have ha0 : (0 : Int) ≤ (a : Int) := by omega
      have hx0 : (0 : Int) ≤ (x : Int) := by omega
      have hw1 : IntKind.i64.wrap (s + d) = s + d := IntWalk.i64_in _ (by omega)
      have hw2 : IntKind.i64.wrap (max (s + d) p + q) = max (s + d) p + q := IntWalk.i64_in _ (by omega)
      clear f1 hfb
      go_wp2_with fail
      obtain ⟨W1, hW1⟩ : ∃ W1, wr.alloc (.cells #[.int .i64 p, .int .i64 p1, .int .i64 q, .int .i64 p3] 89) = W1 := ⟨_, rfl⟩
      rw [hW1]
      have hblk1 : Blk W1 wr.heap.size 89 #[.int .i64 p, .int .i64 p1, .int .i64 q, .int .i64 p3] := by rw [← hW1]; exact Blk.new _ _ _
      have hb01 : Below wr.heap.size wr W1 := by rw [← hW1]; exact (Below.refl _ _).alloc (Nat.le_refl _) _
      have q1 := (hb01.cell (p := ⟨b, off + a, none⟩) (by simp; omega)).trans e1
      have q2 := (hb01.cell (p := ⟨b2, o2 + x, none⟩) (by simp; omega)).trans e2
      have q3 := (hb01.cell (p := ⟨b1, o1 + k, none⟩) (by simp; omega)).trans y0
      have HO1 : W1.ownsRow w.heap.size 56 3 u10 (viT f g bg t k).length ((viT f g bg t k).flatMap fun r => r.map (Value.int .i64)) := by rw [← hW1]; exact HO.out.alloc _
      have hB1 : Below w.heap.size w W1 := HBr.out.trans (hb01.mono HBr.out.size)
      have hB1s := hB1.size
      have HB1 := Lib.hid hB1
      have HO2 := Lib.hid HO1
      have hbl := hblk1.lt
      have l1 : b < W1.heap.size := by omega
      have l2 : b2 < W1.heap.size := by omega
      have l3 : b1 < W1.heap.size := by omega
      have HK1 := Lib.hid hblk1
      obtain ⟨z0, _, z2, _⟩ := blk4 hblk1
      clear hW1 hb01 e1 e2 y0 g0 g1 g2 g3 HO HO1 hB1 hblk1
      go_region
      generalize hM : max (s + d) p = M at hw2 HL HV ⊢
      obtain ⟨W2, hW2⟩ : ∃ W2, (W1.alloc (.cells #[.int .i64 (x : Int), .int .i64 M, .int .i64 0] 56)).drew = W2 := ⟨_, rfl⟩
      rw [hW2]
      have hblk2 : Blk W2 W1.heap.size 56 #[.int .i64 (x : Int), .int .i64 M, .int .i64 0] := by rw [← hW2]; exact (Blk.new _ _ _).drew
      have hb12 : Below W1.heap.size W1 W2 := by rw [← hW2]; exact ((Below.refl _ _).alloc (Nat.le_refl _) _).drew
      have r2 := (hb12.cell (p := ⟨wr.heap.size, 2, none⟩) (by simp; omega)).trans z2
      have r3 := (hb12.cell (p := ⟨b1, o1 + k, none⟩) (by simp; omega)).trans q3
      have HO3 : W2.ownsRow w.heap.size 56 3 u10 (viT f g bg t k).length ((viT f g bg t k).flatMap fun r => r.map (Value.int .i64)) := by rw [← hW2]; exact (HO2.out.alloc _).drew
      have hB2 : Below w.heap.size w W2 := HB1.out.trans (hb12.mono HB1.out.size)
      have hne2 : some W1.heap.size ≠ u10.ownBlock := fun e => by have := (HO2.out.lt _ e.symm).2; omega
      have hne3 : W1.heap.size ≠ wr.heap.size := by omega
      have hne4 : W1.heap.size ≠ b1 := by omega
      have hs2 := hb12.size
      have hbl2 := hblk2.lt
      clear hW2 z0 z2 q1 q2 q3 hb12
      obtain ⟨f0, f1, f2, z0, z1, z2⟩ := blk3 hblk2
      have on3 : Only W1.heap.size W2 (W2.setCell ⟨W1.heap.size, 2, none⟩ (.int .i64 (M + q))) := (Only.refl _ _).put 2 _
      have Hblk3 := Lib.hid (show Blk (W2.setCell ⟨W1.heap.size, 2, none⟩ (.int .i64 (M + q))) W1.heap.size 56 #[.int .i64 (x : Int), .int .i64 M, .int .i64 (M + q)] from hblk2.put 2 (.int .i64 (M + q)))
      have Hown3 := Lib.hid (on3.own HO3 hne2)
      have Hb3 := Lib.hid (hB2.trans (on3.below (by omega) (by omega)))
      have sz3 := Lib.hid (show W2.heap.size = (W2.setCell ⟨W1.heap.size, 2, none⟩ (.int .i64 (M + q))).heap.size by simp [World.setCell])
      have Hne2 := Lib.hid hne2
      have R3 := Lib.hid ((on3.cell (p := ⟨b1, o1 + k, none⟩) (by simp; omega) (by simp; omega)).trans r3)
      have HbW := Lib.hid (show b1 < W2.heap.size by omega)
      have HnU := Lib.hid (show some b1 = u10.ownBlock → w.heap.size ≤ b1 from fun e => (HO3.lt _ e.symm).1)
      clear HO3 hB2 hne2 on3 hblk2 hM r3
      go_wp2_with (at_builtin; refine wpList_append_own _ rfl _ _ 50 rfl w.heap.size 56 i0 _ 3 24 Try.underlying50 hi hz0 hz1 hz2 rfl (by decide) _ _ _ rfl (Hown3.out.alloc _) ⟨W2.heap.size, 0, none⟩ 1 1 _ rfl rfl (cells_new' _ _ sz3.out _ _) (by simp [Value.oneCell']) (by simp only [maxLen]; omega) (by omega) (by simp; omega) ?_; intro v' w4 hown4 hg4 _; have k4 := (Hblk3.out.alloc _).grown hg4 Hne2.out; obtain ⟨_, j1, j2, _⟩ := blk3 k4; have b4 := Lib.hid (show Below w.heap.size w w4 from (Hb3.out.alloc (by rw [← sz3.out]; omega) _).grown hg4 (by simp; omega) (fun j hj => (Hown3.out.lt j hj).1)); have y4 := HY.out _ b4.out)
      go_roundw
      case rel =>
        refine ⟨k + 1, by omega, by go_num, by rw [HL.out], by rw [HA.out], ?_, b4.out⟩
        rw [HV.out]
        simpa using hown4
      case measure => simp [intOf]; omega
    · obtain rfl : k = t.length := by omega
      have e2 := f1 0 hn
      have HL := Lib.hid (show bkT f g bg t = nowT f g bg t t.length + f (atT t t.length) 0 from rfl)
      have hfb := Hf.out _ _ hat hn
      obtain ⟨A5, c5, hu⟩ := own_form HO.out
      have HO1 := HO.out
      rw [hu, hlen] at HO1
      have HO2 := Lib.hid HO1
      subst hu
      generalize atT t t.length = a at e1 hai hat HL e2 hfb f1 ⊢
      generalize nowT f g bg t t.length = s at hbd HL ⊢
      generalize f a 0 = d at e2 HL hfb
      rw [Nat.add_zero] at e2
      have hw1 : IntKind.i64.wrap (s + d) = s + d := IntWalk.i64_in _ (by omega)
      have hn0 : 0 < n := by omega
      have ha0 : (0 : Int) ≤ (a : Int) := by omega
      clear f1 hfb HO HO1
      have Hlen := Lib.hid hlen
      clear hlen
      go_wp2_with fail
      go_quiet (fail)
      go_wp2_with fail
      go_ret2
      exact ⟨_, _, by rw [HL.out, Hlen.out]; rfl, HO2.out, below_drewN HBr.out _⟩
end Go.Proofs.Ytmodbpglopfghaa


set_option linter.unusedSimpArgs false
set_option linter.unusedVariables false
namespace Go.Proofs.Ytmodbpglopfghaa
open Go.RowKit

/-- The error of a drive. -/
noncomputable def drR (rows : List (List Int)) (n : Nat) (g : Nat → Nat → Int) (t : List Int) (bg : Int) : Int := if tsR rows n g t ≠ 0 then tsR rows n g t else if 0 ≤ bg ∧ bg ≤ 10000 then 0 else 1
theorem dr_zero {rows : List (List Int)} {n : Nat} {g : Nat → Nat → Int} {t : List Int} {bg : Int} (h : drR rows n g t bg = 0) : tsR rows n g t = 0 ∧ 0 ≤ bg ∧ bg ≤ 10000 := by
  unfold drR at h
  split at h
  · contradiction
  · split at h
    · exact ⟨by simpa using ‹¬ tsR rows n g t ≠ 0›, ‹_›⟩
    · contradiction
theorem dr_ts {rows : List (List Int)} {n : Nat} {g : Nat → Nat → Int} {t : List Int} {bg : Int} (h : tsR rows n g t ≠ 0) : drR rows n g t bg = tsR rows n g t := if_pos h
theorem dr_out {rows : List (List Int)} {n : Nat} {g : Nat → Nat → Int} {t : List Int} {bg : Int} (h : tsR rows n g t = 0) (h' : ¬ (0 ≤ bg ∧ bg ≤ 10000)) : drR rows n g t bg = 1 := by
  unfold drR
  rw [if_neg (by simpa using h), if_neg h']

section
variable (A A1 A2 : Option Addr) (c c1 c2 B : Nat) (rows : List (List Int)) (n : Nat) (g : Nat → Nat → Int) (t : List Int) (bg : Int) (w : World) (hB : B ≤ w.heap.size) (h : TblAt B w A rows) (hl : rows.length ≤ 30 ∧ ∀ r ∈ rows, r.length ≤ 30) (h1 : StAt B w A1 n g) (hn : n ≤ 1000)
    (h2 : IntsAt B w A2 t) (hm : t.length ≤ 1000) (hcap : t.length ≤ c2)
include hB h hl h1 hn h2 hm hcap

set_option maxRecDepth 100000 in
set_option maxHeartbeats 1000000 in
theorem Drive_any (hd : drR rows n g t bg = 0) :
    Calls Try.prog 37 #[.slice A rows.length c, .slice A1 n c1, .slice A2 t.length c2, .int .i64 bg] w fun e w' => ∃ A3 c3, e = .returned (.tuple #[.slice A3 t.length c3, .int .i64 (bkT (wy rows) g bg (toN t)), .int .i64 0]) ∧
      VisAt w'.heap.size w' A3 (wy rows) g bg (toN t) ∧ Below w.heap.size w w' := by
  obtain ⟨hts, hb0, hb1⟩ := dr_zero hd
  obtain ⟨⟨hv, hnr, hvs⟩, htu⟩ := ts_zero hts
  obtain ⟨hi, hs⟩ := tu_stp htu
  have cs := Lib.hid (stopped_any A A1 A2 c c1 c2 B rows n g t w hB h hl h1 hn h2 hm hcap)
  rw [hts] at cs
  obtain ⟨b, off, rfl, hwa⟩ := WaAt.of_tbl (h.below (Below.refl _ _) hB) hv
  have cd := Lib.hid (fun W (hW : Below w.heap.size w W) => drive_any b off rows.length c c1 c2 w.heap.size (wy rows) g A1 A2 (toN t) bg W hW.size (hwa.below hW (Nat.le_refl _)) hv.bd (by rw [← hnr]; exact (h1.below (Below.refl _ _) hB).below hW (Nat.le_refl _)) (by rw [← hnr]; exact hvs) (by rw [hi]; exact (h2.below (Below.refl _ _) hB).below hW (Nat.le_refl _)) (fun x hx => (hs.2 x hx).2) hv.n0 (by omega) (by rw [toN_length]; exact hm) ⟨hb0, hb1⟩)
  rw [← hnr, toN_length] at cd
  clear h hl h1 h2 hd hts hv hvs htu hi hs hwa
  rw [← hnr] at cs ⊢
  clear hnr
  go_enter Try.func37, Try.ntmps37
  go_wp2_with (first | (go_at_call 71; refine cs.out.mono ?_; rintro e w1 ⟨rfl, hb1⟩; have HB1 := Lib.hid hb1) | (go_at_call 72; refine (cd.out _ hb1).mono ?_; rintro e w2 ⟨A3, c3, rfl, ho, hb2⟩; have HO := Lib.hid ho; have HB2 := Lib.hid hb2; clear ho))
  go_ret3
  refine ⟨A3, c3, rfl, ?_, HB1.out.trans (HB2.out.mono HB1.out.size)⟩
  refine RowsAt.of_own (viT_row _ _ _ _ _) (c := c3) (base := w1.heap.size) (e := 55) ?_
  rw [viT_length, toN_length]
  exact HO.out

set_option maxRecDepth 100000 in
set_option maxHeartbeats 1000000 in
theorem Drive_bad (hd : drR rows n g t bg ≠ 0) :
    Calls Try.prog 37 #[.slice A rows.length c, .slice A1 n c1, .slice A2 t.length c2, .int .i64 bg] w fun e w' => e = .returned (.tuple #[.slice none 0 0, .int .i64 0, .int .i64 (drR rows n g t bg)]) ∧ Below w.heap.size w w' := by
  have cs := Lib.hid (stopped_any A A1 A2 c c1 c2 B rows n g t w hB h hl h1 hn h2 hm hcap)
  by_cases hts : tsR rows n g t = 0
  · by_cases hb : 0 ≤ bg ∧ bg ≤ 10000
    · exact absurd (by unfold drR; rw [if_neg (by simpa using hts), if_pos hb]) hd
    · rw [dr_out hts hb]
      rw [hts] at cs
      clear h hl h1 h2 hd hts
      by_cases hb1 : bg < 0
      · have hd1 : decide (bg < 0) = true := by simpa using hb1
        clear hb hb1
        go_enter Try.func37, Try.ntmps37
        go_wp2_with (first | (go_at_call 71; refine cs.out.mono ?_; rintro e w1 ⟨rfl, hb1⟩; have HB1 := Lib.hid hb1))
        go_ret3
        exact ⟨rfl, HB1.out⟩
      · have hd1 : decide (bg < 0) = false := by simpa using hb1
        have hd2 : decide (10000 < bg) = true := by simp; omega
        clear hb hb1
        go_enter Try.func37, Try.ntmps37
        go_wp2_with (first | (go_at_call 71; refine cs.out.mono ?_; rintro e w1 ⟨rfl, hb1⟩; have HB1 := Lib.hid hb1))
        go_ret3
        exact ⟨rfl, HB1.out⟩
  · rw [dr_ts hts]
    have hne : (tsR rows n g t != 0) = true := by simpa using hts
    generalize tsR rows n g t = e0 at cs hne ⊢
    clear h hl h1 h2 hd hts
    go_enter Try.func37, Try.ntmps37
    go_wp2_with (first | (go_at_call 71; refine cs.out.mono ?_; rintro e w1 ⟨rfl, hb1⟩; have HB1 := Lib.hid hb1))
    go_ret3
    exact ⟨rfl, HB1.out⟩

set_option maxRecDepth 100000 in
set_option maxHeartbeats 1000000 in
theorem Drive_ref (hd : drR rows n g t bg = 0) :
    Calls Try.prog 38 #[.slice A rows.length c, .slice A1 n c1, .slice A2 t.length c2, .int .i64 bg] w fun e w' => ∃ A3 c3, e = .returned (.tuple #[.slice A3 t.length c3, .int .i64 (bkT (wy rows) g bg (toN t)), .int .i64 0]) ∧
      VisAt w'.heap.size w' A3 (wy rows) g bg (toN t) ∧ Below w.heap.size w w' := by
  obtain ⟨hts, hb0, hb1⟩ := dr_zero hd
  obtain ⟨⟨hv, hnr, hvs⟩, htu⟩ := ts_zero hts
  obtain ⟨hi, hs⟩ := tu_stp htu
  have cs := Lib.hid (toured_ref A A1 A2 c c1 c2 B rows n g t w hB h hl h1 hn h2 hm hcap)
  rw [hts] at cs
  obtain ⟨b, off, rfl, hwa⟩ := WaAt.of_tbl (h.below (Below.refl _ _) hB) hv
  have cd := Lib.hid (fun W (hW : Below w.heap.size w W) => drive_ref b off rows.length c c1 c2 w.heap.size (wy rows) g A1 A2 (toN t) bg W hW.size (hwa.below hW (Nat.le_refl _)) hv.bd (by rw [← hnr]; exact (h1.below (Below.refl _ _) hB).below hW (Nat.le_refl _)) (by rw [← hnr]; exact hvs) (by rw [hi]; exact (h2.below (Below.refl _ _) hB).below hW (Nat.le_refl _)) (fun x hx => (hs.2 x hx).2) hv.n0 (by omega) (by rw [toN_length]; exact hm) ⟨hb0, hb1⟩)
  rw [← hnr, toN_length] at cd
  have i0 := inI_true (show 0 ≤ bg ∧ bg ≤ 10000 from ⟨hb0, hb1⟩)
  clear h hl h1 h2 hd hts hv hvs htu hi hs hwa
  rw [← hnr] at cs ⊢
  clear hnr
  go_enter Try.func38, Try.ntmps38
  go_wp2_with (first | (go_at_call 73; refine cs.out.mono ?_; rintro e w1 ⟨rfl, hb1⟩; have HB1 := Lib.hid hb1) | (go_at_call 60; refine (within_ref _ _ _ _).mono ?_; rintro e w9 ⟨rfl, hw9⟩; obtain rfl := hw9.symm; clear hw9) | (go_at_call 74; refine (cd.out _ HB1.out).mono ?_; rintro e w2 ⟨A3, c3, rfl, ho, hb2⟩; have HO := Lib.hid ho; have HB2 := Lib.hid hb2; clear ho))
  go_ret3
  refine ⟨A3, c3, rfl, ?_, HB1.out.trans (HB2.out.mono HB1.out.size)⟩
  refine RowsAt.of_own (viT_row _ _ _ _ _) (c := c3) (base := w1.heap.size) (e := 56) ?_
  rw [viT_length, toN_length]
  exact HO.out

set_option maxRecDepth 100000 in
set_option maxHeartbeats 1000000 in
theorem Drive_ref_bad (hd : drR rows n g t bg ≠ 0) :
    Calls Try.prog 38 #[.slice A rows.length c, .slice A1 n c1, .slice A2 t.length c2, .int .i64 bg] w fun e w' => e = .returned (.tuple #[.slice none 0 0, .int .i64 0, .int .i64 (drR rows n g t bg)]) ∧ Below w.heap.size w w' := by
  have cs := Lib.hid (toured_ref A A1 A2 c c1 c2 B rows n g t w hB h hl h1 hn h2 hm hcap)
  by_cases hts : tsR rows n g t = 0
  · by_cases hb : 0 ≤ bg ∧ bg ≤ 10000
    · exact absurd (by unfold drR; rw [if_neg (by simpa using hts), if_pos hb]) hd
    · rw [dr_out hts hb]
      rw [hts] at cs
      have i0 := inI_false hb
      clear h hl h1 h2 hd hts hb
      go_enter Try.func38, Try.ntmps38
      go_wp2_with (first | (go_at_call 73; refine cs.out.mono ?_; rintro e w1 ⟨rfl, hb1⟩; have HB1 := Lib.hid hb1) | (go_at_call 60; refine (within_ref _ _ _ _).mono ?_; rintro e w2 ⟨rfl, rfl⟩))
      go_ret3
      exact ⟨rfl, HB1.out⟩
  · rw [dr_ts hts]
    have hne : (tsR rows n g t != 0) = true := by simpa using hts
    generalize tsR rows n g t = e0 at cs hne ⊢
    clear h hl h1 h2 hd hts
    go_enter Try.func38, Try.ntmps38
    go_wp2_with (first | (go_at_call 73; refine cs.out.mono ?_; rintro e w1 ⟨rfl, hb1⟩; have HB1 := Lib.hid hb1))
    go_ret3
    exact ⟨rfl, HB1.out⟩
end

set_option maxRecDepth 100000 in
set_option maxHeartbeats 1000000 in
theorem many_any (A1 A2 : Option Addr) (n c1 m c2 : Nat) (bg : Int) (w : World) :
    Calls Try.prog 36 #[.agg #[.slice A1 n c1, .slice A2 m c2, .int .i64 bg]] w fun e w' => e = .returned (.bool (decide (60 < n) || decide (60 < m))) ∧ Below w.heap.size w w' := by
  by_cases h1 : 60 < n
  · have Hr := Lib.hid (show (decide (60 < n) || decide (60 < m)) = true by simp [h1])
    have hd : decide ((60 : Int) < (n : Int)) = true := by simp; omega
    go_enter Try.func36, Try.ntmps36
    go_wp2_with fail
    go_ret
    exact ⟨by rw [Hr.out]; rfl, (Below.refl _ _).alloc (Nat.le_refl _) _⟩
  · have hd : decide ((60 : Int) < (n : Int)) = false := by simp; omega
    by_cases h2 : 60 < m
    · have Hr := Lib.hid (show (decide (60 < n) || decide (60 < m)) = true by simp [h2])
      have hd2 : decide ((60 : Int) < (m : Int)) = true := by simp; omega
      go_enter Try.func36, Try.ntmps36
      go_wp2_with fail
      go_ret
      exact ⟨by rw [Hr.out]; rfl, (Below.refl _ _).alloc (Nat.le_refl _) _⟩
    · have Hr := Lib.hid (show (decide (60 < n) || decide (60 < m)) = false by simp [h1, h2])
      have hd2 : decide ((60 : Int) < (m : Int)) = false := by simp; omega
      go_enter Try.func36, Try.ntmps36
      go_wp2_with fail
      go_ret
      exact ⟨by rw [Hr.out]; rfl, (Below.refl _ _).alloc (Nat.le_refl _) _⟩
end Go.Proofs.Ytmodbpglopfghaa


set_option linter.unusedSimpArgs false
set_option linter.unusedVariables false
namespace Go.Proofs.Ytmodbpglopfghaa
open Go.RowKit

/-- Whether the k-th visit is too late. -/
def ltB (f g : Nat → Nat → Int) (b : Int) (t : List Nat) (k : Nat) : Bool := decide (g (t[k]?.getD 0) 1 < arr f g (nowT f g b t k) (atT t k) (t[k]?.getD 0))
theorem ltB_get {f g : Nat → Nat → Int} {b : Int} {t : List Nat} {k : Nat} (h : k < t.length) : ltB f g b t k = decide (g t[k] 1 < arr f g (nowT f g b t k) (atT t k) t[k]) := by
  simp [ltB, h]
/-- The place of the first visit that is too late, or -1. -/
def ltR (f g : Nat → Nat → Int) (b : Int) (t : List Nat) : Int := match (List.range t.length).find? (ltB f g b t) with
  | some k => ((k : Nat) : Int)
  | none => -1
theorem lt_some {f g : Nat → Nat → Int} {b : Int} {t : List Nat} {k : Nat} (hk : k < t.length) (h : ltB f g b t k = true) (h' : ∀ j, j < k → ltB f g b t j = false) : ltR f g b t = (k : Int) := by
  have : (List.range t.length).find? (ltB f g b t) = some k := by
    rw [List.find?_range_eq_some]
    exact ⟨h, by simpa using hk, fun j hj => by simp [h' j hj]⟩
  rw [ltR, this]
theorem lt_none {f g : Nat → Nat → Int} {b : Int} {t : List Nat} (h : ∀ k, k < t.length → ltB f g b t k = false) : ltR f g b t = -1 := by
  have : (List.range t.length).find? (ltB f g b t) = none := by
    rw [List.find?_eq_none]
    intro k hk
    simp [h k (by simpa using hk)]
  rw [ltR, this]
theorem lt_cases (f g : Nat → Nat → Int) (b : Int) (t : List Nat) : (ltR f g b t = -1 ∧ ∀ k, k < t.length → ltB f g b t k = false) ∨ ∃ k : Nat, k < t.length ∧ ltR f g b t = (k : Int) ∧ ltB f g b t k = true ∧ ∀ j, j < k → ltB f g b t j = false := by
  cases e : (List.range t.length).find? (ltB f g b t) with
  | none =>
    refine .inl ⟨by rw [ltR, e], fun k hk => ?_⟩
    rw [List.find?_eq_none] at e
    simpa using e k (by simpa using hk)
  | some k =>
    refine .inr ⟨k, ?_⟩
    have e' := e
    rw [List.find?_range_eq_some] at e'
    obtain ⟨h1, h2, h3⟩ := e'
    exact ⟨by simpa using h2, by rw [ltR, e], h1, fun j hj => by simpa using h3 j hj⟩

set_option maxRecDepth 100000 in
set_option maxHeartbeats 1000000 in
theorem late1_any (q : Nat) (A1 : Option Addr) (n c1 B : Nat) (g : Nat → Nat → Int) (x : Nat) (y z : Int) (w : World) (hB : B ≤ w.heap.size) (h1 : StAt B w A1 n g) (hx : x < n) (hn : n ≤ 1000) (hq : w.cell? ⟨q, 0, none⟩ = some (.slice A1 n c1)) :
    Calls Try.prog 96 #[.agg #[.int .i64 (x : Nat), .int .i64 y, .int .i64 z], .pointer (some ⟨q, 0, none⟩)] w fun e w' => e = .returned (.bool (decide (g x 1 < y))) ∧ Below w.heap.size w w' := by
  obtain ⟨b, off, rfl, hb, c0, c1', c2, c3⟩ := h1.at hx
  have hbw : b < w.heap.size := by omega
  have hqw : q < w.heap.size := cell_lt hq
  have hb0 : ∀ o, Below w.heap.size w (w.alloc o) := fun o => (Below.refl _ _).alloc (Nat.le_refl _) _
  have hxi : (x : Int) < (n : Int) := by omega
  have hx0 : (0 : Int) ≤ (x : Int) := by omega
  generalize g x 1 = p at c1' ⊢
  clear c0 c2 c3 h1
  go_enter Try.func96, Try.ntmps96
  go_wp2_with fail
  go_quiet (fail)
  go_wp2_with fail
  go_ret
  exact ⟨rfl, below_drewN (hb0 _) _⟩

set_option maxRecDepth 100000 in
set_option maxHeartbeats 1000000 in
theorem IndexFunc_late (q : Nat) (A1 A3 : Option Addr) (n c1 c3 B : Nat) (f g : Nat → Nat → Int) (bg : Int) (t : List Nat) (w : World) (hB : B ≤ w.heap.size) (h1 : StAt B w A1 n g) (ht : ∀ x ∈ t, x < n) (hn : n ≤ 1000) (hm : t.length ≤ 1000) (hv : VisAt B w A3 f g bg t) (hqB : q < w.heap.size) (hq : w.cell? ⟨q, 0, none⟩ = some (.slice A1 n c1)) :
    Calls Try.prog 95 #[.slice A3 t.length c3, .func (.func 96) #[] #[.pointer (some ⟨q, 0, none⟩)]] w fun e w' => e = .returned (.int .i64 (ltR f g bg t)) ∧ Below w.heap.size w w' := by
  have H1 := Lib.hid (show StAt w.heap.size w A1 n g from h1.below (Below.refl _ _) hB)
  have HV := Lib.hid (show VisAt w.heap.size w A3 f g bg t from hv.below (Below.refl _ _) hB)
  have Ht := Lib.hid ht
  have Hsome := Lib.hid (fun k hk h h' => lt_some (f := f) (g := g) (b := bg) (t := t) (k := k) hk h h')
  have Hnone := Lib.hid (fun h => lt_none (f := f) (g := g) (b := bg) (t := t) h)
  have Hget := Lib.hid (fun k (hk : k < t.length) => ltB_get (f := f) (g := g) (b := bg) hk)
  generalize ltR f g bg t = r at Hsome Hnone ⊢
  generalize ltB f g bg t = P at Hsome Hnone Hget
  clear h1 hv ht
  go_enter Try.func95, Try.ntmps95
  go_wp2_with fail
  go_loopw [8] (fun vk wr => ∃ k : Nat, k ≤ t.length ∧ vk = .int .i64 k ∧ (∀ j, j < k → P j = false) ∧ Below w.heap.size w wr) (fun vk _ => t.length - (intOf vk).toNat)
  case atStart => exact ⟨0, Nat.zero_le _, rfl, fun j hj => absurd hj (Nat.not_lt_zero j), Below.refl _ _⟩
  case round =>
    obtain ⟨k, hk, rfl, hn', hbr⟩ := hrel
    have HN := Lib.hid hn'
    have HBr := Lib.hid hbr
    clear hn' hbr
    by_cases hlt : k < t.length
    · obtain ⟨q3, o3, rfl, hq3, a0, a1, a2⟩ := (HV.out.below HBr.out (Nat.le_refl _)).at hlt
      have cs := Lib.hid (late1_any q A1 n c1 w.heap.size g t[k] (arr f g (nowT f g bg t k) (atT t k) t[k]) (arr f g (nowT f g bg t k) (atT t k) t[k] + g t[k] 2) wr HBr.out.size (H1.out.below HBr.out (Nat.le_refl _)) (Ht.out _ (List.getElem_mem hlt)) hn ((HBr.out.cell (p := ⟨q, 0, none⟩) hqB).trans hq))
      rw [← Hget.out k hlt] at cs
      have hkI : (k : Int) < (t.length : Int) := by omega
      have hk0 : (0 : Int) ≤ (k : Int) := by omega
      generalize arr f g (nowT f g bg t k) (atT t k) t[k] = y at cs a1 a2
      generalize y + g t[k] 2 = z at cs a2
      generalize t[k] = x at cs a0
      cases hp : P k with
      | true =>
        rw [hp] at cs
        have HR := Lib.hid (Hsome.out k hlt hp HN.out)
        clear hp
        go_wp2_with (go_at_call 96; refine cs.out.mono ?_; rintro e w3 ⟨rfl, hb3⟩)
        go_ret
        exact ⟨by rw [HR.out]; rfl, HBr.out.trans (hb3.mono HBr.out.size)⟩
      | false =>
        rw [hp] at cs
        have HN2 := Lib.hid (show ∀ j, j < k + 1 → P j = false from fun j hj => by
          by_cases e : j = k
          · subst e; exact hp
          · exact HN.out j (by omega))
        clear hp
        go_wp2_with (go_at_call 96; refine cs.out.mono ?_; rintro e w3 ⟨rfl, hb3⟩)
        go_roundw
        case rel => exact ⟨k + 1, by omega, by go_num, HN2.out, HBr.out.trans (hb3.mono HBr.out.size)⟩
        case measure => simp [intOf]; omega
    · obtain rfl : k = t.length := by omega
      have HR := Lib.hid (Hnone.out HN.out)
      go_wp2_with fail
      go_ret
      exact ⟨by rw [HR.out]; rfl, HBr.out⟩

set_option maxRecDepth 100000 in
set_option maxHeartbeats 1000000 in
theorem late_any (A1 A3 : Option Addr) (n c1 c3 B : Nat) (f g : Nat → Nat → Int) (bg : Int) (t : List Nat) (w : World) (hB : B ≤ w.heap.size) (h1 : StAt B w A1 n g) (ht : ∀ x ∈ t, x < n) (hn : n ≤ 1000) (hm : t.length ≤ 1000) (hv : VisAt B w A3 f g bg t) :
    Calls Try.prog 76 #[.slice A1 n c1, .slice A3 t.length c3] w fun e w' => e = .returned (.int .i64 (ltR f g bg t)) ∧ Below w.heap.size w w' := by
  have hB0 : Below w.heap.size w (w.alloc (.cells #[.slice A1 n c1] 43)) := (Below.refl _ _).alloc (Nat.le_refl _) _
  have cc := Lib.hid (IndexFunc_late w.heap.size A1 A3 n c1 c3 w.heap.size f g bg t (w.alloc (.cells #[.slice A1 n c1] 43)) hB0.size ((h1.below (Below.refl _ _) hB).below hB0 (Nat.le_refl _)) ht hn hm ((hv.below (Below.refl _ _) hB).below hB0 (Nat.le_refl _)) (by simp) (blk1 (Blk.new w 43 #[.slice A1 n c1])).1)
  have HB0 := Lib.hid hB0
  clear h1 hv hB0
  go_enter Try.func76, Try.ntmps76
  go_wp2_with (go_at_call 95; refine cc.out.mono ?_; rintro e w3 ⟨rfl, hb3⟩)
  go_ret
  exact ⟨rfl, HB0.out.trans (hb3.mono HB0.out.size)⟩

set_option maxRecDepth 100000 in
set_option maxHeartbeats 1000000 in
theorem check_ref (b off n c c1 c2 B : Nat) (f g : Nat → Nat → Int) (A1 A2 : Option Addr) (t : List Nat) (bg : Int) (w : World) (hB : B ≤ w.heap.size) (h : WaAt B w b off n f) (hf : ∀ i j, i < n → j < n → 0 ≤ f i j ∧ f i j ≤ 1000) (h1 : StAt B w A1 n g) (hg : VS n g)
    (h2 : IntsAt B w A2 (intL t)) (ht : ∀ x ∈ t, x < n) (hn : 1 ≤ n) (hn7 : n ≤ 1000) (hm : t.length ≤ 1000) (hbg : 0 ≤ bg ∧ bg ≤ 10000) :
    Calls Try.prog 77 #[.slice (some ⟨b, off, none⟩) n c, .slice A1 n c1, .slice A2 t.length c2, .int .i64 bg] w fun e w' => e = .returned (.tuple #[.int .i64 (if ltR f g bg t = -1 then bkT f g bg t else ltR f g bg t), .bool (decide (ltR f g bg t = -1))]) ∧ Below w.heap.size w w' := by
  have cd := Lib.hid (drive_ref b off n c c1 c2 B f g A1 A2 t bg w hB h hf h1 hg h2 ht hn hn7 hm hbg)
  have H1 := Lib.hid (show StAt w.heap.size w A1 n g from h1.below (Below.refl _ _) hB)
  have Ht := Lib.hid ht
  have Hsome := Lib.hid (fun k hk h h' => lt_some (f := f) (g := g) (b := bg) (t := t) (k := k) hk h h')
  have Hnone := Lib.hid (fun h => lt_none (f := f) (g := g) (b := bg) (t := t) h)
  have Hget := Lib.hid (fun k (hk : k < t.length) => ltB_get (f := f) (g := g) (b := bg) hk)
  have HVo := Lib.hid (fun (A3 : Option Addr) (c3 : Nat) (W : World) (ho : W.ownsRow w.heap.size 56 3 (.slice A3 t.length c3) t.length ((viT f g bg t t.length).flatMap fun r => r.map (Value.int .i64))) => show VisAt W.heap.size W A3 f g bg t from RowsAt.of_own (viT_row _ _ _ _ _) (c := c3) (base := w.heap.size) (e := 56) (by rw [viT_length]; exact ho))
  generalize ltR f g bg t = r at Hsome Hnone ⊢
  generalize ltB f g bg t = P at Hsome Hnone Hget
  generalize bkT f g bg t = bk at cd ⊢
  clear h h1 h2 ht hf hg
  obtain ⟨v, hv⟩ : ∃ v, (if r = -1 then bk else r) = v := ⟨_, rfl⟩
  obtain ⟨ok, hk⟩ : ∃ ok, decide (r = -1) = ok := ⟨_, rfl⟩
  rw [hv, hk]
  have Hv := Lib.hid (And.intro hv hk)
  clear hv hk
  go_enter Try.func77, Try.ntmps77
  go_wp2_with (go_at_call 74; refine cd.out.mono ?_; rintro e w2 ⟨A3, c3, rfl, ho, hb2⟩; have HV := Lib.hid (HVo.out _ _ _ ho); clear ho)
  go_loopw [12] (fun vk wr => ∃ k : Nat, k ≤ t.length ∧ vk = .int .i64 k ∧ (∀ j, j < k → P j = false) ∧ Below w2.heap.size w2 wr) (fun vk _ => t.length - (intOf vk).toNat)
  case atStart => exact ⟨0, Nat.zero_le _, rfl, fun j hj => absurd hj (Nat.not_lt_zero j), Below.refl _ _⟩
  case round =>
    obtain ⟨k, hk, rfl, hn', hbr⟩ := hrel
    have HN := Lib.hid hn'
    have HBr := Lib.hid (hb2.trans (hbr.mono hb2.size))
    have HBx := Lib.hid hbr
    clear hn' hbr
    by_cases hlt : k < t.length
    · obtain ⟨q3, o3, rfl, hq3, a0, a1, _⟩ := (HV.out.below HBx.out (Nat.le_refl _)).at hlt
      have hx := Ht.out _ (List.getElem_mem hlt)
      obtain ⟨b3, o3', rfl, hb3, _, g1, _, _⟩ := (H1.out.below HBr.out (Nat.le_refl _)).at hx
      have hget := Hget.out k hlt
      have hkI : (k : Int) < (t.length : Int) := by omega
      have hk0 : (0 : Int) ≤ (k : Int) := by omega
      generalize arr f g (nowT f g bg t k) (atT t k) t[k] = y at hget a1
      generalize t[k] = x at hget a0 hx g1
      generalize g x 1 = p at hget g1
      have hxi : (x : Int) < (n : Int) := by omega
      have hx0 : (0 : Int) ≤ (x : Int) := by omega
      cases hp : P k with
      | true =>
        rw [hp] at hget
        have hd := hget.symm
        have HR := Lib.hid (Hsome.out k hlt hp HN.out)
        clear hp hget
        go_wp2_with fail
        go_quiet (fail)
        go_wp2_with fail
        go_ret2
        refine ⟨?_, below_drewN HBr.out _⟩
        have hr := HR.out
        have e1 : v = (k : Int) := by rw [← Hv.out.1, hr, if_neg (by omega)]
        have e2 : ok = false := by rw [← Hv.out.2]; exact decide_eq_false (by omega)
        rw [e1, e2]; rfl
      | false =>
        rw [hp] at hget
        have hd := hget.symm
        have HN2 := Lib.hid (show ∀ j, j < k + 1 → P j = false from fun j hj => by
          by_cases e : j = k
          · subst e; exact hp
          · exact HN.out j (by omega))
        clear hp hget
        go_wp2_with fail
        go_quiet (fail)
        go_wp2_with fail
        go_roundw
        case rel => exact ⟨k + 1, by omega, by go_num, HN2.out, below_drewN HBx.out _⟩
        case measure => simp [intOf]; omega
    · obtain rfl : k = t.length := by omega
      have HR := Lib.hid (Hnone.out HN.out)
      go_wp2_with fail
      go_ret2
      refine ⟨?_, HBr.out⟩
      have hr := HR.out
      have e1 : v = bk := by rw [← Hv.out.1, if_pos hr]
      have e2 : ok = true := by rw [← Hv.out.2]; exact decide_eq_true hr
      rw [e1, e2]; rfl
end Go.Proofs.Ytmodbpglopfghaa


set_option linter.unusedSimpArgs false
set_option linter.unusedVariables false
namespace Go.Proofs.Ytmodbpglopfghaa
open Go.RowKit

noncomputable def ckE (rows : List (List Int)) (n : Nat) (g : Nat → Nat → Int) (t : List Int) (bg : Int) : Int := if drR rows n g t bg ≠ 0 then drR rows n g t bg else if ltR (wy rows) g bg (toN t) = -1 then 0 else 10
noncomputable def ckV (rows : List (List Int)) (n : Nat) (g : Nat → Nat → Int) (t : List Int) (bg : Int) : Int := if drR rows n g t bg ≠ 0 then 0 else if ltR (wy rows) g bg (toN t) = -1 then bkT (wy rows) g bg (toN t) else ltR (wy rows) g bg (toN t)
section
variable {rows : List (List Int)} {n : Nat} {g : Nat → Nat → Int} {t : List Int} {bg : Int}
theorem ck_bad (h : drR rows n g t bg ≠ 0) : ckV rows n g t bg = 0 ∧ ckE rows n g t bg = drR rows n g t bg := ⟨if_pos h, if_pos h⟩
theorem ck_ok (h : drR rows n g t bg = 0) (h' : ltR (wy rows) g bg (toN t) = -1) : ckV rows n g t bg = bkT (wy rows) g bg (toN t) ∧ ckE rows n g t bg = 0 := by
  unfold ckV ckE
  rw [if_neg (by simpa using h), if_pos h', if_neg (by simpa using h), if_pos h']
  exact ⟨rfl, rfl⟩
theorem ck_late (h : drR rows n g t bg = 0) (h' : ltR (wy rows) g bg (toN t) ≠ -1) : ckV rows n g t bg = ltR (wy rows) g bg (toN t) ∧ ckE rows n g t bg = 10 := by
  unfold ckV ckE
  rw [if_neg (by simpa using h), if_neg h', if_neg (by simpa using h), if_neg h']
  exact ⟨rfl, rfl⟩
end

section
variable (A A1 A2 : Option Addr) (c c1 c2 B : Nat) (rows : List (List Int)) (n : Nat) (g : Nat → Nat → Int) (t : List Int) (bg : Int) (w : World) (hB : B ≤ w.heap.size) (h : TblAt B w A rows) (hl : rows.length ≤ 30 ∧ ∀ r ∈ rows, r.length ≤ 30) (h1 : StAt B w A1 n g) (hn : n ≤ 1000)
    (h2 : IntsAt B w A2 t) (hm : t.length ≤ 1000) (hcap : t.length ≤ c2)
include hB h hl h1 hn h2 hm hcap

set_option maxRecDepth 100000 in
set_option maxHeartbeats 1000000 in
theorem Check_any :
    Calls Try.prog 44 #[.slice A rows.length c, .slice A1 n c1, .slice A2 t.length c2, .int .i64 bg] w fun e w' => e = .returned (.tuple #[.int .i64 (ckV rows n g t bg), .int .i64 (ckE rows n g t bg)]) ∧ Below w.heap.size w w' := by
  by_cases hd : drR rows n g t bg = 0
  · have cd := Lib.hid (Drive_any A A1 A2 c c1 c2 B rows n g t bg w hB h hl h1 hn h2 hm hcap hd)
    obtain ⟨hts, hb0, hb1⟩ := dr_zero hd
    obtain ⟨⟨hv, hnr, hvs⟩, htu⟩ := ts_zero hts
    obtain ⟨hi, hs⟩ := tu_stp htu
    have cl := Lib.hid (fun (A3 : Option Addr) (c3 : Nat) (W : World) (hW : Below w.heap.size w W) (hV : VisAt W.heap.size W A3 (wy rows) g bg (toN t)) => late_any A1 A3 n c1 c3 W.heap.size (wy rows) g bg (toN t) W (Nat.le_refl _) ((h1.below (Below.refl _ _) hB).below hW hW.size) (by rw [hnr]; exact fun x hx => (hs.2 x hx).2) hn (by rw [toN_length]; exact hm) hV)
    rw [toN_length] at cl
    rcases lt_cases (wy rows) g bg (toN t) with ⟨hr, _⟩ | ⟨k, hk, hr, _⟩
    · have Hr := Lib.hid (ck_ok hd hr)
      rw [hr] at cl
      clear h hl h1 h2 hd hts hv hvs htu hi hs hr hnr
      go_enter Try.func44, Try.ntmps44
      go_wp2_with (first | (go_at_call 37; refine cd.out.mono ?_; rintro e w1 ⟨A3, c3, rfl, hV, hb1⟩; have HV := Lib.hid hV; clear hV) | (go_at_call 76; refine (cl.out _ _ _ hb1 HV.out).mono ?_; rintro e w2 ⟨rfl, hb2⟩))
      go_ret2
      exact ⟨by rw [Hr.out.1, Hr.out.2]; rfl, hb1.trans (hb2.mono hb1.size)⟩
    · have Hr := Lib.hid (ck_late hd (show ltR (wy rows) g bg (toN t) ≠ -1 by omega))
      have HK := Lib.hid hr
      rw [hr] at cl
      have hk0 : (0 : Int) ≤ (k : Int) := by omega
      clear h hl h1 h2 hd hts hv hvs htu hi hs hr hnr hk
      go_enter Try.func44, Try.ntmps44
      go_wp2_with (first | (go_at_call 37; refine cd.out.mono ?_; rintro e w1 ⟨A3, c3, rfl, hV, hb1⟩; have HV := Lib.hid hV; clear hV) | (go_at_call 76; refine (cl.out _ _ _ hb1 HV.out).mono ?_; rintro e w2 ⟨rfl, hb2⟩))
      go_ret2
      exact ⟨by rw [Hr.out.1, Hr.out.2, HK.out]; rfl, hb1.trans (hb2.mono hb1.size)⟩
  · have cd := Lib.hid (Drive_bad A A1 A2 c c1 c2 B rows n g t bg w hB h hl h1 hn h2 hm hcap hd)
    have Hr := Lib.hid (ck_bad hd)
    have hne : (drR rows n g t bg != 0) = true := by simpa using hd
    generalize drR rows n g t bg = e0 at cd Hr hne
    clear h hl h1 h2 hd
    go_enter Try.func44, Try.ntmps44
    go_wp2_with (go_at_call 37; refine cd.out.mono ?_; rintro e w1 ⟨rfl, hb1⟩)
    go_ret2
    exact ⟨by rw [Hr.out.1, Hr.out.2]; rfl, hb1⟩

set_option maxRecDepth 100000 in
set_option maxHeartbeats 1000000 in
theorem Check_ref :
    Calls Try.prog 43 #[.slice A rows.length c, .slice A1 n c1, .slice A2 t.length c2, .int .i64 bg] w fun e w' => e = .returned (.tuple #[.int .i64 (ckV rows n g t bg), .int .i64 (ckE rows n g t bg)]) ∧ Below w.heap.size w w' := by
  have cs := Lib.hid (toured_ref A A1 A2 c c1 c2 B rows n g t w hB h hl h1 hn h2 hm hcap)
  by_cases hd : drR rows n g t bg = 0
  · obtain ⟨hts, hb0, hb1⟩ := dr_zero hd
    obtain ⟨⟨hv, hnr, hvs⟩, htu⟩ := ts_zero hts
    obtain ⟨hi, hs⟩ := tu_stp htu
    rw [hts] at cs
    have i0 := inI_true (show 0 ≤ bg ∧ bg ≤ 10000 from ⟨hb0, hb1⟩)
    obtain ⟨b, off, rfl, hwa⟩ := WaAt.of_tbl (h.below (Below.refl _ _) hB) hv
    have cd := Lib.hid (fun W (hW : Below w.heap.size w W) => check_ref b off rows.length c c1 c2 w.heap.size (wy rows) g A1 A2 (toN t) bg W hW.size (hwa.below hW (Nat.le_refl _)) hv.bd (by rw [← hnr]; exact (h1.below (Below.refl _ _) hB).below hW (Nat.le_refl _)) (by rw [← hnr]; exact hvs) (by rw [hi]; exact (h2.below (Below.refl _ _) hB).below hW (Nat.le_refl _)) (fun x hx => (hs.2 x hx).2) hv.n0 (by omega) (by rw [toN_length]; exact hm) ⟨hb0, hb1⟩)
    rw [← hnr, toN_length] at cd
    rcases lt_cases (wy rows) g bg (toN t) with ⟨hr, _⟩ | ⟨k, hk, hr, _⟩
    · have Hr := Lib.hid (ck_ok hd hr)
      rw [if_pos hr, decide_eq_true hr] at cd
      clear h hl h1 h2 hd hts hv hvs htu hi hs hr hwa
      rw [← hnr] at cs ⊢
      clear hnr
      go_enter Try.func43, Try.ntmps43
      go_wp2_with (first | (go_at_call 73; refine cs.out.mono ?_; rintro e w1 ⟨rfl, hb1⟩; have HB1 := Lib.hid hb1) | (go_at_call 60; refine (within_ref _ _ _ _).mono ?_; rintro e w9 ⟨rfl, hw9⟩; obtain rfl := hw9.symm; clear hw9) | (go_at_call 77; refine (cd.out _ HB1.out).mono ?_; rintro e w2 ⟨rfl, hb2⟩))
      go_ret2
      exact ⟨by rw [Hr.out.1, Hr.out.2]; rfl, HB1.out.trans (hb2.mono HB1.out.size)⟩
    · have Hr := Lib.hid (ck_late hd (show ltR (wy rows) g bg (toN t) ≠ -1 by omega))
      rw [if_neg (by omega), decide_eq_false (by omega)] at cd
      generalize ltR (wy rows) g bg (toN t) = r at cd Hr
      clear h hl h1 h2 hd hts hv hvs htu hi hs hr hwa
      rw [← hnr] at cs ⊢
      clear hnr
      go_enter Try.func43, Try.ntmps43
      go_wp2_with (first | (go_at_call 73; refine cs.out.mono ?_; rintro e w1 ⟨rfl, hb1⟩; have HB1 := Lib.hid hb1) | (go_at_call 60; refine (within_ref _ _ _ _).mono ?_; rintro e w9 ⟨rfl, hw9⟩; obtain rfl := hw9.symm; clear hw9) | (go_at_call 77; refine (cd.out _ HB1.out).mono ?_; rintro e w2 ⟨rfl, hb2⟩))
      go_ret2
      exact ⟨by rw [Hr.out.1, Hr.out.2]; rfl, HB1.out.trans (hb2.mono HB1.out.size)⟩
  · have Hr := Lib.hid (ck_bad hd)
    by_cases hts : tsR rows n g t = 0
    · by_cases hb : 0 ≤ bg ∧ bg ≤ 10000
      · exact absurd (by unfold drR; rw [if_neg (by simpa using hts), if_pos hb]) hd
      · rw [dr_out hts hb] at Hr
        rw [hts] at cs
        have i0 := inI_false hb
        clear h hl h1 h2 hd hts hb
        go_enter Try.func43, Try.ntmps43
        go_wp2_with (first | (go_at_call 73; refine cs.out.mono ?_; rintro e w1 ⟨rfl, hb1⟩; have HB1 := Lib.hid hb1) | (go_at_call 60; refine (within_ref _ _ _ _).mono ?_; rintro e w2 ⟨rfl, rfl⟩))
        go_ret2
        exact ⟨by rw [Hr.out.1, Hr.out.2]; rfl, HB1.out⟩
    · rw [dr_ts hts] at Hr
      have hne : (tsR rows n g t != 0) = true := by simpa using hts
      generalize tsR rows n g t = e0 at cs hne Hr
      clear h hl h1 h2 hd hts
      go_enter Try.func43, Try.ntmps43
      go_wp2_with (first | (go_at_call 73; refine cs.out.mono ?_; rintro e w1 ⟨rfl, hb1⟩; have HB1 := Lib.hid hb1))
      go_ret2
      exact ⟨by rw [Hr.out.1, Hr.out.2]; rfl, HB1.out⟩
end

set_option maxRecDepth 100000 in
set_option maxHeartbeats 4000000 in
theorem checks_law (A A1 A2 : Option Addr) (c c1 c2 : Nat) (rows : List (List Int)) (n : Nat) (g : Nat → Nat → Int) (t : List Int) (bg : Int) (w : World) (h : TblAt w.heap.size w A rows) (h1 : StAt w.heap.size w A1 n g) (h2 : IntsAt w.heap.size w A2 t) (hcap : t.length ≤ c2) :
    Calls Try.prog 12 #[.slice A rows.length c, .agg #[.slice A1 n c1, .slice A2 t.length c2, .int .i64 bg]] w fun e w' => e = .returned (.bool true) ∧ Below w.heap.size w w' := by
  have cl := Lib.hid (fun W (hW : Below w.heap.size w W) => Large_any A c w.heap.size rows W (h.below hW (Nat.le_refl _)))
  have cg := Lib.hid (fun W => many_any A1 A2 n c1 t.length c2 bg W)
  rcases lg2 (lgW rows) (decide (60 < n) || decide (60 < t.length)) with hlg | ⟨hlg, hlo⟩ | ⟨hlg, hlo⟩
  · rw [hlg] at cl
    clear h h1 h2 hlg
    go_enter Try.func12, Try.ntmps12
    have HB0 := Lib.hid (((Below.refl _ _).alloc (Nat.le_refl _) (.cells #[.slice A1 n c1, .slice A2 t.length c2, .int .i64 bg] 45) : Below w.heap.size w _))
    go_wp2_with (first | (go_at_call 17; refine (cl.out _ HB0.out).mono ?_; rintro e w1 ⟨rfl, hw1⟩; obtain rfl := hw1.symm; clear hw1) | (go_at_call 18; refine (known_any _).mono ?_; rintro e w5 ⟨rfl, hb5⟩))
    go_ret
    exact ⟨rfl, HB0.out.trans (hb5.mono HB0.out.size)⟩
  · rw [hlg] at cl
    rw [hlo] at cg
    clear h h1 h2 hlg hlo
    go_enter Try.func12, Try.ntmps12
    have HB0 := Lib.hid (((Below.refl _ _).alloc (Nat.le_refl _) (.cells #[.slice A1 n c1, .slice A2 t.length c2, .int .i64 bg] 45) : Below w.heap.size w _))
    go_wp2_with (first | (go_at_call 17; refine (cl.out _ HB0.out).mono ?_; rintro e w1 ⟨rfl, hw1⟩; obtain rfl := hw1.symm; clear hw1) | (go_at_call 36; refine (cg.out _).mono ?_; rintro e w1 ⟨rfl, hb1⟩) | (go_at_call 18; refine (known_any _).mono ?_; rintro e w5 ⟨rfl, hb5⟩))
    go_ret
    exact ⟨rfl, HB0.out.trans ((hb1.mono HB0.out.size).trans (hb5.mono (Nat.le_trans HB0.out.size hb1.size)))⟩
  · rw [hlg] at cl
    rw [hlo] at cg
    have hl := lgW_small hlg
    have hn : n ≤ 60 := by simp at hlo; omega
    have hm : t.length ≤ 60 := by simp at hlo; omega
    have cv := Lib.hid (fun W (hW : Below w.heap.size w W) => Check_any A A1 A2 c c1 c2 w.heap.size rows n g t bg W hW.size (h.below hW (Nat.le_refl _)) hl (h1.below hW (Nat.le_refl _)) (by omega) (h2.below hW (Nat.le_refl _)) (by omega) hcap)
    have cvr := Lib.hid (fun W (hW : Below w.heap.size w W) => Check_ref A A1 A2 c c1 c2 w.heap.size rows n g t bg W hW.size (h.below hW (Nat.le_refl _)) hl (h1.below hW (Nat.le_refl _)) (by omega) (h2.below hW (Nat.le_refl _)) (by omega) hcap)
    clear h h1 h2 hlg hlo hl
    generalize ckV rows n g t bg = v at cv cvr
    generalize ckE rows n g t bg = e0 at cv cvr
    go_enter Try.func12, Try.ntmps12
    go_wp2_with fail
    generalize hW0 : w.alloc (.cells #[.slice A1 n c1, .slice A2 t.length c2, .int .i64 bg] 45) = W0
    have HBk := Lib.hid (show Blk W0 w.heap.size 45 #[.slice A1 n c1, .slice A2 t.length c2, .int .i64 bg] by rw [← hW0]; exact Blk.new _ _ _)
    have hB0 : Below w.heap.size w W0 := by rw [← hW0]; exact (Below.refl _ _).alloc (Nat.le_refl _) _
    have HB0 := Lib.hid hB0
    have HBs := Lib.hid (show ∀ W, Below W0.heap.size W0 W → Below w.heap.size w W from fun W hW => HB0.out.trans (hW.mono HB0.out.size))
    have HCs := Lib.hid (show ∀ W, Below W0.heap.size W0 W → W.cell? ⟨w.heap.size, 0, none⟩ = some (.slice A1 n c1) ∧ W.cell? ⟨w.heap.size, 1, none⟩ = some (.slice A2 t.length c2) ∧ W.cell? ⟨w.heap.size, 2, none⟩ = some (.int .i64 bg) from fun W hW => by
      obtain ⟨q0, q1, q2, _⟩ := blk3 (HBk.out.below hW HBk.out.lt)
      exact ⟨q0, q1, q2⟩)
    obtain ⟨k0, k1, k2⟩ := HCs.out _ (Below.refl _ _)
    clear hW0 hB0
    go_wp2_with (first
      | (go_at_call 17; refine (cl.out _ HB0.out).mono ?_; rintro e w1 ⟨rfl, hw1⟩; obtain rfl := hw1.symm; clear hw1)
      | (go_at_call 36; refine (cg.out _).mono ?_; rintro e w1 ⟨rfl, hb1⟩; clear k0 k1 k2; obtain ⟨k0, k1, k2⟩ := HCs.out _ hb1)
      | (go_at_call 44; refine (cv.out _ (HBs.out _ hb1)).mono ?_; rintro e w2 ⟨rfl, hb2⟩; have hB2 := hb1.trans (hb2.mono hb1.size); clear k0 k1 k2; obtain ⟨k0, k1, k2⟩ := HCs.out _ hB2)
      | (go_at_call 43; refine (cvr.out _ (HBs.out _ hB2)).mono ?_; rintro e w3 ⟨rfl, hb3⟩; have hB3 := hB2.trans (hb3.mono hB2.size))
      | (go_at_call 18; refine (known_any _).mono ?_; rintro e w9 ⟨rfl, hb9⟩))
    go_ret
    exact ⟨rfl, HBs.out _ (hB3.trans (hb9.mono hB3.size))⟩
end Go.Proofs.Ytmodbpglopfghaa


namespace Go.Proofs.Ytmodbpglopfghaa
open Go.RowKit Go.ChangeShapes Go.WideShapes Go.ChangeAt Go.Deep

section
variable {H : Type} {enc : TypeId × Value → H} {P : Program} {W : World} {base : Nat} {sp : Nat → Bool} {held : Bool} {t e : TypeId} {cs : List Value} {x : DataW H × List MemPlace}

/-- The cells of a struct of one-cell fields. -/
theorem struct_fields {fs : Array Field} {n : Nat} {cs' : List Value} {y : DataW H × List MemPlace} (hs : P.underlying e = some (.struct fs)) (hone : oneCellFields P fs = true) (hC : P.cellsOf e = fs.size)
    (h : DataW.trod enc P W base sp held n e cs' = some y) :
    cs'.length = fs.size ∧ ∀ j (hj : j < fs.size), ∃ n' y' v, cs'[j]? = some v ∧ DataW.trod enc P W base sp held n' fs[j].type [v] = some y' := by
  obtain ⟨ys, n', _, _, hlen, _, hf⟩ := DataW.trod_struct hs h
  rw [hC] at hlen
  refine ⟨hlen, fun j hj => ?_⟩
  have hfj : fs[j]? = some fs[j] := Array.getElem?_eq_getElem hj
  obtain ⟨ho, hk⟩ := hone_of hone j fs[j] hfj
  have h1 := hf j fs[j] hfj
  rw [ho, hk] at h1
  have hv : cs'[j]? = some (cs'[j]'(by omega)) := List.getElem?_eq_getElem (by omega)
  have hone' : (cs'.drop j).take 1 = [cs'[j]'(by omega)] := by
    rw [List.drop_eq_getElem_cons (by omega)]; rfl
  rw [hone'] at h1
  cases hy : DataW.trod enc P W base sp held n' fs[j].type [cs'[j]'(by omega)] with
  | none =>
    rw [hy] at h1
    have := ‹ys.length = fs.size›
    rw [List.getElem?_eq_getElem (by omega)] at h1; cases h1
  | some y' => exact ⟨n', y', _, hv, hy⟩
end

theorem arr3 {cs : Array Value} {v0 v1 v2 : Value} (hl : cs.toList.length = 3) (h0 : cs.toList[0]? = some v0) (h1 : cs.toList[1]? = some v1) (h2 : cs.toList[2]? = some v2) : cs = #[v0, v1, v2] := by
  obtain ⟨l⟩ := cs
  match l, hl with
  | [a, b, c], _ =>
    simp only [List.getElem?_cons_zero, List.getElem?_cons_succ, Option.some.injEq] at h0 h1 h2
    subst h0 h1 h2; rfl
section
variable {H : Type} {enc : TypeId × Value → H} {W : World} {base b0 : Nat} {sp : Nat → Bool} {held : Bool} {cs : List Value} {x : DataW H × List MemPlace}
set_option maxRecDepth 100000 in
/-- A trip by value. -/
theorem open_trip {r : Reach} {v : Value} {d : DataW H} {p : List MemPlace} (hv : Value.okWide Try.prog W r b0 45 v) (h : DataW.Trod enc Try.prog W base sp held 45 v d p) :
    ∃ AS cS n, ∃ g : Nat → Nat → Int, ∃ AT cT, ∃ t : List Int, ∃ bg, v = .agg #[.slice AS n cS, .slice AT t.length cT, .int .i64 bg] ∧ StAt W.heap.size W AS n g ∧ IntsAt W.heap.size W AT t ∧ t.length ≤ cT ∧ cT ≤ maxLen := by
  obtain ⟨cs, rfl, hsz⟩ := okWide_struct Try.underlying45 hv
  obtain ⟨fuel, hf⟩ := h
  simp only [Value.cells] at hf
  obtain ⟨hlen, hz⟩ := struct_fields Try.underlying45 (by kernel_rfl) (by kernel_rfl) hf
  obtain ⟨n0, y0, v0, c0, t0⟩ := hz 0 (by decide)
  obtain ⟨n1, y1, v1, c1, t1⟩ := hz 1 (by decide)
  obtain ⟨n2, y2, v2, c2, t2⟩ := hz 2 (by decide)
  obtain rfl := arr3 hlen c0 c1 c2
  obtain ⟨q, rfl, _⟩ := trod_int_inv Try.underlying3 t2
  obtain ⟨AS, cS, n, g, e0, i0, _, _⟩ := open_rowsAt Try.underlying43 Try.underlying89 (by kernel_rfl) (by kernel_rfl) (by decide) (by intro f hf; simp only [List.mem_cons, List.not_mem_nil, or_false] at hf; rcases hf with rfl | rfl | rfl | rfl <;> exact Try.underlying3) t0
  obtain ⟨AT, cT, z, e1, i1, _, _, m1, m2⟩ := open_intsCap Try.underlying28 Try.underlying3 (by kernel_rfl) t1
  obtain rfl := List.singleton_inj.1 e0
  obtain rfl := List.singleton_inj.1 e1
  exact ⟨AS, cS, n, g, AT, cT, z, q, rfl, i0, i1, m1, m2⟩
end
end Go.Proofs.Ytmodbpglopfghaa


set_option linter.unusedSimpArgs false
set_option linter.unusedVariables false
namespace Go.Proofs.Ytmodbpglopfghaa
open Go.RowKit

theorem uptN65_frm (n : Nat) : uptN65 n = frm 1 n := by
  unfold uptN65 frm
  rw [List.range'_eq_map_range]
  apply List.map_congr_left
  intro x _
  omega
theorem exts_tour {n : Nat} {s : List Nat} : s ∈ exts (n - 1) [] (frm 1 n) ↔ Tour n s := by
  rw [exts_mem _ _ _ (frm_length 1 n)]
  constructor
  · rintro ⟨p, hp, rfl⟩
    simpa using frm_tour hp
  · intro h
    exact ⟨s, h.perm, by simp⟩

/-- The earliest of some tours: -1 if none keeps its windows. -/
def ErIs (ok : List Nat → Bool) (bk : List Nat → Int) (P : List Nat → Prop) (z : Int) : Prop :=
  (z = -1 ∧ ∀ t, P t → ok t = false) ∨ (0 ≤ z ∧ (∃ t, P t ∧ ok t = true ∧ bk t = z) ∧ ∀ t, P t → ok t = true → z ≤ bk t)
section
variable {ok : List Nat → Bool} {bk : List Nat → Int} {P P' : List Nat → Prop} {z y : Int} {t : List Nat}
theorem ErIs.nil : ErIs ok bk (fun _ => False) (-1) := .inl ⟨rfl, fun _ h => h.elim⟩
theorem ErIs.congr (h : ErIs ok bk P z) (e : ∀ t, P t ↔ P' t) : ErIs ok bk P' z := by
  have : P = P' := by funext x; exact propext (e x)
  rw [← this]; exact h
theorem ErIs.skip (h : ErIs ok bk P z) (hs : ok t = false ∨ (0 ≤ z ∧ z ≤ bk t)) : ErIs ok bk (fun s => P s ∨ s = t) z := by
  rcases h with ⟨rfl, h1⟩ | ⟨h0, ⟨s, hs1, hs2, hs3⟩, h2⟩
  · refine .inl ⟨rfl, fun s hs' => ?_⟩
    rcases hs' with h | rfl
    · exact h1 s h
    · rcases hs with h | ⟨h, _⟩
      · exact h
      · exact absurd h (by decide)
  · refine .inr ⟨h0, ⟨s, .inl hs1, hs2, hs3⟩, fun s' hs' hok => ?_⟩
    rcases hs' with h | rfl
    · exact h2 s' h hok
    · rcases hs with h | ⟨_, h⟩
      · rw [h] at hok; cases hok
      · exact h
theorem ErIs.take (h : ErIs ok bk P z) (hok : ok t = true) (hz : z < 0 ∨ bk t < z) (h0 : 0 ≤ bk t) : ErIs ok bk (fun s => P s ∨ s = t) (bk t) := by
  refine .inr ⟨h0, ⟨t, .inr rfl, hok, rfl⟩, fun s hs hos => ?_⟩
  rcases hs with hs | rfl
  · rcases h with ⟨rfl, h1⟩ | ⟨h0', _, h2⟩
    · rw [h1 s hs] at hos; cases hos
    · have := h2 s hs hos
      omega
  · exact Int.le_refl _
theorem ErIs.unique (h : ErIs ok bk P z) (h' : ErIs ok bk P y) : z = y := by
  rcases h with ⟨rfl, h1⟩ | ⟨h0, ⟨t, ht1, ht2, ht3⟩, h2⟩
  · rcases h' with ⟨rfl, _⟩ | ⟨_, ⟨t, ht1, ht2, _⟩, _⟩
    · rfl
    · rw [h1 t ht1] at ht2; cases ht2
  · rcases h' with ⟨rfl, h1⟩ | ⟨_, ⟨s, hs1, hs2, hs3⟩, h3⟩
    · rw [h1 t ht1] at ht2; cases ht2
    · have a1 := h2 s hs1 hs2
      have a2 := h3 t ht1 ht2
      omega
end
/-- A tour of all stops keeps its windows; when it is back. -/
def okT (f g : Nat → Nat → Int) (bg : Int) (t : List Nat) : Bool := decide (ltR f g bg t = -1)
theorem bkT_nn {n : Nat} {f g : Nat → Nat → Int} {bg : Int} {t : List Nat} (hf : ∀ i j, i < n → j < n → 0 ≤ f i j ∧ f i j ≤ 1000) (hg : VS n g) (h : ∀ x ∈ t, x < n) (hn : 1 ≤ n) (hb : 0 ≤ bg ∧ bg ≤ 10000) : 0 ≤ bkT f g bg t ∧ bkT f g bg t ≤ 11000 + 21000 * (t.length : Int) := by
  have h1 := nowT_bd hf hg h hn hb t.length (Nat.le_refl _)
  have h2 := hf _ 0 (atT_lt h hn t.length) hn
  unfold bkT
  omega
/-- A drive takes no less than the ways. -/
theorem nowT_len {n : Nat} {f g : Nat → Nat → Int} {bg : Int} {t : List Nat} (hg : VS n g) (h : ∀ x ∈ t, x < n) : ∀ k, k ≤ t.length → bg + lnT f t k ≤ nowT f g bg t k
  | 0, _ => by rw [lnT_zero]; simp [nowT]
  | k + 1, hk => by
    have ih := nowT_len (f := f) (bg := bg) hg h k (by omega)
    have h3 := (hg _ (h t[k] (List.getElem_mem (by omega)))).1 2 (by omega)
    rw [nowT_succ (by omega), lnT_succ (by omega)]
    unfold arr
    omega
theorem bkT_len {n : Nat} {f g : Nat → Nat → Int} {bg : Int} {t : List Nat} (hg : VS n g) (h : ∀ x ∈ t, x < n) : bg + lenF f 0 t ≤ bkT f g bg t := by
  have := nowT_len (f := f) (bg := bg) hg h t.length (Nat.le_refl _)
  rw [lnT_all]
  unfold bkT
  omega
end Go.Proofs.Ytmodbpglopfghaa


set_option linter.unusedSimpArgs false
set_option linter.unusedVariables false
namespace Go.Proofs.Ytmodbpglopfghaa
open Go.RowKit

/-- What is found behind some tours. -/
structure ErSt (W0 : World) (q3 q4 N0 : Nat) (ok : List Nat → Bool) (bk : List Nat → Int) (done : List (List Nat)) (W : World) : Prop where
  fr : Fr (fun i => i = q3 ∨ i = q4) W0 W
  st : ∃ (z : Int) (Ab : Option Addr) (m cb : Nat), Blk W q4 3 #[.int .i64 z] ∧ Blk W q3 28 #[.slice Ab m cb] ∧ ErIs ok bk (fun t => t ∈ done) z ∧
    (0 ≤ z → ∃ t, t ∈ done ∧ ok t = true ∧ bk t = z ∧ m = t.length ∧ IntsAt W.heap.size W Ab (intL t) ∧ m ≤ cb ∧ cb ≤ maxLen ∧ ∀ q, Ab = some q → N0 ≤ q.block)
section
variable {W0 W W' : World} {q3 q4 N0 : Nat} {ok : List Nat → Bool} {bk : List Nat → Int} {done : List (List Nat)}
theorem ErSt.below (h : ErSt W0 q3 q4 N0 ok bk done W) (hb : Below W.heap.size W W') : ErSt W0 q3 q4 N0 ok bk done W' := by
  obtain ⟨fr, z, Ab, m, cb, kz, kb, hE, hs⟩ := h
  refine ⟨fr.trans (Fr.of_below hb), z, Ab, m, cb, kz.below hb kz.lt, kb.below hb kb.lt, hE, fun hz => ?_⟩
  obtain ⟨t, h1, h2, h3, h4, h5, h6⟩ := hs hz
  exact ⟨t, h1, h2, h3, h4, h5.below hb hb.size, h6⟩
theorem ErSt.put {g : Nat} (h : ErSt W0 q3 q4 N0 ok bk done W) (hg : W0.heap.size ≤ g) (hgN : g < N0) (h3 : q3 < W0.heap.size) (h4 : q4 < W0.heap.size) (v : Value) : ErSt W0 q3 q4 N0 ok bk done (W.setCell ⟨g, 0, none⟩ v) := by
  obtain ⟨fr, z, Ab, m, cb, kz, kb, hE, hs⟩ := h
  refine ⟨putNew65 fr hg 0 v, z, Ab, m, cb, kz.far (p := ⟨g, 0, none⟩) (by simp; omega) v, kb.far (p := ⟨g, 0, none⟩) (by simp; omega) v, hE, fun hz => ?_⟩
  obtain ⟨t, h1, h2, h3, h4, h5, h6, h7, h8⟩ := hs hz
  have hf : Fr (fun i => i = g) W (W.setCell ⟨g, 0, none⟩ v) := Fr.put (X := fun i => i = g) (Fr.refl _ W) rfl v
  exact ⟨t, h1, h2, h3, h4, hf.ints (fun q hq e => by have := h8 q hq; omega) h5, h6, h7, h8⟩
end

section
variable (b off n c c1 : Nat) (f g : Nat → Nat → Int) (A1 : Option Addr) (bg : Int) (q0 q1 q2 q3 q4 N0 : Nat) (W0 : World)
set_option maxRecDepth 100000 in
set_option maxHeartbeats 2000000 in
theorem acc_earliest (hw : WaAt q3 W0 b off n f) (hf : ∀ i j, i < n → j < n → 0 ≤ f i j ∧ f i j ≤ 1000) (hS : StAt q3 W0 A1 n g) (hg : VS n g) (hn : 1 ≤ n) (hn7 : n ≤ 7) (hbg : 0 ≤ bg ∧ bg ≤ 10000)
    (k0 : W0.cell? ⟨q0, 0, none⟩ = some (.slice (some ⟨b, off, none⟩) n c)) (k1 : W0.cell? ⟨q1, 0, none⟩ = some (.slice A1 n c1)) (k2 : W0.cell? ⟨q2, 0, none⟩ = some (.int .i64 bg))
    (h03 : q0 < q3) (h13 : q1 < q3) (h23 : q2 < q3) (h34 : q3 < q4) (h4 : q4 < W0.heap.size) (hN0 : W0.heap.size ≤ N0) :
    Acc75 N0 #[.pointer (some ⟨q0, 0, none⟩), .pointer (some ⟨q1, 0, none⟩), .pointer (some ⟨q2, 0, none⟩), .pointer (some ⟨q4, 0, none⟩), .pointer (some ⟨q3, 0, none⟩)] (fun i => i = q3 ∨ i = q4) (fun _ => false) (Tour n) (ErSt W0 q3 q4 N0 (okT f g bg) (bkT f g bg)) := by
  intro t A c' W done hok hI hN hA hc hcm hAb
  obtain ⟨fr, z, Ab, m, cb, kz, kb, hE, hbest⟩ := hI
  have hlen := hok.2
  have hb : Below q3 W0 W := fr.below (by omega) (fun i hi h => by omega)
  have hq3 : q3 ≤ W.heap.size := by have := fr.size; omega
  have cd := Lib.hid (drive_any b off n c c1 c' W.heap.size f g A1 A t bg W (Nat.le_refl _) (hw.below hb hq3) hf (hS.below hb hq3) hg hA (fun x hx => (hok.1.2 x hx).2) hn (by omega) (by omega) hbg)
  have HVo := Lib.hid (fun (A3 : Option Addr) (c3 : Nat) (W1 : World) (ho : W1.ownsRow W.heap.size 55 3 (.slice A3 t.length c3) t.length ((viT f g bg t t.length).flatMap fun r => r.map (Value.int .i64))) => show VisAt W1.heap.size W1 A3 f g bg t from RowsAt.of_own (viT_row _ _ _ _ _) (c := c3) (base := W.heap.size) (e := 55) (by rw [viT_length]; exact ho))
  have cl := Lib.hid (fun (A3 : Option Addr) (c3 : Nat) (W1 : World) (hW : Below W.heap.size W W1) (hV : VisAt W1.heap.size W1 A3 f g bg t) => late_any A1 A3 n c1 c3 W1.heap.size f g bg t W1 (Nat.le_refl _) ((hS.below hb hq3).below hW hW.size) (fun x hx => (hok.1.2 x hx).2) (by omega) (by omega) hV)
  have m0 := (hb.cell (p := ⟨q0, 0, none⟩) h03).trans k0
  have m1 := (hb.cell (p := ⟨q1, 0, none⟩) h13).trans k1
  have m2 := (hb.cell (p := ⟨q2, 0, none⟩) h23).trans k2
  have Hm1 := Lib.hid m1
  have Hkz := Lib.hid kz
  have Hkb := Lib.hid kb
  have Hst := Lib.hid (show ∀ W2, Below W.heap.size W W2 → (ltR f g bg t = -1 ∧ (z < 0 ∨ bkT f g bg t < z) → ErSt W0 q3 q4 N0 (okT f g bg) (bkT f g bg) (done ++ [t]) ((W2.setCell ⟨q3, 0, none⟩ (.slice A t.length c')).setCell ⟨q4, 0, none⟩ (.int .i64 (bkT f g bg t)))) ∧
      (ltR f g bg t ≠ -1 ∨ (0 ≤ z ∧ z ≤ bkT f g bg t) → ErSt W0 q3 q4 N0 (okT f g bg) (bkT f g bg) (done ++ [t]) W2) from fun W2 hW => by
    refine ⟨fun ⟨h1, h2⟩ => ?_, fun h1 => ?_⟩
    · have hbt := (bkT_nn hf hg (fun x hx => (hok.1.2 x hx).2) hn hbg (t := t)).1
      have e1 := (kb.below hW kb.lt).put 0 (.slice A t.length c')
      have e2 : Blk (W2.setCell ⟨q3, 0, none⟩ (.slice A t.length c')) q4 3 #[.int .i64 z] := (kz.below hW kz.lt).far (p := ⟨q3, 0, none⟩) (by simp; omega) _
      have hf2 : Fr (fun i => i = q3 ∨ i = q4) W ((W2.setCell ⟨q3, 0, none⟩ (.slice A t.length c')).setCell ⟨q4, 0, none⟩ (.int .i64 (bkT f g bg t))) := ((Fr.of_below hW).put (.inl rfl) _).put (.inr rfl) _
      refine ⟨fr.trans hf2, bkT f g bg t, A, t.length, c', e2.put 0 _, e1.far (p := ⟨q4, 0, none⟩) (by simp; omega) _, (hE.take (decide_eq_true h1) h2 hbt).congr (fun s => by simp), fun _ => ⟨t, by simp, decide_eq_true h1, rfl, rfl, hf2.ints (fun q hq e => by have := hAb q hq; omega) hA, hc, hcm, hAb⟩⟩
    · refine ⟨fr.trans (Fr.of_below hW), z, Ab, m, cb, kz.below hW kz.lt, kb.below hW kb.lt, (hE.skip (t := t) (by
        rcases h1 with h | h
        · exact .inl (decide_eq_false h)
        · exact .inr h)).congr (fun s => by simp), fun hz => ?_⟩
      obtain ⟨s, s1, s2, s3, s4, s5, s6⟩ := hbest hz
      exact ⟨s, by simp [s1], s2, s3, s4, s5.below hW hW.size, s6⟩)
  have hr := lt_cases f g bg t
  have hr2 : ltR f g bg t = -1 ∨ 0 ≤ ltR f g bg t := by rcases hr with h | ⟨k, _, h, _⟩ <;> omega
  have Hfr := Lib.hid (show ∀ W2, Below W.heap.size W W2 → Fr (fun i => i = q3 ∨ i = q4) W W2 from fun W2 hW => Fr.of_below hW)
  have HX := Lib.hid (show ∀ W2 u v, Below W.heap.size W W2 → Fr (fun i => i = q3 ∨ i = q4) W ((W2.setCell ⟨q3, 0, none⟩ u).setCell ⟨q4, 0, none⟩ v) from fun W2 u v hW => ((Fr.of_below hW).put (.inl rfl) _).put (.inr rfl) _)
  have hq3l := kb.lt
  have hq4l := kz.lt
  have hq1l : q1 < W.heap.size := by omega
  clear hw hf hS hg k0 k1 k2 hok fr kz kb hE hbest hA hAb hb hr
  generalize ltR f g bg t = r at cl Hst hr2
  generalize bkT f g bg t = bk at cd Hst
  have hne34 : q3 ≠ q4 := by omega
  clear h03 h13 h23 h34 h4 hN0 hN hq3 hlen
  rcases hr2 with h1 | h1
  · subst h1
    have d1 : decide ((-1 : Int) < 0) = true := rfl
    by_cases hz : z < 0
    · have d2 : decide (z < 0) = true := decide_eq_true hz
      have HS := Lib.hid (fun W2 hW => (Hst.out W2 hW).1 ⟨rfl, .inl hz⟩)
      clear Hst hz
      go_enter Try.func75, Try.ntmps75
      go_wp2_with (first
        | (go_at_call 72; refine cd.out.mono ?_; rintro e w1 ⟨A3, c3, rfl, ho, hb1⟩; have HV := Lib.hid (HVo.out _ _ _ ho); clear ho; have m1' := (hb1.cell (p := ⟨q1, 0, none⟩) hq1l).trans Hm1.out)
        | (go_at_call 76; refine (cl.out _ _ _ hb1 HV.out).mono ?_; rintro e w2 ⟨rfl, hb2⟩; have hB2 := hb1.trans (hb2.mono hb1.size); obtain ⟨j4, z4⟩ := blk1 (Hkz.out.below hB2 hq4l); obtain ⟨j3, z3⟩ := blk1 (Hkb.out.below hB2 hq3l)))
      go_ret
      exact ⟨rfl, fun _ => HS.out _ hB2, HX.out _ _ _ hB2⟩
    · have d2 : decide (z < 0) = false := decide_eq_false hz
      by_cases hk : bk < z
      · have d3 : decide (bk < z) = true := decide_eq_true hk
        have HS := Lib.hid (fun W2 hW => (Hst.out W2 hW).1 ⟨rfl, .inr hk⟩)
        clear Hst hz hk
        go_enter Try.func75, Try.ntmps75
        go_wp2_with (first
          | (go_at_call 72; refine cd.out.mono ?_; rintro e w1 ⟨A3, c3, rfl, ho, hb1⟩; have HV := Lib.hid (HVo.out _ _ _ ho); clear ho; have m1' := (hb1.cell (p := ⟨q1, 0, none⟩) hq1l).trans Hm1.out)
          | (go_at_call 76; refine (cl.out _ _ _ hb1 HV.out).mono ?_; rintro e w2 ⟨rfl, hb2⟩; have hB2 := hb1.trans (hb2.mono hb1.size); obtain ⟨j4, z4⟩ := blk1 (Hkz.out.below hB2 hq4l); obtain ⟨j3, z3⟩ := blk1 (Hkb.out.below hB2 hq3l)))
        go_ret
        exact ⟨rfl, fun _ => HS.out _ hB2, HX.out _ _ _ hB2⟩
      · have d3 : decide (bk < z) = false := decide_eq_false hk
        have HS := Lib.hid (fun W2 hW => (Hst.out W2 hW).2 (.inr ⟨by omega, by omega⟩))
        clear Hst hz hk
        go_enter Try.func75, Try.ntmps75
        go_wp2_with (first
          | (go_at_call 72; refine cd.out.mono ?_; rintro e w1 ⟨A3, c3, rfl, ho, hb1⟩; have HV := Lib.hid (HVo.out _ _ _ ho); clear ho; have m1' := (hb1.cell (p := ⟨q1, 0, none⟩) hq1l).trans Hm1.out)
          | (go_at_call 76; refine (cl.out _ _ _ hb1 HV.out).mono ?_; rintro e w2 ⟨rfl, hb2⟩; have hB2 := hb1.trans (hb2.mono hb1.size); obtain ⟨j4, z4⟩ := blk1 (Hkz.out.below hB2 hq4l); obtain ⟨j3, z3⟩ := blk1 (Hkb.out.below hB2 hq3l)))
        go_ret
        exact ⟨rfl, fun _ => HS.out _ hB2, Hfr.out _ hB2⟩
  · have d1 : decide (r < 0) = false := decide_eq_false (by omega)
    have HS := Lib.hid (fun W2 hW => (Hst.out W2 hW).2 (.inl (by omega)))
    clear Hst h1
    go_enter Try.func75, Try.ntmps75
    go_wp2_with (first
      | (go_at_call 72; refine cd.out.mono ?_; rintro e w1 ⟨A3, c3, rfl, ho, hb1⟩; have HV := Lib.hid (HVo.out _ _ _ ho); clear ho; have m1' := (hb1.cell (p := ⟨q1, 0, none⟩) hq1l).trans Hm1.out)
      | (go_at_call 76; refine (cl.out _ _ _ hb1 HV.out).mono ?_; rintro e w2 ⟨rfl, hb2⟩; have hB2 := hb1.trans (hb2.mono hb1.size); obtain ⟨j4, z4⟩ := blk1 (Hkz.out.below hB2 hq4l); obtain ⟨j3, z3⟩ := blk1 (Hkb.out.below hB2 hq3l)))
    go_ret
    exact ⟨rfl, fun _ => HS.out _ hB2, Hfr.out _ hB2⟩
end
end Go.Proofs.Ytmodbpglopfghaa


set_option linter.unusedSimpArgs false
set_option linter.unusedVariables false
namespace Go.Proofs.Ytmodbpglopfghaa
open Go.RowKit

/-- The error of ways, stops and a beginning. -/
noncomputable def erR (rows : List (List Int)) (n : Nat) (g : Nat → Nat → Int) (bg : Int) : Int := if vsR rows n g ≠ 0 then vsR rows n g else if 0 ≤ bg ∧ bg ≤ 10000 then 0 else 1
section
variable {rows : List (List Int)} {n : Nat} {g : Nat → Nat → Int} {bg : Int}
theorem er_vs (h : vsR rows n g ≠ 0) : erR rows n g bg = vsR rows n g := if_pos h
theorem er_out (h : vsR rows n g = 0) (h' : ¬ (0 ≤ bg ∧ bg ≤ 10000)) : erR rows n g bg = 1 := by
  unfold erR
  rw [if_neg (by simpa using h), if_neg h']
theorem er_zero (h : erR rows n g bg = 0) : vsR rows n g = 0 ∧ 0 ≤ bg ∧ bg ≤ 10000 := by
  by_cases h1 : vsR rows n g = 0
  · by_cases h2 : 0 ≤ bg ∧ bg ≤ 10000
    · exact ⟨h1, h2⟩
    · rw [er_out h1 h2] at h; cases h
  · rw [er_vs h1] at h; exact absurd h h1
end

theorem results_tmp4 {fn : Func} {t u v x : Tmp} (h : fn.results = #[.tmp t, .tmp u, .tmp v, .tmp x]) (tmps : Array Value) (P : Program) (w : World) :
    (results fn tmps).run P w = .ok (.tuple #[tmps.getD t undef, tmps.getD u undef, tmps.getD v undef, tmps.getD x undef]) w := by
  simp [results, h]
section
variable (A A1 : Option Addr) (c c1 B : Nat) (rows : List (List Int)) (n : Nat) (g : Nat → Nat → Int) (bg : Int) (w : World) (hB : B ≤ w.heap.size) (h : TblAt B w A rows) (hl : rows.length ≤ 30 ∧ ∀ r ∈ rows, r.length ≤ 30) (h1 : StAt B w A1 n g) (hn : n ≤ 1000)
include hB h hl h1 hn

set_option maxRecDepth 100000 in
set_option maxHeartbeats 2000000 in
theorem Earliest_any (he : erR rows n g bg = 0) :
    Calls Try.prog 41 #[.slice A rows.length c, .slice A1 n c1, .int .i64 bg] w fun e w' => ∃ z A2 m c2, e = .returned (.tuple #[.slice A2 m c2, .int .i64 (max z 0), .bool (decide (0 ≤ z)), .int .i64 0]) ∧ ErIs (okT (wy rows) g bg) (bkT (wy rows) g bg) (Tour rows.length) z ∧
      (z < 0 → m = 0) ∧ (0 ≤ z → ∃ t, Tour rows.length t ∧ okT (wy rows) g bg t = true ∧ bkT (wy rows) g bg t = z ∧ m = t.length ∧ IntsAt w'.heap.size w' A2 (intL t) ∧ m ≤ c2) ∧ Below w.heap.size w w' := by
  obtain ⟨hvs, hb0, hb1⟩ := er_zero he
  obtain ⟨hv, hnr, hs⟩ := vs_zero hvs
  have hT := h.below (Below.refl _ _) hB
  have hS := h1.below (Below.refl _ _) hB
  have cv := Lib.hid (fun W (hW : Below w.heap.size w W) => ValidateStops_any A A1 c c1 w.heap.size rows n g W hW.size (hT.below hW (Nat.le_refl _)) hl.2 (hS.below hW (Nat.le_refl _)) hn)
  rw [hvs] at cv
  obtain ⟨b, off, rfl, hwa⟩ := WaAt.of_tbl hT hv
  have hn0 := hv.n0
  have hn7 := hv.n1
  have HAc := Lib.hid (fun (q0 q1 q2 q3 q4 N0 : Nat) (W0 : World) (hW : Below w.heap.size w W0) (hq : w.heap.size ≤ q3) => acc_earliest b off rows.length c c1 (wy rows) g A1 bg q0 q1 q2 q3 q4 N0 W0 (hwa.below hW hq) hv.bd (by rw [← hnr]; exact hS.below hW hq) (by rw [← hnr]; exact hs) hn0 hn7 ⟨hb0, hb1⟩)
  have d1 : decide (bg < 0) = false := decide_eq_false (by omega)
  have d2 : decide (10000 < bg) = false := decide_eq_false (by omega)
  clear h hl h1 hT hS hwa hs hv hvs he hb0 hb1
  generalize okT (wy rows) g bg = ok at HAc ⊢
  generalize bkT (wy rows) g bg = bk at HAc ⊢
  rw [← hnr] at cv HAc hn0 hn7 ⊢
  clear hnr
  go_enter Try.func41, Try.ntmps41
  go_wp2_with fail
  generalize hW0 : ((w.alloc (.cells #[.slice (some ⟨b, off, none⟩) n c] 22)).alloc (.cells #[.slice A1 n c1] 43)).alloc (.cells #[.int .i64 bg] 3) = W0
  have HK0 := Lib.hid (show Blk W0 w.heap.size 22 #[.slice (some ⟨b, off, none⟩) n c] by rw [← hW0]; exact ((Blk.new _ _ _).alloc _).alloc _)
  have HK1 := Lib.hid (show Blk W0 (w.heap.size + 1) 43 #[.slice A1 n c1] by rw [← hW0]; exact (blk_new' (by simp)).alloc _)
  have HK2 := Lib.hid (show Blk W0 (w.heap.size + 1 + 1) 3 #[.int .i64 bg] by rw [← hW0]; exact blk_new' (by simp))
  have hB0 : Below w.heap.size w W0 := by rw [← hW0]; exact (((Below.refl _ _).alloc (Nat.le_refl _) _).alloc (by simp) _).alloc (by simp; omega) _
  have HB0 := Lib.hid hB0
  have HCs := Lib.hid (show ∀ W, Below W0.heap.size W0 W → W.cell? ⟨w.heap.size, 0, none⟩ = some (.slice (some ⟨b, off, none⟩) n c) ∧ W.cell? ⟨w.heap.size + 1, 0, none⟩ = some (.slice A1 n c1) ∧ W.cell? ⟨w.heap.size + 1 + 1, 0, none⟩ = some (.int .i64 bg) from fun W hW =>
    ⟨(blk1 (HK0.out.below hW HK0.out.lt)).1, (blk1 (HK1.out.below hW HK1.out.lt)).1, (blk1 (HK2.out.below hW HK2.out.lt)).1⟩)
  have HS0 := Lib.hid HK2.out.lt
  obtain ⟨k3, k4, k5⟩ := HCs.out _ (Below.refl _ _)
  clear hW0 hB0
  go_wp2_with (go_at_call 39; refine (cv.out _ HB0.out).mono ?_; rintro e w1 ⟨rfl, hb1⟩; clear k3 k4 k5; obtain ⟨k3, k4, k5⟩ := HCs.out _ hb1; have hsz1 : w.heap.size < w1.heap.size := by have := HS0.out; have := hb1.size; omega)
  generalize hW2 : (w1.alloc (.cells #[.slice none 0 0] 28)).alloc (.cells #[.int .i64 (-1)] 3) = W2
  have hb12 : Below w1.heap.size w1 W2 := by rw [← hW2]; exact ((Below.refl _ _).alloc (Nat.le_refl _) _).alloc (by simp) _
  have hb2 : Below W0.heap.size W0 W2 := hb1.trans (hb12.mono hb1.size)
  have hbw : Below w.heap.size w W2 := HB0.out.trans (hb2.mono HB0.out.size)
  have hk3 : Blk W2 w1.heap.size 28 #[.slice none 0 0] := by rw [← hW2]; exact (Blk.new _ _ _).alloc _
  have hk4 : Blk W2 (w1.heap.size + 1) 3 #[.int .i64 (-1)] := by rw [← hW2]; exact blk_new' (by simp)
  obtain ⟨m0, m1, m2⟩ := HCs.out _ hb2
  have hs0 := HS0.out
  have hs1 := hb1.size
  have hacc := HAc.out w.heap.size (w.heap.size + 1) (w.heap.size + 1 + 1) w1.heap.size (w1.heap.size + 1) (W2.heap.size + 3) W2 hbw (by omega) m0 m1 m2 (by omega) (by omega) (by omega) (by omega) hk4.lt (by omega)
  have hs := search75_any #[.pointer (some ⟨w.heap.size, 0, none⟩), .pointer (some ⟨w.heap.size + 1, 0, none⟩), .pointer (some ⟨w.heap.size + 1 + 1, 0, none⟩), .pointer (some ⟨w1.heap.size + 1, 0, none⟩), .pointer (some ⟨w1.heap.size, 0, none⟩)] (fun i => i = w1.heap.size ∨ i = w1.heap.size + 1) (fun _ => false) (Tour n) (ErSt W2 w1.heap.size (w1.heap.size + 1) (W2.heap.size + 3) ok bk) (some ⟨b, off, none⟩) n c W2 (by omega) (fun i h => by have := hk3.lt; have := hk4.lt; omega)
    (fun _ W W' h h' => h.below h') hacc (fun _ W h hs => h.put (by omega) (by omega) hk3.lt hk4.lt _) (fun s hs => by rw [show uptN75 n = frm 1 n from uptN65_frm n] at hs; exact exts_tour.1 hs)
    ⟨Fr.refl _ _, -1, none, 0, 0, hk4, hk3, .inl ⟨rfl, fun t ht => by simp at ht⟩, fun h => absurd h (by decide)⟩
  refine hs.mono ?_
  rintro e w4 ⟨A2, mm2, c2, rfl, hf, h4⟩
  rw [show uptN75 n = frm 1 n from uptN65_frm n] at h4
  have h5 : ErSt W2 w1.heap.size (w1.heap.size + 1) (W2.heap.size + 3) ok bk (exts (n - 1) [] (frm 1 n)) w4 := by
    rcases h4 with ⟨_, _, _, _, h⟩ | ⟨s, _, h, _⟩
    · exact h
    · cases h
  obtain ⟨_, z, Ab, m, cb, kz, kb, hE, hbst⟩ := h5
  have HE := Lib.hid (hE.congr (P' := Tour n) fun t => exts_tour)
  have HBt := Lib.hid (show 0 ≤ z → ∃ t, Tour n t ∧ ok t = true ∧ bk t = z ∧ m = t.length ∧ IntsAt w4.heap.size w4 Ab (intL t) ∧ m ≤ cb from fun hz => by
    obtain ⟨t, h1, h2, h3, h6, h7, h8, _⟩ := hbst hz
    exact ⟨t, exts_tour.1 h1, h2, h3, h6, h7, h8⟩)
  have HF := Lib.hid (hbw.trans (hf.below (B := w.heap.size) (by have := hbw.size; omega) (fun i hi h => by omega)))
  have Hkz := Lib.hid kz
  have Hkb := Lib.hid kb
  obtain ⟨j4, _⟩ := blk1 kz
  obtain ⟨j3, _⟩ := blk1 kb
  have hq3 := kb.lt
  have hq4 := kz.lt
  clear h4 hf hE hbst hs hacc hb12 hb2 hbw hW2 hk3 hk4 m0 m1 m2 kz kb k3 k4 k5 hb1 hs0 hs1 hsz1
  by_cases hz : z < 0
  · have d3 : decide (z < 0) = true := decide_eq_true hz
    have HZ := Lib.hid hz
    clear hz
    go_wp2_with fail
    (try simp only [Exit.inBlock, Exit.then])
    refine bodyPost_ret (results_tmp4 rfl _ _ _) rfl ?_
    exact ⟨z, none, 0, 0, by rw [Int.max_eq_right (by have := HZ.out; omega), decide_eq_false (by have := HZ.out; omega)]; rfl, HE.out, fun _ => rfl, fun h => absurd h (by have := HZ.out; omega), HF.out⟩
  · have d3 : decide (z < 0) = false := decide_eq_false hz
    have HZ := Lib.hid (show 0 ≤ z by omega)
    obtain ⟨t, h1, h2, h3, h6, h7, h8⟩ := HBt.out HZ.out
    have hml : m ≤ 1000 := by rw [h6, h1.2]; omega
    have ccl := Lib.hid (fun W (hW : Below w4.heap.size w4 W) => clone_any Ab cb W.heap.size (intL t) W (by rw [intL_length, ← h6]; omega) (h7.below hW hW.size))
    rw [intL_length, ← h6] at ccl
    have HT := Lib.hid (And.intro h1 (And.intro h2 (And.intro h3 h6)))
    have Keep := Lib.hid (fun W (hW : Below w4.heap.size w4 W) => show W.cell? ⟨w1.heap.size, 0, none⟩ = some (.slice Ab m cb) ∧ W.cell? ⟨w1.heap.size + 1, 0, none⟩ = some (.int .i64 z) ∧ Below w4.heap.size w4 W from ⟨(blk1 (Hkb.out.below hW hq3)).1, (blk1 (Hkz.out.below hW hq4)).1, hW⟩)
    clear hz h1 h2 h3 h6 h7 h8 HBt
    go_wp2_with fail
    go_region_held3 (fun W => W.cell? ⟨w1.heap.size, 0, none⟩ = some (.slice Ab m cb) ∧ W.cell? ⟨w1.heap.size + 1, 0, none⟩ = some (.int .i64 z) ∧ Below w4.heap.size w4 W)
      ((refine Keep.out _ ?_; repeat (first | exact Below.refl _ _ | assumption | refine Below.drew ?_)))
      (first
        | (go_at_call 61; refine (ccl.out _ (by repeat (first | exact Below.refl _ _ | assumption | refine Below.drew ?_))).mono ?_; rintro e w5 ⟨v, rfl, ho, hd5⟩; obtain ⟨A5, c5, rfl⟩ := own_form ho; have HO5 := Lib.hid ho; clear ho; have hb5 : Below w4.heap.size w4 w5 := Below.trans (by repeat (first | exact Below.refl _ _ | assumption | refine Below.drew ?_)) (hd5.mono (Below.size (w := w4) (B := w4.heap.size) (by repeat (first | exact Below.refl _ _ | assumption | refine Below.drew ?_)))); clear hd5))
    all_goals
      have HB5 := Lib.hid hb5
      clear hb5
      go_wp2_with fail
      (try simp only [Exit.inBlock, Exit.then])
      refine bodyPost_ret (results_tmp4 rfl _ _ _) rfl ?_
      obtain ⟨h1, h2, h3, h6⟩ := HT.out
      refine ⟨z, A5, m, c5, by rw [Int.max_eq_left HZ.out, decide_eq_true HZ.out]; rfl, HE.out, fun h => absurd h (by have := HZ.out; omega), fun _ => ⟨t, h1, h2, h3, h6, ?_, (own_caps HO5.out).1⟩, HF.out.trans (HB5.out.mono HF.out.size)⟩
      exact IntsAt.of_own (zs := intL t) (by rw [intL_length, ← h6]; exact HO5.out)

set_option maxRecDepth 100000 in
set_option maxHeartbeats 1000000 in
theorem Earliest_bad (he : erR rows n g bg ≠ 0) :
    Calls Try.prog 41 #[.slice A rows.length c, .slice A1 n c1, .int .i64 bg] w fun e w' => e = .returned (.tuple #[.slice none 0 0, .int .i64 0, .bool false, .int .i64 (erR rows n g bg)]) ∧ Below w.heap.size w w' := by
  have hT := h.below (Below.refl _ _) hB
  have hS := h1.below (Below.refl _ _) hB
  have cv := Lib.hid (fun W (hW : Below w.heap.size w W) => ValidateStops_any A A1 c c1 w.heap.size rows n g W hW.size (hT.below hW (Nat.le_refl _)) hl.2 (hS.below hW (Nat.le_refl _)) hn)
  by_cases hvs : vsR rows n g = 0
  · by_cases hb : 0 ≤ bg ∧ bg ≤ 10000
    · exact absurd (by unfold erR; rw [if_neg (by simpa using hvs), if_pos hb]) he
    · rw [er_out hvs hb]
      rw [hvs] at cv
      have hd : decide (bg < 0) = true ∨ (decide (bg < 0) = false ∧ decide (10000 < bg) = true) := by
        by_cases h0 : bg < 0
        · exact .inl (decide_eq_true h0)
        · exact .inr ⟨decide_eq_false h0, decide_eq_true (by omega)⟩
      clear h hl h1 hT hS he hvs hb
      rcases hd with d1 | ⟨d1, d2⟩
      all_goals
        go_enter Try.func41, Try.ntmps41
        go_wp2_with fail
        generalize hW0 : ((w.alloc (.cells #[.slice A rows.length c] 22)).alloc (.cells #[.slice A1 n c1] 43)).alloc (.cells #[.int .i64 bg] 3) = W0
        have HK2 := Lib.hid (show Blk W0 (w.heap.size + 1 + 1) 3 #[.int .i64 bg] by rw [← hW0]; exact blk_new' (by simp))
        have HB0 := Lib.hid (show Below w.heap.size w W0 by rw [← hW0]; exact (((Below.refl _ _).alloc (Nat.le_refl _) _).alloc (by simp) _).alloc (by simp; omega) _)
        have k3 : W0.cell? ⟨w.heap.size, 0, none⟩ = some (.slice A rows.length c) := by rw [← hW0]; exact (blk1 (((Blk.new w 22 #[.slice A rows.length c]).alloc _).alloc _)).1
        have k4 : W0.cell? ⟨w.heap.size + 1, 0, none⟩ = some (.slice A1 n c1) := by rw [← hW0]; exact (blk1 ((blk_new' (by simp)).alloc _)).1
        clear hW0
        go_wp2_with (go_at_call 39; refine (cv.out _ HB0.out).mono ?_; rintro e w1 ⟨rfl, hb1⟩; have k5 := (blk1 (HK2.out.below hb1 HK2.out.lt)).1)
        (try simp only [Exit.inBlock, Exit.then])
        refine bodyPost_ret (results_tmp4 rfl _ _ _) rfl ?_
        exact ⟨rfl, HB0.out.trans (hb1.mono HB0.out.size)⟩
  · rw [er_vs hvs]
    have hne : (vsR rows n g != 0) = true := by simpa using hvs
    generalize vsR rows n g = e0 at cv hne ⊢
    clear h hl h1 hT hS he hvs
    go_enter Try.func41, Try.ntmps41
    go_wp2_with fail
    generalize hW0 : ((w.alloc (.cells #[.slice A rows.length c] 22)).alloc (.cells #[.slice A1 n c1] 43)).alloc (.cells #[.int .i64 bg] 3) = W0
    have HB0 := Lib.hid (show Below w.heap.size w W0 by rw [← hW0]; exact (((Below.refl _ _).alloc (Nat.le_refl _) _).alloc (by simp) _).alloc (by simp; omega) _)
    have k3 : W0.cell? ⟨w.heap.size, 0, none⟩ = some (.slice A rows.length c) := by rw [← hW0]; exact (blk1 (((Blk.new w 22 #[.slice A rows.length c]).alloc _).alloc _)).1
    have k4 : W0.cell? ⟨w.heap.size + 1, 0, none⟩ = some (.slice A1 n c1) := by rw [← hW0]; exact (blk1 ((blk_new' (by simp)).alloc _)).1
    clear hW0
    go_wp2_with (go_at_call 39; refine (cv.out _ HB0.out).mono ?_; rintro e w1 ⟨rfl, hb1⟩)
    (try simp only [Exit.inBlock, Exit.then])
    refine bodyPost_ret (results_tmp4 rfl _ _ _) rfl ?_
    exact ⟨rfl, HB0.out.trans (hb1.mono HB0.out.size)⟩
end
end Go.Proofs.Ytmodbpglopfghaa


set_option linter.unusedSimpArgs false
set_option linter.unusedVariables false
namespace Go.Proofs.Ytmodbpglopfghaa
open Go.RowKit

section
variable (A A1 : Option Addr) (c c1 B : Nat) (rows : List (List Int)) (n : Nat) (g : Nat → Nat → Int) (bg : Int) (w : World) (hB : B ≤ w.heap.size) (h : TblAt B w A rows) (hl : rows.length ≤ 30 ∧ ∀ r ∈ rows, r.length ≤ 30) (h1 : StAt B w A1 n g) (hn : n ≤ 1000)
include hB h hl h1 hn

set_option maxRecDepth 100000 in
set_option maxHeartbeats 2000000 in
theorem Earliest_ref (he : erR rows n g bg = 0) :
    Calls Try.prog 42 #[.slice A rows.length c, .slice A1 n c1, .int .i64 bg] w fun e w' => ∃ z, e = .returned (.tuple #[.int .i64 (max z 0), .bool (decide (0 ≤ z)), .int .i64 0]) ∧ ErIs (okT (wy rows) g bg) (bkT (wy rows) g bg) (Tour rows.length) z ∧ Below w.heap.size w w' := by
  obtain ⟨hvs, hb0, hb1⟩ := er_zero he
  obtain ⟨hv, hnr, hs⟩ := vs_zero hvs
  have hT := h.below (Below.refl _ _) hB
  have hS := h1.below (Below.refl _ _) hB
  have cv := Lib.hid (ValidateStops_ref A A1 c c1 w.heap.size rows n g w (Nat.le_refl _) hT hl hS hn)
  rw [hvs] at cv
  obtain ⟨b, off, rfl, hwa⟩ := WaAt.of_tbl hT hv
  have hn0 := hv.n0
  have hn7 := hv.n1
  have ct := Lib.hid (fun W => tours_ref (some ⟨b, off, none⟩) rows.length c W hn0 hn7)
  have i0 := inI_true (show 0 ≤ bg ∧ bg ≤ 10000 from ⟨hb0, hb1⟩)
  have hchk : ∀ (A2 : Option Addr) (c2 : Nat) (o : List Int) (W : World), Below w.heap.size w W → o ∈ trS rows.length → IntsAt W.heap.size W A2 o → Calls Try.prog 77 #[.slice (some ⟨b, off, none⟩) rows.length c, .slice A1 n c1, .slice A2 (rows.length - 1) c2, .int .i64 bg] W fun e w' => e = .returned (.tuple #[.int .i64 (if okT (wy rows) g bg (toN o) = true then bkT (wy rows) g bg (toN o) else ltR (wy rows) g bg (toN o)), .bool (okT (wy rows) g bg (toN o))]) ∧ Below W.heap.size W w' := fun A2 c2 o W hW ho hI => by
    obtain ⟨t, ht, rfl⟩ := trS_tour hn0 ho
    have := check_ref b off rows.length c c1 c2 W.heap.size (wy rows) g A1 A2 t bg W (Nat.le_refl _) (hwa.below hW hW.size) hv.bd (by rw [← hnr]; exact hS.below hW hW.size) (by rw [← hnr]; exact hs) hI (fun x hx => (ht.1.2 x hx).2) hn0 (by omega) (by rw [ht.2]; omega) ⟨hb0, hb1⟩
    rw [ht.2, ← hnr] at this
    rw [← hnr, intL_toN]
    simp only [okT, decide_eq_true_eq]
    exact this
  have HCk := Lib.hid hchk
  have hbz : ∀ o ∈ trS rows.length, 0 ≤ bkT (wy rows) g bg (toN o) := fun o ho => by
    obtain ⟨t, ht, rfl⟩ := trS_tour hn0 ho
    rw [intL_toN]
    exact (bkT_nn hv.bd (by rw [← hnr]; exact hs) (fun x hx => (ht.1.2 x hx).2) hn0 ⟨hb0, hb1⟩).1
  have HBz := Lib.hid hbz
  have HFin := Lib.hid (show ∀ z, ErIs (okT (wy rows) g bg) (bkT (wy rows) g bg) (fun t => ∃ j, ∃ (hj : j < (trS rows.length).length), j < (trS rows.length).length ∧ toN (trS rows.length)[j] = t) z → ErIs (okT (wy rows) g bg) (bkT (wy rows) g bg) (Tour rows.length) z from fun z hz => hz.congr fun t => by
    constructor
    · rintro ⟨j, hj, _, rfl⟩
      obtain ⟨t, ht, e⟩ := trS_tour hn0 (List.getElem_mem hj)
      rw [e, intL_toN]; exact ht
    · intro ht
      obtain ⟨j, hj, e⟩ := List.mem_iff_getElem.1 (tour_trS hn0 ht)
      exact ⟨j, hj, hj, by rw [e, intL_toN]⟩)
  have hol : ∀ o ∈ trS rows.length, o.length = rows.length - 1 := fun o ho => by
    obtain ⟨t, ht, rfl⟩ := trS_tour hn0 ho
    rw [intL_length, ht.2]
  have HOl := Lib.hid hol
  have hbd2 : (trS rows.length).length ≤ 5040 := by rw [trS_length]; exact ordS_bd (by omega)
  clear h hl h1 hT hS hwa hs hv hvs he hb0 hb1 hchk hbz hol
  generalize okT (wy rows) g bg = ok at *
  generalize bkT (wy rows) g bg = bk at *
  generalize trS rows.length = os at *
  rw [← hnr] at cv ct HCk HFin HOl hn0 hn7 ⊢
  clear hnr
  go_enter Try.func42, Try.ntmps42
  go_wp2_with (first
    | (go_at_call 40; refine cv.out.mono ?_; rintro e w1 ⟨rfl, hb1⟩)
    | (go_at_call 60; refine (within_ref _ _ _ _).mono ?_; rintro e w9 ⟨rfl, hw9⟩; obtain rfl := hw9.symm; clear hw9)
    | (go_at_call 62; refine (ct.out _).mono ?_; rintro e w2 ⟨A0, c0, vs, rfl, hown, hR, hb2⟩))
  have HB2 := Lib.hid (hb1.trans (hb2.mono hb1.size))
  have HR := Lib.hid hR
  have HO := Lib.hid hown
  clear hb1 hb2 hR hown
  go_loopw [10, 11, 13] (fun vz vf vk wr => ∃ (k : Nat) (z : Int), k ≤ os.length ∧ vk = .int .i64 k ∧ vz = .int .i64 (max z 0) ∧ vf = .bool (decide (0 ≤ z)) ∧ Aside (ErIs ok bk (fun t => ∃ j, ∃ (hj : j < os.length), j < k ∧ toN os[j] = t) z) ∧ Below w2.heap.size w2 wr) (fun _ _ vk _ => os.length - (intOf vk).toNat)
  case atStart => exact ⟨0, -1, Nat.zero_le _, rfl, rfl, rfl, .inl ⟨rfl, fun t ⟨j, _, h, _⟩ => absurd h (Nat.not_lt_zero j)⟩, Below.refl _ _⟩
  case round =>
    obtain ⟨k, z, hk, rfl, rfl, rfl, hM, hbr⟩ := hrel
    have HM := Lib.hid hM.out
    have HBr := Lib.hid hbr
    clear hM hbr
    by_cases hlt : k < os.length
    · obtain ⟨A2, c2, hv2, hw2, _⟩ := HR.out.2.1 k hlt
      have hl2 := HOl.out _ (List.getElem_mem hlt)
      rw [hl2] at hv2
      obtain ⟨g0, rfl, hg0, _, hc2⟩ := own_cell HO.out hlt hv2
      have d0 := (HBr.out.cell (p := ⟨g0, k, none⟩) hg0).trans hc2
      have hI2 := (IntsAt.of_own hw2).below HBr.out HBr.out.size
      have CL := Lib.hid (HCk.out A2 c2 _ wr (HB2.out.trans (HBr.out.mono HB2.out.size)) (List.getElem_mem hlt) hI2)
      have hbk := HBz.out _ (List.getElem_mem hlt)
      have HNx := Lib.hid (show ∀ y, ErIs ok bk (fun s => (∃ j, ∃ (hj : j < os.length), j < k ∧ toN os[j] = s) ∨ s = toN os[k]) y → ErIs ok bk (fun t => ∃ j, ∃ (hj : j < os.length), j < k + 1 ∧ toN os[j] = t) y from fun y hy => hy.congr fun t => by
        constructor
        · rintro (⟨j, hj, hjk, rfl⟩ | rfl)
          · exact ⟨j, hj, by omega, rfl⟩
          · exact ⟨k, hlt, by omega, rfl⟩
        · rintro ⟨j, hj, hjk, rfl⟩
          by_cases e : j = k
          · subst e; exact .inr rfl
          · exact .inl ⟨j, hj, by omega, rfl⟩)
      have HTk := Lib.hid (fun (h1 : ok (toN os[k]) = true) (h2 : z < 0 ∨ bk (toN os[k]) < z) => HNx.out _ (HM.out.take (t := toN os[k]) h1 h2 hbk))
      have HSk := Lib.hid (fun (h1 : ok (toN os[k]) = false ∨ (0 ≤ z ∧ z ≤ bk (toN os[k]))) => HNx.out _ (HM.out.skip (t := toN os[k]) h1))
      clear hw2 hv2 hI2 hc2 hl2 HNx
      generalize toN os[k] = t at CL hbk HTk HSk
      cases hok : ok t with
      | false =>
        have HS := Lib.hid (HSk.out (.inl hok))
        rw [hok] at CL
        clear hok HTk HSk
        go_wp2_with (go_at_call 77; refine CL.out.mono ?_; rintro e w4 ⟨rfl, hb4⟩)
        go_roundw
        case rel => exact ⟨k + 1, z, by omega, by go_num, rfl, rfl, HS.out, HBr.out.trans (hb4.mono HBr.out.size)⟩
        case measure => simp [intOf]; omega
      | true =>
        rw [hok, if_pos rfl] at CL
        by_cases hz : 0 ≤ z
        · have dz : decide (0 ≤ z) = true := decide_eq_true hz
          have mz : max z 0 = z := Int.max_eq_left hz
          rw [dz, mz]
          have Hz := Lib.hid (And.intro dz mz)
          by_cases hlt2 : bk t < z
          · have d2 : decide (bk t < z) = true := decide_eq_true hlt2
            have HS := Lib.hid (HTk.out hok (.inr hlt2))
            have Hbk := Lib.hid hbk
            generalize bk t = y at *
            clear hok HTk HSk hlt2 hz dz mz hbk
            go_wp2_with (go_at_call 77; refine CL.out.mono ?_; rintro e w4 ⟨rfl, hb4⟩)
            go_roundw
            case rel => exact ⟨k + 1, y, by omega, by go_num, by rw [Int.max_eq_left Hbk.out], by rw [decide_eq_true Hbk.out], HS.out, HBr.out.trans (hb4.mono HBr.out.size)⟩
            case measure => simp [intOf]; omega
          · have d2 : decide (bk t < z) = false := decide_eq_false hlt2
            have HS := Lib.hid (HSk.out (.inr ⟨hz, by omega⟩))
            generalize bk t = y at *
            clear hok HTk HSk hlt2 hz dz mz hbk
            go_wp2_with (go_at_call 77; refine CL.out.mono ?_; rintro e w4 ⟨rfl, hb4⟩)
            go_roundw
            case rel => exact ⟨k + 1, z, by omega, by go_num, by rw [Hz.out.2], by rw [Hz.out.1], HS.out, HBr.out.trans (hb4.mono HBr.out.size)⟩
            case measure => simp [intOf]; omega
        · have dz : decide (0 ≤ z) = false := decide_eq_false hz
          have mz : max z 0 = 0 := Int.max_eq_right (by omega)
          rw [dz, mz]
          have HS := Lib.hid (HTk.out hok (.inl (by omega)))
          have Hbk := Lib.hid hbk
          generalize bk t = y at *
          clear hok HTk HSk hz dz mz hbk
          go_wp2_with (go_at_call 77; refine CL.out.mono ?_; rintro e w4 ⟨rfl, hb4⟩)
          go_roundw
          case rel => exact ⟨k + 1, y, by omega, by go_num, by rw [Int.max_eq_left Hbk.out], by rw [decide_eq_true Hbk.out], HS.out, HBr.out.trans (hb4.mono HBr.out.size)⟩
          case measure => simp [intOf]; omega
    · obtain rfl : k = os.length := by omega
      have HF := Lib.hid (HFin.out z HM.out)
      clear HM
      go_wp2_with fail
      go_ret3
      exact ⟨z, rfl, HF.out, HB2.out.trans (HBr.out.mono HB2.out.size)⟩

set_option maxRecDepth 100000 in
set_option maxHeartbeats 1000000 in
theorem Earliest_ref_bad (he : erR rows n g bg ≠ 0) :
    Calls Try.prog 42 #[.slice A rows.length c, .slice A1 n c1, .int .i64 bg] w fun e w' => e = .returned (.tuple #[.int .i64 0, .bool false, .int .i64 (erR rows n g bg)]) ∧ Below w.heap.size w w' := by
  have cv := Lib.hid (ValidateStops_ref A A1 c c1 w.heap.size rows n g w (Nat.le_refl _) (h.below (Below.refl _ _) hB) hl (h1.below (Below.refl _ _) hB) hn)
  by_cases hvs : vsR rows n g = 0
  · by_cases hb : 0 ≤ bg ∧ bg ≤ 10000
    · exact absurd (by unfold erR; rw [if_neg (by simpa using hvs), if_pos hb]) he
    · rw [er_out hvs hb]
      rw [hvs] at cv
      have i0 := inI_false hb
      clear h hl h1 he hvs hb
      go_enter Try.func42, Try.ntmps42
      go_wp2_with (first
        | (go_at_call 40; refine cv.out.mono ?_; rintro e w1 ⟨rfl, hb1⟩)
        | (go_at_call 60; refine (within_ref _ _ _ _).mono ?_; rintro e w9 ⟨rfl, hw9⟩; obtain rfl := hw9.symm; clear hw9))
      go_ret3
      exact ⟨rfl, hb1⟩
  · rw [er_vs hvs]
    have hne : (vsR rows n g != 0) = true := by simpa using hvs
    generalize vsR rows n g = e0 at cv hne ⊢
    clear h hl h1 he hvs
    go_enter Try.func42, Try.ntmps42
    go_wp2_with (go_at_call 40; refine cv.out.mono ?_; rintro e w1 ⟨rfl, hb1⟩)
    go_ret3
    exact ⟨rfl, hb1⟩
end
end Go.Proofs.Ytmodbpglopfghaa


set_option linter.unusedSimpArgs false
set_option linter.unusedVariables false
namespace Go.Proofs.Ytmodbpglopfghaa
open Go.RowKit

set_option maxRecDepth 100000 in
set_option maxHeartbeats 4000000 in
theorem earliest_law (A A1 A2 : Option Addr) (c c1 c2 : Nat) (rows : List (List Int)) (n : Nat) (g : Nat → Nat → Int) (t : List Int) (bg : Int) (w : World) (h : TblAt w.heap.size w A rows) (h1 : StAt w.heap.size w A1 n g) (h2 : IntsAt w.heap.size w A2 t) (hcap : t.length ≤ c2) :
    Calls Try.prog 11 #[.slice A rows.length c, .agg #[.slice A1 n c1, .slice A2 t.length c2, .int .i64 bg]] w fun e w' => e = .returned (.bool true) ∧ Below w.heap.size w w' := by
  have cl := Lib.hid (fun W (hW : Below w.heap.size w W) => Large_any A c w.heap.size rows W (h.below hW (Nat.le_refl _)))
  have cg := Lib.hid (fun W => many_any A1 A2 n c1 t.length c2 bg W)
  rcases lg2 (lgW rows) (decide (60 < n) || decide (60 < t.length)) with hlg | ⟨hlg, hlo⟩ | ⟨hlg, hlo⟩
  · rw [hlg] at cl
    clear h h1 h2 hlg
    go_enter Try.func11, Try.ntmps11
    have HB0 := Lib.hid (((Below.refl _ _).alloc (Nat.le_refl _) (.cells #[.slice A1 n c1, .slice A2 t.length c2, .int .i64 bg] 45) : Below w.heap.size w _))
    go_wp2_with (first | (go_at_call 17; refine (cl.out _ HB0.out).mono ?_; rintro e w1 ⟨rfl, hw1⟩; obtain rfl := hw1.symm; clear hw1) | (go_at_call 18; refine (known_any _).mono ?_; rintro e w5 ⟨rfl, hb5⟩))
    go_ret
    exact ⟨rfl, HB0.out.trans (hb5.mono HB0.out.size)⟩
  · rw [hlg] at cl
    rw [hlo] at cg
    clear h h1 h2 hlg hlo
    go_enter Try.func11, Try.ntmps11
    have HB0 := Lib.hid (((Below.refl _ _).alloc (Nat.le_refl _) (.cells #[.slice A1 n c1, .slice A2 t.length c2, .int .i64 bg] 45) : Below w.heap.size w _))
    go_wp2_with (first | (go_at_call 17; refine (cl.out _ HB0.out).mono ?_; rintro e w1 ⟨rfl, hw1⟩; obtain rfl := hw1.symm; clear hw1) | (go_at_call 36; refine (cg.out _).mono ?_; rintro e w1 ⟨rfl, hb1⟩) | (go_at_call 18; refine (known_any _).mono ?_; rintro e w5 ⟨rfl, hb5⟩))
    go_ret
    exact ⟨rfl, HB0.out.trans ((hb1.mono HB0.out.size).trans (hb5.mono (Nat.le_trans HB0.out.size hb1.size)))⟩
  · rw [hlg] at cl
    rw [hlo] at cg
    have hl := lgW_small hlg
    have hn : n ≤ 60 := by simp at hlo; omega
    by_cases he : erR rows n g bg = 0
    · have ca := Lib.hid (fun W (hW : Below w.heap.size w W) => Earliest_any A A1 c c1 w.heap.size rows n g bg W hW.size (h.below hW (Nat.le_refl _)) hl (h1.below hW (Nat.le_refl _)) (by omega) he)
      have cr := Lib.hid (fun W (hW : Below w.heap.size w W) => Earliest_ref A A1 c c1 w.heap.size rows n g bg W hW.size (h.below hW (Nat.le_refl _)) hl (h1.below hW (Nat.le_refl _)) (by omega) he)
      obtain ⟨hvs, hb0, hb1⟩ := er_zero he
      obtain ⟨hv, hnr, hs⟩ := vs_zero hvs
      have hn7 := hv.n1
      have hn0 := hv.n0
      have cc := Lib.hid (fun (A3 : Option Addr) (c3 : Nat) (s : List Nat) (hs2 : Tour rows.length s) (hok : okT (wy rows) g bg s = true) (hc3 : s.length ≤ c3) (z : Int) (hz : bkT (wy rows) g bg s = z) W (hW : Below w.heap.size w W) (hI : IntsAt W.heap.size W A3 (intL s)) => show Calls Try.prog 43 #[.slice A rows.length c, .slice A1 n c1, .slice A3 (rows.length - 1) c3, .int .i64 bg] W fun e w' => e = .returned (.tuple #[.int .i64 z, .int .i64 0]) ∧ Below W.heap.size W w' from by
        have hd : drR rows n g (intL s) bg = 0 := by
          unfold drR
          have : tsR rows n g (intL s) = 0 := by
            unfold tsR
            rw [if_neg (by simpa using hvs)]
            exact stp_tu hs2.1
          rw [if_neg (by simpa using this), if_pos ⟨hb0, hb1⟩]
        have hlt : ltR (wy rows) g bg (toN (intL s)) = -1 := by rw [intL_toN]; exact of_decide_eq_true hok
        have := Check_ref A A1 A3 c c1 c3 W.heap.size rows n g (intL s) bg W (Nat.le_refl _) (h.below hW hW.size) hl (h1.below hW hW.size) (by omega) hI (by rw [intL_length, hs2.2]; omega) (by rw [intL_length]; exact hc3)
        rw [intL_length, (ck_ok hd hlt).1, (ck_ok hd hlt).2, intL_toN, hz, hs2.2] at this
        exact this)
      have HU := Lib.hid (fun y z => ErIs.unique (ok := okT (wy rows) g bg) (bk := bkT (wy rows) g bg) (P := Tour rows.length) (z := y) (y := z))
      clear h h1 h2 hlg hlo hl hv hs he hvs hb0 hb1
      generalize okT (wy rows) g bg = ok at *
      generalize bkT (wy rows) g bg = bk at *
      rw [← hnr] at cl ca cr cc HU hn0 hn7 ⊢
      clear hnr
      have hw1 : IntKind.i64.wrap ((n : Int) - 1) = ((n - 1 : Nat) : Int) := by rw [IntWalk.i64_in _ (by omega)]; omega
      go_enter Try.func11, Try.ntmps11
      go_wp2_with fail
      generalize hW0 : w.alloc (.cells #[.slice A1 n c1, .slice A2 t.length c2, .int .i64 bg] 45) = W0
      have HBk := Lib.hid (show Blk W0 w.heap.size 45 #[.slice A1 n c1, .slice A2 t.length c2, .int .i64 bg] by rw [← hW0]; exact Blk.new _ _ _)
      have hB0 : Below w.heap.size w W0 := by rw [← hW0]; exact (Below.refl _ _).alloc (Nat.le_refl _) _
      have HB0 := Lib.hid hB0
      have HBs := Lib.hid (show ∀ W, Below W0.heap.size W0 W → Below w.heap.size w W from fun W hW => HB0.out.trans (hW.mono HB0.out.size))
      have HCs := Lib.hid (show ∀ W, Below W0.heap.size W0 W → W.cell? ⟨w.heap.size, 0, none⟩ = some (.slice A1 n c1) ∧ W.cell? ⟨w.heap.size, 1, none⟩ = some (.slice A2 t.length c2) ∧ W.cell? ⟨w.heap.size, 2, none⟩ = some (.int .i64 bg) from fun W hW => by
        obtain ⟨q0, q1, q2, _⟩ := blk3 (HBk.out.below hW HBk.out.lt)
        exact ⟨q0, q1, q2⟩)
      obtain ⟨k0, k1, k2⟩ := HCs.out _ (Below.refl _ _)
      clear hW0 hB0
      go_wp2_with (first
        | (go_at_call 17; refine (cl.out _ HB0.out).mono ?_; rintro e w1 ⟨rfl, hw1⟩; obtain rfl := hw1.symm; clear hw1)
        | (go_at_call 36; refine (cg.out _).mono ?_; rintro e w1 ⟨rfl, hb1⟩; clear k0 k1 k2; obtain ⟨k0, k1, k2⟩ := HCs.out _ hb1))
      go_at_call 41
      refine (ca.out _ (HBs.out _ hb1)).mono ?_
      rintro e w2 ⟨z, A5, m, c5, rfl, hE, hn1, hp1, hb2⟩
      have hB2 := hb1.trans (hb2.mono hb1.size)
      clear k0 k1 k2
      obtain ⟨k0, k1, k2⟩ := HCs.out _ hB2
      have HE := Lib.hid hE
      clear hE
      by_cases hz : 0 ≤ z
      · obtain ⟨s, hs1, hs2, hs3, hs4, hs5, hs6⟩ := hp1 hz
        have HS := Lib.hid (And.intro hs1 (And.intro hs2 (And.intro hs3 (And.intro hs5 hs6))))
        have hdz : decide (0 ≤ z) = true := decide_eq_true hz
        have hmz : max z 0 = z := Int.max_eq_left hz
        have Hmz := Lib.hid (And.intro hdz hmz)
        have hm : m = n - 1 := by rw [hs4, hs1.2]
        have Hm4 := Lib.hid hs4
        subst hm
        rw [hdz, hmz]
        clear hdz hmz hn1 hp1 hs1 hs2 hs3 hs4 hs5 hs6 hz
        go_wp2_with (first
          | (go_at_call 42; refine (cr.out _ (HBs.out _ hB2)).mono ?_; rintro e w3 ⟨z3, rfl, hE3, hb3⟩; obtain rfl := HU.out _ _ HE.out hE3; rw [Hmz.out.1, Hmz.out.2]; have hB3 := hB2.trans (hb3.mono hB2.size); clear hE3 k0 k1 k2; obtain ⟨k0, k1, k2⟩ := HCs.out _ hB3; have HI3 := Lib.hid (HS.out.2.2.2.1.below hb3 hb3.size))
          | (go_at_call 43; refine (cc.out A5 c5 s HS.out.1 HS.out.2.1 (by rw [← Hm4.out]; exact HS.out.2.2.2.2) z HS.out.2.2.1 _ (HBs.out _ hB3) HI3.out).mono ?_; rintro e w4 ⟨rfl, hb4⟩; have hB4 := hB3.trans (hb4.mono hB3.size))
          | (go_at_call 18; refine (known_any _).mono ?_; rintro e w9 ⟨rfl, hb9⟩))
        go_ret
        exact ⟨rfl, HBs.out _ (hB4.trans (hb9.mono hB4.size))⟩
      · have hdz : decide (0 ≤ z) = false := decide_eq_false hz
        have hmz : max z 0 = 0 := Int.max_eq_right (by omega)
        have Hmz := Lib.hid (And.intro hdz hmz)
        have hm := hn1 (by omega)
        subst hm
        rw [hdz, hmz]
        clear hdz hmz hn1 hp1 hz
        go_wp2_with (first
          | (go_at_call 42; refine (cr.out _ (HBs.out _ hB2)).mono ?_; rintro e w3 ⟨z3, rfl, hE3, hb3⟩; obtain rfl := HU.out _ _ HE.out hE3; rw [Hmz.out.1, Hmz.out.2]; have hB3 := hB2.trans (hb3.mono hB2.size); clear hE3 k0 k1 k2; obtain ⟨k0, k1, k2⟩ := HCs.out _ hB3)
          | (go_at_call 18; refine (known_any _).mono ?_; rintro e w9 ⟨rfl, hb9⟩))
        go_ret
        exact ⟨rfl, HBs.out _ (hB3.trans (hb9.mono hB3.size))⟩
    · have ca := Lib.hid (fun W (hW : Below w.heap.size w W) => Earliest_bad A A1 c c1 w.heap.size rows n g bg W hW.size (h.below hW (Nat.le_refl _)) hl (h1.below hW (Nat.le_refl _)) (by omega) he)
      have cr := Lib.hid (fun W (hW : Below w.heap.size w W) => Earliest_ref_bad A A1 c c1 w.heap.size rows n g bg W hW.size (h.below hW (Nat.le_refl _)) hl (h1.below hW (Nat.le_refl _)) (by omega) he)
      clear h h1 h2 hlg hlo hl he
      generalize erR rows n g bg = e0 at *
      go_enter Try.func11, Try.ntmps11
      go_wp2_with fail
      generalize hW0 : w.alloc (.cells #[.slice A1 n c1, .slice A2 t.length c2, .int .i64 bg] 45) = W0
      have HBk := Lib.hid (show Blk W0 w.heap.size 45 #[.slice A1 n c1, .slice A2 t.length c2, .int .i64 bg] by rw [← hW0]; exact Blk.new _ _ _)
      have hB0 : Below w.heap.size w W0 := by rw [← hW0]; exact (Below.refl _ _).alloc (Nat.le_refl _) _
      have HB0 := Lib.hid hB0
      have HBs := Lib.hid (show ∀ W, Below W0.heap.size W0 W → Below w.heap.size w W from fun W hW => HB0.out.trans (hW.mono HB0.out.size))
      have HCs := Lib.hid (show ∀ W, Below W0.heap.size W0 W → W.cell? ⟨w.heap.size, 0, none⟩ = some (.slice A1 n c1) ∧ W.cell? ⟨w.heap.size, 1, none⟩ = some (.slice A2 t.length c2) ∧ W.cell? ⟨w.heap.size, 2, none⟩ = some (.int .i64 bg) from fun W hW => by
        obtain ⟨q0, q1, q2, _⟩ := blk3 (HBk.out.below hW HBk.out.lt)
        exact ⟨q0, q1, q2⟩)
      obtain ⟨k0, k1, k2⟩ := HCs.out _ (Below.refl _ _)
      clear hW0 hB0
      go_wp2_with (first
        | (go_at_call 17; refine (cl.out _ HB0.out).mono ?_; rintro e w1 ⟨rfl, hw1⟩; obtain rfl := hw1.symm; clear hw1)
        | (go_at_call 36; refine (cg.out _).mono ?_; rintro e w1 ⟨rfl, hb1⟩; clear k0 k1 k2; obtain ⟨k0, k1, k2⟩ := HCs.out _ hb1)
        | (go_at_call 41; refine (ca.out _ (HBs.out _ hb1)).mono ?_; rintro e w2 ⟨rfl, hb2⟩; have hB2 := hb1.trans (hb2.mono hb1.size); clear k0 k1 k2; obtain ⟨k0, k1, k2⟩ := HCs.out _ hB2)
        | (go_at_call 42; refine (cr.out _ (HBs.out _ hB2)).mono ?_; rintro e w3 ⟨rfl, hb3⟩; have hB3 := hB2.trans (hb3.mono hB2.size))
        | (go_at_call 18; refine (known_any _).mono ?_; rintro e w9 ⟨rfl, hb9⟩))
      go_ret
      exact ⟨rfl, HBs.out _ (hB3.trans (hb9.mono hB3.size))⟩
end Go.Proofs.Ytmodbpglopfghaa


namespace Go.Proofs.Ytmodbpglopfghaa.lawVanEarliest
open Go.ChangeShapes Go.WideShapes Go.ChangeAt Go.RowKit Go.Deep
set_option linter.unusedVariables false

theorem own : ownKnob Try.prog.godebug = none := by kernel_rfl
theorem laidOut : laidOutB Try.prog = true := by kernel_rfl

set_option maxRecDepth 100000 in
theorem lifted (os : Os) (started : os.Started) (H : Type) (enc : TypeId × Value → H) :
    ReturnsInHanded {} Try.checked os 11 .any (Rows.vanEarliestSpec.pre6 enc Try.prog Try.f11 Rows.vanEarliestRow.domain false) (Rows.vanEarliestSpec.post enc Try.prog Try.f11 false true false false) := by
  refine returnsInHanded_of_change (C := Try.checked) own started (by kernel_rfl) Try.func11
    (ChangeSpec.witness6 (enc := enc) (C := Try.checked) false ⟨#[], #[.slice none 0 0, .agg #[.slice none 0 0, .slice none 0 0, .int .i64 0]], []⟩ 8 (by kernel_rfl) (by kernel_rfl) (by kernel_rfl) (by kernel_rfl)) ?_
  intro W base args ds gs before hval0 hW hcnd _
  have hval : ∀ (j : Nat) t v, Try.f11.params[j]? = some t → args[j]? = some v → Value.okWide Try.prog W .any base t v := hval0
  have hW' := hW
  obtain ⟨p, q, hA0, hV, rfl, hfz, hnd⟩ := hW
  have hA : DataW.TrodAll enc Try.prog W 0 (fun _ => true) true Try.f11.params.toList args.toList ds p := hA0
  rw [Try.params11] at hA hval
  obtain ⟨v0, vs0, d0, ds0, p0, q0, hargs, rfl, rfl, h0, r0⟩ := trodAll_cons hA
  obtain ⟨v1, vs1, d1, ds1, p1, q1, rfl, rfl, rfl, h1, r1⟩ := trodAll_cons r0
  obtain ⟨rfl, rfl, rfl⟩ := trodAll_nil r1
  obtain rfl : args = #[v0, v1] := by cases args; simp_all
  obtain ⟨rfl, rfl⟩ := trodVars_none hV
  have k0 := h0
  have lt0 : ∀ x ∈ p0, x.block < W.heap.size := by obtain ⟨m, hm⟩ := k0; exact DataW.trod_lt m _ _ _ hm
  obtain ⟨fu0, hf0⟩ := h0
  obtain ⟨A0, c0, l0, e0, t0, m0⟩ := open_tblAt Try.underlying22 Try.underlying28 Try.underlying3 (by kernel_rfl) (by kernel_rfl) hf0
  obtain ⟨A0', n0', c0', rfl⟩ := okWide_slice Try.underlying22 (hval 0 22 v0 rfl rfl)
  obtain ⟨rfl, rfl, rfl⟩ : A0' = A0 ∧ n0' = l0.length ∧ c0' = c0 := by simpa [Value.cells] using e0
  have k1 := h1
  have lt1 : ∀ x ∈ p1, x.block < W.heap.size := by obtain ⟨m, hm⟩ := k1; exact DataW.trod_lt m _ _ _ hm
  obtain ⟨A1, c1, n1, f1, B1, e1, z1, b1, rfl, i1, u1, iq1, ir1⟩ := open_trip (hval 1 45 v1 rfl rfl) h1
  clear hA0 hval0
  refine (earliest_law _ _ _ _ _ _ l0 n1 f1 z1 b1 W t0 i1 u1 iq1).mono fun e W' ⟨he, bel⟩ => ?_
  subst he
  exact ⟨_, rfl, _, _, _, [], _, [], hW', trodAll_mk1 (shut_bool Try.underlying4 _), (trodAll_cons_mk (Below.trod laidOut (by kernel_rfl) (of_decide_eq_true (by kernel_rfl)) k0 bel lt0) (trodAll_cons_mk (Below.trod laidOut (by kernel_rfl) (of_decide_eq_true (by kernel_rfl)) k1 bel lt1) trodAll_mk0)), rfl, bel.frame _, fun h => by cases h⟩

theorem over : Rows.vanEarliestRow.holds Try.pinned (OpenSpec.ofChange Rows.vanEarliestSpec) :=
  OpenClaim.holds_of_wide 11 Try.f11 rfl rfl rfl rfl rfl rfl rfl ⟨rfl, rfl, rfl, rfl, rfl⟩ rfl rfl rfl rfl rfl (by kernel_rfl) Try.func11 (by kernel_rfl)
    (of_decide_eq_true (by kernel_rfl)) (by unfold Func.isWrapper; first | (rw [if_pos (by decide +kernel)]; kernel_rfl) | (rw [if_neg (by decide +kernel)]; exact ⟨rfl, rfl⟩))
    (fun os started H enc _ => lifted os started H enc)

/-- The statement. -/
theorem proved : Rows.VanEarliestSaid := over
end Go.Proofs.Ytmodbpglopfghaa.lawVanEarliest
