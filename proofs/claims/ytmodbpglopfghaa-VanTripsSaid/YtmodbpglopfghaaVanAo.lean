/- Stops with windows: ValidateStops, stopped, toured; many. -/
import Derived.Test.YtmodbpglopfghaaVanAb
set_option linter.unusedSimpArgs false
set_option linter.unusedVariables false
namespace Go.Proofs.Ytmodbpglopfghaa
open Go.RowKit

/-- Stops in memory: Open, Close, Stay, Boxes. -/
def StAt (B : Nat) (w : World) (A : Option Addr) (n : Nat) (g : Nat → Nat → Int) : Prop := ElsAt B w A 4 n fun k j => .int .i64 (g k j)
theorem StAt.below {B B' n : Nat} {w w' : World} {A : Option Addr} {g : Nat → Nat → Int} (h : StAt B w A n g) (hb : Below B w w') (hB : B ≤ B') : StAt B' w' A n g := ElsAt.below h hb hB
theorem StAt.at {B n : Nat} {w : World} {A : Option Addr} {g : Nat → Nat → Int} (h : StAt B w A n g) {k : Nat} (hk : k < n) :
    ∃ b off, A = some ⟨b, off, none⟩ ∧ b < B ∧ w.cell? ⟨b, off + k * 4, none⟩ = some (.int .i64 (g k 0)) ∧ w.cell? ⟨b, off + k * 4 + 1, none⟩ = some (.int .i64 (g k 1)) ∧ w.cell? ⟨b, off + k * 4 + 2, none⟩ = some (.int .i64 (g k 2)) ∧ w.cell? ⟨b, off + k * 4 + 3, none⟩ = some (.int .i64 (g k 3)) := by
  obtain ⟨b, off, e, hb, hc⟩ := h k hk
  exact ⟨b, off, e, hb, hc 0 (by omega), hc 1 (by omega), hc 2 (by omega), hc 3 (by omega)⟩
/-- A stop's numbers are within limits. -/
def okS (g : Nat → Nat → Int) (k : Nat) : Prop := (∀ j, j < 3 → 0 ≤ g k j ∧ g k j ≤ 10000) ∧ 0 ≤ g k 3 ∧ g k 3 ≤ 100
def VS (n : Nat) (g : Nat → Nat → Int) : Prop := ∀ k, k < n → okS g k
/-- The error of ways and stops. -/
noncomputable def vsR (rows : List (List Int)) (n : Nat) (g : Nat → Nat → Int) : Int :=
  if vwR rows ≠ 0 then vwR rows else if n ≠ rows.length then 1 else @ite _ (VS n g) (Classical.propDecidable _) 0 1
theorem vs_ways {rows : List (List Int)} {n : Nat} {g : Nat → Nat → Int} (h : vwR rows ≠ 0) : vsR rows n g = vwR rows := if_pos h
theorem vs_len {rows : List (List Int)} {n : Nat} {g : Nat → Nat → Int} (h : vwR rows = 0) (h' : n ≠ rows.length) : vsR rows n g = 1 := by
  unfold vsR
  rw [if_neg (by simpa using h), if_pos h']
theorem vs_bad {rows : List (List Int)} {n : Nat} {g : Nat → Nat → Int} (h : vwR rows = 0) (h' : n = rows.length) (h2 : ¬ VS n g) : vsR rows n g = 1 := by
  unfold vsR
  rw [if_neg (by simpa using h), if_neg (by simpa using h'), if_neg h2]
theorem vs_ok {rows : List (List Int)} {n : Nat} {g : Nat → Nat → Int} (h : vwR rows = 0) (h' : n = rows.length) (h2 : VS n g) : vsR rows n g = 0 := by
  unfold vsR
  rw [if_neg (by simpa using h), if_neg (by simpa using h'), if_pos h2]
theorem vs_zero {rows : List (List Int)} {n : Nat} {g : Nat → Nat → Int} (h : vsR rows n g = 0) : VW rows ∧ n = rows.length ∧ VS n g := by
  by_cases h1 : vwR rows = 0
  · by_cases h2 : n = rows.length
    · by_cases h3 : VS n g
      · exact ⟨vw_zero h1, h2, h3⟩
      · rw [vs_bad h1 h2 h3] at h; cases h
    · rw [vs_len h1 h2] at h; cases h
  · rw [vs_ways h1] at h; exact absurd h h1

set_option maxRecDepth 100000 in
set_option maxHeartbeats 1000000 in
theorem ValidateStops_any (A A' : Option Addr) (c c' B : Nat) (rows : List (List Int)) (n : Nat) (g : Nat → Nat → Int) (w : World) (hB : B ≤ w.heap.size) (h : TblAt B w A rows) (hl : ∀ r ∈ rows, r.length ≤ 30) (h' : StAt B w A' n g) (hn : n ≤ 1000) :
    Calls Try.prog 39 #[.slice A rows.length c, .slice A' n c'] w fun e w' => e = .returned (.int .i64 (vsR rows n g)) ∧ Below w.heap.size w w' := by
  have cv := Lib.hid (Validate_any A c B rows w h hl)
  by_cases hv : vwR rows = 0
  · have hv1 := (vw_zero hv).n1
    rw [hv] at cv
    by_cases hne : n = rows.length
    · have hnn : ((n : Int) != (rows.length : Int)) = false := by simp; omega
      have Hbad := Lib.hid (fun h2 : ¬ VS n g => vs_bad hv hne h2)
      have Hok := Lib.hid (fun h2 : VS n g => vs_ok hv hne h2)
      have H := Lib.hid (show StAt w.heap.size w A' n g from h'.below (Below.refl _ _) hB)
      generalize vsR rows n g = r at Hbad Hok ⊢
      generalize rows.length = m at cv hnn hne ⊢
      clear h h' hv hne hv1
      go_enter Try.func39, Try.ntmps39
      go_wp2_with (go_at_call 30; refine cv.out.mono ?_; rintro e w1 ⟨rfl, hw1⟩; obtain rfl := hw1.symm; clear hw1)
      go_loopw [22] (fun i wr => ∃ k : Nat, k ≤ n ∧ i = .int .i64 k ∧ (∀ k', k' < k → okS g k') ∧ Below w.heap.size w wr) (fun i _ => n - (intOf i).toNat)
      case atStart => exact ⟨0, Nat.zero_le _, rfl, fun k' hk => absurd hk (Nat.not_lt_zero k'), Below.refl _ _⟩
      case round =>
        obtain ⟨k, hk, rfl, hs, hb⟩ := hrel
        have Hs := Lib.hid hs
        clear hs
        by_cases hlt : k < n
        · obtain ⟨b, off, rfl, hbB, c0, c1, c2, c3⟩ := H.out.at hlt
          have d0 := (hb.cell (p := ⟨b, off + k * 4, none⟩) hbB).trans c0
          have d1 := (hb.cell (p := ⟨b, off + k * 4 + 1, none⟩) hbB).trans c1
          have d2 := (hb.cell (p := ⟨b, off + k * 4 + 2, none⟩) hbB).trans c2
          have d3 := (hb.cell (p := ⟨b, off + k * 4 + 3, none⟩) hbB).trans c3
          clear c0 c1 c2 c3
          have hbs := hb.size
          have hbw : b < wr.heap.size := by omega
          go_wp2_with fail
          obtain ⟨W1, hW1⟩ : ∃ W1, (wr.alloc (.cells #[.int .i64 (g k 0), .int .i64 (g k 1), .int .i64 (g k 2), .int .i64 (g k 3)] 89)).alloc (.cells #[.int .i64 (g k 0), .int .i64 (g k 1), .int .i64 (g k 2)] 3) = W1 := ⟨_, rfl⟩
          rw [hW1]
          have hblk : Blk W1 wr.heap.size 89 #[.int .i64 (g k 0), .int .i64 (g k 1), .int .i64 (g k 2), .int .i64 (g k 3)] := by rw [← hW1]; exact (Blk.new _ _ _).alloc _
          have hblk2 : Blk W1 (wr.heap.size + 1) 3 #[.int .i64 (g k 0), .int .i64 (g k 1), .int .i64 (g k 2)] := by rw [← hW1]; exact blk_new' (by simp)
          have hb1 : Below w.heap.size w W1 := by rw [← hW1]; exact (hb.alloc hb.size _).alloc (by simp; omega) _
          have F := Lib.hid (show ∀ j, j < 3 → W1.cell? ⟨wr.heap.size + 1, j, none⟩ = some (.int .i64 (g k j)) from fun j hj => by
            obtain ⟨q0, q1, q2, _⟩ := blk3 hblk2
            rcases (show j = 0 ∨ j = 1 ∨ j = 2 by omega) with e | e | e <;> subst e
            · exact q0
            · exact q1
            · exact q2)
          obtain ⟨_, _, _, q3, _⟩ := blk4 hblk
          have Hbs := Lib.hid (fun (hno : ¬ okS g k) => Hbad.out fun hv => hno (hv k hlt))
          have Hss := Lib.hid (fun (ho : okS g k) => show ∀ k', k' < k + 1 → okS g k' from fun k' hk' => by
            by_cases e : k' = k
            · subst e; exact ho
            · exact Hs.out k' (by omega))
          have HO := Lib.hid (show okS g k ↔ (∀ j, j < 3 → 0 ≤ g k j ∧ g k j ≤ 10000) ∧ 0 ≤ g k 3 ∧ g k 3 ≤ 100 from Iff.rfl)
          generalize okS g k = O at Hbs Hss HO
          have hw1 : wr.heap.size + 1 < W1.heap.size := hblk2.lt
          clear hW1 d0 d1 d2 d3 hblk hblk2
          go_loop [34] (fun s => ∃ j : Nat, j ≤ 3 ∧ s = .int .i64 j ∧ ∀ j', j' < j → 0 ≤ g k j' ∧ g k j' ≤ 10000) (fun s => 3 - (intOf s).toNat)
          case atStart => exact ⟨0, Nat.zero_le _, rfl, fun j' hk => absurd hk (Nat.not_lt_zero j')⟩
          case round =>
            obtain ⟨j, hj, rfl, hm⟩ := hrel
            have Hm := Lib.hid hm
            clear hm
            by_cases hjl : j < 3
            · have q := F.out j hjl
              have hjl' : (j : Int) < 3 := by omega
              have Hno := Lib.hid (fun (hno : ¬ (0 ≤ g k j ∧ g k j ≤ 10000)) => Hbs.out fun ho => hno ((HO.out.1 ho).1 j hjl))
              have Hm2 := Lib.hid (fun (ho : 0 ≤ g k j ∧ g k j ≤ 10000) => show ∀ j', j' < j + 1 → 0 ≤ g k j' ∧ g k j' ≤ 10000 from fun j' hj' => by
                by_cases e : j' = j
                · subst e; exact ho
                · exact Hm.out j' (by omega))
              generalize g k j = x at q Hno Hm2
              by_cases h1 : x < 0
              · have hx : decide (x < 0) = true := by simpa using h1
                have Hr := Lib.hid (Hno.out (by omega))
                go_wp2_with fail
                go_ret
                exact ⟨by rw [Hr.out]; rfl, hb1⟩
              · have hx : decide (x < 0) = false := by simpa using h1
                by_cases h2 : 10000 < x
                · have hx2 : decide (10000 < x) = true := by simpa using h2
                  have Hr := Lib.hid (Hno.out (by omega))
                  go_wp2_with fail
                  go_ret
                  exact ⟨by rw [Hr.out]; rfl, hb1⟩
                · have hx2 : decide (10000 < x) = false := by simpa using h2
                  have Hr := Lib.hid (Hm2.out (by omega))
                  clear h1 h2
                  go_wp2_with fail
                  go_round
                  case rel => exact ⟨j + 1, by omega, by go_num, Hr.out⟩
                  case measure => simp [intOf]; omega
            · obtain rfl : j = 3 := by omega
              generalize g k 3 = x at q3 HO
              by_cases h1 : x < 0
              · have hx : decide (x < 0) = true := by simpa using h1
                have Hr := Lib.hid (Hbs.out fun ho => by have := (HO.out.1 ho).2; omega)
                go_wp2_with fail
                go_ret
                exact ⟨by rw [Hr.out]; rfl, hb1⟩
              · have hx : decide (x < 0) = false := by simpa using h1
                by_cases h2 : 100 < x
                · have hx2 : decide (100 < x) = true := by simpa using h2
                  have Hr := Lib.hid (Hbs.out fun ho => by have := (HO.out.1 ho).2; omega)
                  go_wp2_with fail
                  go_ret
                  exact ⟨by rw [Hr.out]; rfl, hb1⟩
                · have hx2 : decide (100 < x) = false := by simpa using h2
                  have Hr := Lib.hid (Hss.out (HO.out.2 ⟨Hm.out, by omega, by omega⟩))
                  clear h1 h2
                  go_wp2_with fail
                  go_roundw
                  case rel => exact ⟨k + 1, by omega, by go_num, Hr.out, hb1⟩
                  case measure => simp [intOf]; omega
        · obtain rfl : k = n := by omega
          have Hr := Lib.hid (Hok.out Hs.out)
          go_wp2_with fail
          go_ret
          exact ⟨by rw [Hr.out]; rfl, hb⟩
    · have hnn : ((n : Int) != (rows.length : Int)) = true := by simp; omega
      have Hr := Lib.hid (vs_len (g := g) hv hne)
      generalize rows.length = m at cv hnn hne ⊢
      clear h h' hne hv
      go_enter Try.func39, Try.ntmps39
      go_wp2_with (go_at_call 30; refine cv.out.mono ?_; rintro e w1 ⟨rfl, hw1⟩; obtain rfl := hw1.symm; clear hw1)
      go_ret
      exact ⟨by rw [Hr.out]; rfl, Below.refl _ _⟩
  · have Hr := Lib.hid (vs_ways (n := n) (g := g) hv)
    have hne : (vwR rows != 0) = true := by simpa using hv
    generalize vwR rows = e0 at cv hne Hr
    clear h h' hv
    go_enter Try.func39, Try.ntmps39
    go_wp2_with (go_at_call 30; refine cv.out.mono ?_; rintro e w1 ⟨rfl, hw1⟩; obtain rfl := hw1.symm; clear hw1)
    go_ret
    exact ⟨by rw [Hr.out]; rfl, Below.refl _ _⟩

theorem inI_true {x lo hi : Int} (h : lo ≤ x ∧ x ≤ hi) : inI x lo hi = true := by simp [inI, h.1, h.2]
theorem inI_false {x lo hi : Int} (h : ¬ (lo ≤ x ∧ x ≤ hi)) : inI x lo hi = false := by simp only [inI, decide_eq_false_iff_not]; exact h

set_option maxRecDepth 100000 in
set_option maxHeartbeats 1000000 in
theorem ValidateStops_ref (A A' : Option Addr) (c c' B : Nat) (rows : List (List Int)) (n : Nat) (g : Nat → Nat → Int) (w : World) (hB : B ≤ w.heap.size) (h : TblAt B w A rows) (hl : rows.length ≤ 30 ∧ ∀ r ∈ rows, r.length ≤ 30) (h' : StAt B w A' n g) (hn : n ≤ 1000) :
    Calls Try.prog 40 #[.slice A rows.length c, .slice A' n c'] w fun e w' => e = .returned (.int .i64 (vsR rows n g)) ∧ Below w.heap.size w w' := by
  have cv := Lib.hid (Validate_ref A c B rows w hB h hl)
  by_cases hv : vwR rows = 0
  · have hv1 := (vw_zero hv).n1
    rw [hv] at cv
    by_cases hne : n = rows.length
    · have hnn : ((n : Int) != (rows.length : Int)) = false := by simp; omega
      have Hbad := Lib.hid (fun h2 : ¬ VS n g => vs_bad hv hne h2)
      have Hok := Lib.hid (fun h2 : VS n g => vs_ok hv hne h2)
      have H := Lib.hid (show StAt w.heap.size w A' n g from h'.below (Below.refl _ _) hB)
      generalize vsR rows n g = r at Hbad Hok ⊢
      generalize rows.length = m at cv hnn hne ⊢
      clear h h' hv hne hv1
      go_enter Try.func40, Try.ntmps40
      go_wp2_with (go_at_call 31; refine cv.out.mono ?_; rintro e w1 ⟨rfl, hb1⟩)
      go_loopw [6] (fun i wr => ∃ k : Nat, k ≤ n ∧ i = .int .i64 k ∧ (∀ k', k' < k → okS g k') ∧ Below w.heap.size w wr) (fun i _ => n - (intOf i).toNat)
      case atStart => exact ⟨0, Nat.zero_le _, rfl, fun k' hk => absurd hk (Nat.not_lt_zero k'), hb1⟩
      case round =>
        obtain ⟨k, hk, rfl, hs, hb⟩ := hrel
        have Hs := Lib.hid hs
        clear hs
        by_cases hlt : k < n
        · obtain ⟨b, off, rfl, hbB, c0, c1, c2, c3⟩ := H.out.at hlt
          have d0 := (hb.cell (p := ⟨b, off + k * 4, none⟩) hbB).trans c0
          have d1 := (hb.cell (p := ⟨b, off + k * 4 + 1, none⟩) hbB).trans c1
          have d2 := (hb.cell (p := ⟨b, off + k * 4 + 2, none⟩) hbB).trans c2
          have d3 := (hb.cell (p := ⟨b, off + k * 4 + 3, none⟩) hbB).trans c3
          clear c0 c1 c2 c3
          have hbs := hb.size
          have hbw : b < wr.heap.size := by omega
          have hb1 : ∀ o, Below w.heap.size w (wr.alloc o) := fun o => hb.alloc hb.size _
          have Hbs := Lib.hid (fun (hno : ¬ okS g k) => Hbad.out fun hv => hno (hv k hlt))
          have Hss := Lib.hid (fun (ho : okS g k) => show ∀ k', k' < k + 1 → okS g k' from fun k' hk' => by
            by_cases e : k' = k
            · subst e; exact ho
            · exact Hs.out k' (by omega))
          have HO := Lib.hid (show okS g k ↔ (0 ≤ g k 0 ∧ g k 0 ≤ 10000) ∧ (0 ≤ g k 1 ∧ g k 1 ≤ 10000) ∧ (0 ≤ g k 2 ∧ g k 2 ≤ 10000) ∧ 0 ≤ g k 3 ∧ g k 3 ≤ 100 from
            ⟨fun h => ⟨h.1 0 (by omega), h.1 1 (by omega), h.1 2 (by omega), h.2⟩, fun h => ⟨fun j hj => by
              rcases (show j = 0 ∨ j = 1 ∨ j = 2 by omega) with e | e | e <;> subst e
              · exact h.1
              · exact h.2.1
              · exact h.2.2.1, h.2.2.2⟩⟩)
          generalize okS g k = O at Hbs Hss HO
          generalize g k 0 = x0 at d0 HO
          generalize g k 1 = x1 at d1 HO
          generalize g k 2 = x2 at d2 HO
          generalize g k 3 = x3 at d3 HO
          by_cases h0 : 0 ≤ x0 ∧ x0 ≤ 10000
          · have i0 := inI_true h0
            by_cases h1 : 0 ≤ x1 ∧ x1 ≤ 10000
            · have i1 := inI_true h1
              by_cases h2 : 0 ≤ x2 ∧ x2 ≤ 10000
              · have i2 := inI_true h2
                by_cases h3 : 0 ≤ x3 ∧ x3 ≤ 100
                · have i3 := inI_true h3
                  have Hr := Lib.hid (Hss.out (HO.out.2 ⟨h0, h1, h2, h3⟩))
                  clear h0 h1 h2 h3
                  go_wp2_with (go_at_call 60; refine (within_ref _ _ _ _).mono ?_; rintro e w2 ⟨rfl, rfl⟩)
                  go_roundw
                  case rel => exact ⟨k + 1, by omega, by go_num, Hr.out, hb1 _⟩
                  case measure => simp [intOf]; omega
                · have i3 := inI_false h3
                  have Hr := Lib.hid (Hbs.out fun ho => h3 (HO.out.1 ho).2.2.2)
                  clear h0 h1 h2 h3
                  go_wp2_with (go_at_call 60; refine (within_ref _ _ _ _).mono ?_; rintro e w2 ⟨rfl, rfl⟩)
                  go_ret
                  exact ⟨by rw [Hr.out]; rfl, hb1 _⟩
              · have i2 := inI_false h2
                have Hr := Lib.hid (Hbs.out fun ho => h2 (HO.out.1 ho).2.2.1)
                clear h0 h1 h2
                go_wp2_with (go_at_call 60; refine (within_ref _ _ _ _).mono ?_; rintro e w2 ⟨rfl, rfl⟩)
                go_ret
                exact ⟨by rw [Hr.out]; rfl, hb1 _⟩
            · have i1 := inI_false h1
              have Hr := Lib.hid (Hbs.out fun ho => h1 (HO.out.1 ho).2.1)
              clear h0 h1
              go_wp2_with (go_at_call 60; refine (within_ref _ _ _ _).mono ?_; rintro e w2 ⟨rfl, rfl⟩)
              go_ret
              exact ⟨by rw [Hr.out]; rfl, hb1 _⟩
          · have i0 := inI_false h0
            have Hr := Lib.hid (Hbs.out fun ho => h0 (HO.out.1 ho).1)
            clear h0
            go_wp2_with (go_at_call 60; refine (within_ref _ _ _ _).mono ?_; rintro e w2 ⟨rfl, rfl⟩)
            go_ret
            exact ⟨by rw [Hr.out]; rfl, hb1 _⟩
        · obtain rfl : k = n := by omega
          have Hr := Lib.hid (Hok.out Hs.out)
          go_wp2_with fail
          go_ret
          exact ⟨by rw [Hr.out]; rfl, hb⟩
    · have hnn : ((n : Int) != (rows.length : Int)) = true := by simp; omega
      have Hr := Lib.hid (vs_len (g := g) hv hne)
      generalize rows.length = m at cv hnn hne ⊢
      clear h h' hne hv
      go_enter Try.func40, Try.ntmps40
      go_wp2_with (go_at_call 31; refine cv.out.mono ?_; rintro e w1 ⟨rfl, hb1⟩)
      go_ret
      exact ⟨by rw [Hr.out]; rfl, hb1⟩
  · have Hr := Lib.hid (vs_ways (n := n) (g := g) hv)
    have hne : (vwR rows != 0) = true := by simpa using hv
    generalize vwR rows = e0 at cv hne Hr
    clear h h' hv
    go_enter Try.func40, Try.ntmps40
    go_wp2_with (go_at_call 31; refine cv.out.mono ?_; rintro e w1 ⟨rfl, hb1⟩)
    go_ret
    exact ⟨by rw [Hr.out]; rfl, hb1⟩

/-- The error of ways, stops and a tour. -/
noncomputable def tsR (rows : List (List Int)) (n : Nat) (g : Nat → Nat → Int) (t : List Int) : Int := if vsR rows n g ≠ 0 then vsR rows n g else tuR rows.length t
theorem ts_zero {rows : List (List Int)} {n : Nat} {g : Nat → Nat → Int} {t : List Int} (h : tsR rows n g t = 0) : (VW rows ∧ n = rows.length ∧ VS n g) ∧ tuR rows.length t = 0 := by
  unfold tsR at h
  split at h
  · contradiction
  · exact ⟨vs_zero (by simpa using ‹¬ vsR rows n g ≠ 0›), h⟩

set_option maxRecDepth 100000 in
set_option maxHeartbeats 1000000 in
theorem stopped_any (A A' A2 : Option Addr) (c c' c2 B : Nat) (rows : List (List Int)) (n : Nat) (g : Nat → Nat → Int) (t : List Int) (w : World) (hB : B ≤ w.heap.size) (h : TblAt B w A rows) (hl : rows.length ≤ 30 ∧ ∀ r ∈ rows, r.length ≤ 30) (h' : StAt B w A' n g) (hn : n ≤ 1000)
    (h2 : IntsAt B w A2 t) (hm : t.length ≤ 1000) (hcap : t.length ≤ c2) :
    Calls Try.prog 71 #[.slice A rows.length c, .slice A' n c', .slice A2 t.length c2] w fun e w' => e = .returned (.int .i64 (tsR rows n g t)) ∧ Below w.heap.size w w' := by
  have cv := Lib.hid (ValidateStops_any A A' c c' B rows n g w hB h hl.2 h' hn)
  by_cases hv : vsR rows n g = 0
  · have Hr := Lib.hid (show tsR rows n g t = tuR rows.length t from if_neg (by simpa using hv))
    have ct := Lib.hid (fun W (hW : Below w.heap.size w W) => isTour_any A A2 rows.length c c2 w.heap.size t W ((h2.below (Below.refl _ _) hB).below hW (Nat.le_refl _)) hm hcap)
    rw [hv] at cv
    clear h h' h2 hv
    go_enter Try.func71, Try.ntmps71
    go_wp2_with (first | (go_at_call 39; refine cv.out.mono ?_; rintro e w1 ⟨rfl, hb1⟩) | (go_at_call 93; refine (ct.out _ hb1).mono ?_; rintro e w2 ⟨rfl, rfl⟩))
    go_ret
    exact ⟨by rw [Hr.out]; rfl, hb1⟩
  · have Hr := Lib.hid (show tsR rows n g t = vsR rows n g from if_pos hv)
    have hne : (vsR rows n g != 0) = true := by simpa using hv
    generalize vsR rows n g = e0 at cv hne Hr
    clear h h' h2 hv
    go_enter Try.func71, Try.ntmps71
    go_wp2_with (go_at_call 39; refine cv.out.mono ?_; rintro e w1 ⟨rfl, hb1⟩)
    go_ret
    exact ⟨by rw [Hr.out]; rfl, hb1⟩

set_option maxRecDepth 100000 in
set_option maxHeartbeats 1000000 in
theorem toured_ref (A A' A2 : Option Addr) (c c' c2 B : Nat) (rows : List (List Int)) (n : Nat) (g : Nat → Nat → Int) (t : List Int) (w : World) (hB : B ≤ w.heap.size) (h : TblAt B w A rows) (hl : rows.length ≤ 30 ∧ ∀ r ∈ rows, r.length ≤ 30) (h' : StAt B w A' n g) (hn : n ≤ 1000)
    (h2 : IntsAt B w A2 t) (hm : t.length ≤ 1000) (hcap : t.length ≤ c2) :
    Calls Try.prog 73 #[.slice A rows.length c, .slice A' n c', .slice A2 t.length c2] w fun e w' => e = .returned (.int .i64 (tsR rows n g t)) ∧ Below w.heap.size w w' := by
  have cv := Lib.hid (ValidateStops_ref A A' c c' B rows n g w hB h hl h' hn)
  by_cases hv : vsR rows n g = 0
  · have Hr := Lib.hid (show tsR rows n g t = tuR rows.length t from if_neg (by simpa using hv))
    have hn0 := (vs_zero hv).1.n0
    have ct := Lib.hid (fun W (hW : Below w.heap.size w W) => isTour_ref A A2 rows.length c c2 w.heap.size t W hW.size ((h2.below (Below.refl _ _) hB).below hW (Nat.le_refl _)) hm hn0 (by omega))
    rw [hv] at cv
    clear h h' h2 hv
    go_enter Try.func73, Try.ntmps73
    go_wp2_with (first | (go_at_call 40; refine cv.out.mono ?_; rintro e w1 ⟨rfl, hb1⟩) | (go_at_call 67; refine (ct.out _ hb1).mono ?_; rintro e w2 ⟨rfl, hb2⟩))
    go_ret
    exact ⟨by rw [Hr.out]; rfl, hb1.trans (hb2.mono hb1.size)⟩
  · have Hr := Lib.hid (show tsR rows n g t = vsR rows n g from if_pos hv)
    have hne : (vsR rows n g != 0) = true := by simpa using hv
    generalize vsR rows n g = e0 at cv hne Hr
    clear h h' h2 hv
    go_enter Try.func73, Try.ntmps73
    go_wp2_with (go_at_call 40; refine cv.out.mono ?_; rintro e w1 ⟨rfl, hb1⟩)
    go_ret
    exact ⟨by rw [Hr.out]; rfl, hb1⟩
end Go.Proofs.Ytmodbpglopfghaa
