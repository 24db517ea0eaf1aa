/- Validate. -/
import Derived.Test.YtmodbpglopfghaaVanA
set_option linter.unusedSimpArgs false
namespace Go.Proofs.Ytmodbpglopfghaa
open Go.RowKit

/-- A square table in memory. -/
def WaAt (B : Nat) (w : World) (b off n : Nat) (f : Nat → Nat → Int) : Prop :=
  b < B ∧ ∀ i, i < n → ∃ b1 off1 c1, b1 < B ∧ w.cell? ⟨b, off + i, none⟩ = some (.slice (some ⟨b1, off1, none⟩) n c1) ∧ ∀ j, j < n → w.cell? ⟨b1, off1 + j, none⟩ = some (.int .i64 (f i j))
theorem WaAt.below {B B' : Nat} {w w' : World} {b off n : Nat} {f : Nat → Nat → Int} (h : WaAt B w b off n f) (hb : Below B w w') (hB : B ≤ B') : WaAt B' w' b off n f := by
  refine ⟨by have := h.1; omega, fun i hi => ?_⟩
  obtain ⟨b1, off1, c1, h1, h2, h3⟩ := h.2 i hi
  exact ⟨b1, off1, c1, by omega, (hb.cell (p := ⟨b, off + i, none⟩) h.1).trans h2, fun j hj => (hb.cell (p := ⟨b1, off1 + j, none⟩) h1).trans (h3 j hj)⟩
theorem TblAt.wa {B : Nat} {w : World} {A : Option Addr} {rows : List (List Int)} (h : TblAt B w A rows) (hs : ∀ r ∈ rows, r.length = rows.length) (h1 : 1 ≤ rows.length) : ∃ b off, A = some ⟨b, off, none⟩ ∧ WaAt B w b off rows.length (wy rows) := by
  obtain ⟨b, off, b1, off1, c1, rfl, h2, _⟩ := h.way hs (i := 0) (j := 0) (by omega) (by omega)
  refine ⟨b, off, rfl, h2, fun i hi => ?_⟩
  obtain ⟨b', off', A2, c2, e, _, h4, h5⟩ := h i hi
  injection e with e
  injection e with e1 e2
  subst e1 e2
  have hl := sq_get hs hi
  obtain ⟨b2, off2, rfl, h6, _⟩ := h5.at (k := 0) (by omega)
  rw [hl] at h4
  refine ⟨b2, off2, c2, h6, h4, fun j hj => ?_⟩
  obtain ⟨h7, h8⟩ := h5.cells (k := j) (by omega)
  rw [wy_get hi (by omega)] at h8
  exact h8

theorem six (x y : Int) (i j : Nat) : (x < 0) ∨ (0 ≤ x ∧ 1000 < x) ∨ ((0 ≤ x ∧ x ≤ 1000) ∧ x ≠ y) ∨ ((0 ≤ x ∧ x ≤ 1000) ∧ x = y ∧ i = j ∧ x ≠ 0) ∨ ((0 ≤ x ∧ x ≤ 1000) ∧ x = y ∧ i = j ∧ x = 0) ∨ ((0 ≤ x ∧ x ≤ 1000) ∧ x = y ∧ i ≠ j) := by omega

set_option maxRecDepth 100000 in
set_option maxHeartbeats 1000000 in
theorem Validate_any (A : Option Addr) (c B : Nat) (rows : List (List Int)) (w : World) (h : TblAt B w A rows) (hl : ∀ r ∈ rows, r.length ≤ 30) :
    Calls Try.prog 30 #[.slice A rows.length c] w fun e w' => e = .returned (.int .i64 (vwR rows)) ∧ w' = w := by
  by_cases h1 : rows.length < 1 ∨ 7 < rows.length
  · have Hr := Lib.hid (vw_large h1)
    rcases h1 with h1 | h1
    · have hd : decide ((rows.length : Int) < 1) = true := by simp; omega
      have hd' : (rows.length : Int) < 1 := by omega
      go_enter Try.func30, Try.ntmps30
      go_wp2_with fail
      go_ret
      exact ⟨by rw [Hr.out]; rfl, rfl⟩
    · have hd : decide ((rows.length : Int) < 1) = false := by simp; omega
      have hd2 : decide ((7 : Int) < (rows.length : Int)) = true := by simp; omega
      have hd' : (1 : Int) ≤ rows.length := by omega
      have hd2' : (7 : Int) < (rows.length : Int) := by omega
      go_enter Try.func30, Try.ntmps30
      go_wp2_with fail
      go_ret
      exact ⟨by rw [Hr.out]; rfl, rfl⟩
  · have hd : decide ((rows.length : Int) < 1) = false := by simp; omega
    have hd2 : decide ((7 : Int) < (rows.length : Int)) = false := by simp; omega
    have hd' : (1 : Int) ≤ rows.length := by omega
    have hd2' : (rows.length : Int) ≤ 7 := by omega
    have Hbad := Lib.hid (fun h' : ¬ VW rows => vw_bad h1 h')
    have Hok := Lib.hid (fun h' : VW rows => vw_ok h')
    have H := Lib.hid h
    have Hl := Lib.hid hl
    have hn1 : 1 ≤ rows.length := by omega
    have hn7 : rows.length ≤ 7 := by omega
    generalize vwR rows = r at Hbad Hok ⊢
    clear h hl h1
    go_enter Try.func30, Try.ntmps30
    go_wp2_with fail
    go_loop [20] (fun i => ∃ k : Nat, k ≤ rows.length ∧ i = .int .i64 k ∧ ∀ j (hj : j < rows.length), j < k → rows[j].length = rows.length) (fun i => rows.length - (intOf i).toNat)
    case atStart => exact ⟨0, Nat.zero_le _, rfl, fun j _ hk => absurd hk (Nat.not_lt_zero j)⟩
    case round =>
      obtain ⟨k, hk, rfl, hn⟩ := hrel
      have Hn := Lib.hid hn
      clear hn
      by_cases hlt : k < rows.length
      · obtain ⟨b, off, A1, c1, rfl, hbB, e0, i1⟩ := H.out k hlt
        have h30 := Hl.out rows[k] (List.getElem_mem hlt)
        by_cases h3 : rows[k].length = rows.length
        · have Hn2 := Lib.hid (show ∀ j (hj : j < rows.length), j < k + 1 → rows[j].length = rows.length from fun j hj hjk => by
            by_cases e : j = k
            · subst e; exact h3
            · exact Hn.out j hj (by omega))
          rw [h3] at e0
          clear h3 i1 h30
          go_wp2_with fail
          go_round
          case rel => exact ⟨k + 1, by omega, by go_num, Hn2.out⟩
          case measure => simp [intOf]; omega
        · have Hr := Lib.hid (Hbad.out fun hv => h3 (hv.sq _ (List.getElem_mem hlt)))
          have hne : (((rows[k].length : Nat) : Int) == (rows.length : Int)) = false := by simp; omega
          have hne2 : (((rows[k].length : Nat) : Int) != (rows.length : Int)) = true := by simp; omega
          generalize rows[k].length = m at e0 hne hne2 h30
          clear h3 i1
          go_wp2_with fail
          go_ret
          exact ⟨by rw [Hr.out]; rfl, rfl⟩
      · obtain rfl : k = rows.length := by omega
        have Hsq := Lib.hid (show ∀ r ∈ rows, r.length = rows.length from fun r hr => by
          obtain ⟨j, hj, rfl⟩ := List.mem_iff_getElem.1 hr
          exact Hn.out j hj hj)
        obtain ⟨b, off, rfl, hwa⟩ := H.out.wa Hsq.out hn1
        have HW := Lib.hid hwa
        clear hwa Hn
        have Hok2 := Lib.hid (fun ho => Hok.out ⟨hn1, hn7, Hsq.out, ho⟩)
        have Hbad2 := Lib.hid (fun i j (hi : i < rows.length) (hj : j < rows.length) (hne : ¬ okP rows i j) => Hbad.out fun hv => hne (hv.ok i j hi hj))
        clear Hok Hbad Hsq H Hl
        go_wp2_with fail
        go_loop [31] (fun i => ∃ k : Nat, k ≤ rows.length ∧ i = .int .i64 k ∧ ∀ i' j', i' < k → j' < rows.length → okP rows i' j') (fun i => rows.length - (intOf i).toNat)
        case atStart => exact ⟨0, Nat.zero_le _, rfl, fun i' j' hk => absurd hk (Nat.not_lt_zero i')⟩
        case round =>
          obtain ⟨i, hi, rfl, hn⟩ := hrel
          have Hn := Lib.hid hn
          clear hn
          by_cases hlt : i < rows.length
          · obtain ⟨b1, o1, c1, hb1, e1, f1⟩ := HW.out.2 i hlt
            have F1 := Lib.hid f1
            clear f1
            go_wp2_with fail
            go_loop [38] (fun s => ∃ j : Nat, j ≤ rows.length ∧ s = .int .i64 j ∧ ∀ j', j' < j → okP rows i j') (fun s => rows.length - (intOf s).toNat)
            case atStart => exact ⟨0, Nat.zero_le _, rfl, fun j' hk => absurd hk (Nat.not_lt_zero j')⟩
            case round =>
              obtain ⟨j, hj, rfl, hm⟩ := hrel
              have Hm := Lib.hid hm
              clear hm
              by_cases hjlt : j < rows.length
              · have q1 := F1.out j hjlt
                obtain ⟨b2, o2, c2, hb2, e2, f2⟩ := HW.out.2 j hjlt
                have q2 := f2 i hlt
                have HOk := Lib.hid (show okP rows i j ↔ (0 ≤ wy rows i j ∧ wy rows i j ≤ 1000) ∧ wy rows i j = wy rows j i ∧ (i = j → wy rows i j = 0) from Iff.rfl)
                have Hb3 := Lib.hid (Hbad2.out i j hlt hjlt)
                have Hm2 := Lib.hid (fun (ho : okP rows i j) => show ∀ j', j' < j + 1 → okP rows i j' from fun j' hj' => by
                  by_cases e : j' = j
                  · subst e; exact ho
                  · exact Hm.out j' (by omega))
                clear f2
                generalize okP rows i j = O at HOk Hb3 Hm2
                generalize wy rows i j = x at q1 HOk
                generalize wy rows j i = y at q2 HOk
                rcases six x y i j with h | ⟨h, h'⟩ | ⟨h, h'⟩ | ⟨h, h2, h3, h4⟩ | ⟨h, h2, h3, h4⟩ | ⟨h, h2, h3⟩
                · have Hr := Lib.hid (Hb3.out fun ho => by have := (HOk.out.1 ho).1; omega)
                  have hx : decide (x < 0) = true := by simpa using h
                  go_wp2_with fail
                  go_ret
                  exact ⟨by rw [Hr.out]; rfl, rfl⟩
                · have Hr := Lib.hid (Hb3.out fun ho => by have := (HOk.out.1 ho).1; omega)
                  have hx : decide (x < 0) = false := by simpa using h
                  have hx2 : decide (1000 < x) = true := by simpa using h'
                  go_wp2_with fail
                  go_ret
                  exact ⟨by rw [Hr.out]; rfl, rfl⟩
                · have Hr := Lib.hid (Hb3.out fun ho => h' (HOk.out.1 ho).2.1)
                  have hx : decide (x < 0) = false := by simpa using h.1
                  have hx2 : decide (1000 < x) = false := by simpa using h.2
                  have hx3 : (x != y) = true := by simpa using h'
                  obtain ⟨h5, h6⟩ := h
                  clear h'
                  go_wp2_with fail
                  go_ret
                  exact ⟨by rw [Hr.out]; rfl, rfl⟩
                · have Hr := Lib.hid (Hb3.out fun ho => h4 ((HOk.out.1 ho).2.2 h3))
                  have hx : decide (x < 0) = false := by simpa using h.1
                  have hx2 : decide (1000 < x) = false := by simpa using h.2
                  have hx3 : (x != y) = false := by simpa using h2
                  have hij : ((i : Int) == (j : Int)) = true := by simp; omega
                  have hx4 : (x != 0) = true := by simpa using h4
                  obtain ⟨h5, h6⟩ := h
                  clear h2 h3 h4
                  go_wp2_with fail
                  go_ret
                  exact ⟨by rw [Hr.out]; rfl, rfl⟩
                · have Hr := Lib.hid (Hm2.out (HOk.out.2 ⟨h, h2, fun _ => h4⟩))
                  have hx : decide (x < 0) = false := by simpa using h.1
                  have hx2 : decide (1000 < x) = false := by simpa using h.2
                  have hx3 : (x != y) = false := by simpa using h2
                  have hij : ((i : Int) == (j : Int)) = true := by simp; omega
                  have hx4 : (x != 0) = false := by simpa using h4
                  obtain ⟨h5, h6⟩ := h
                  clear h2 h3 h4
                  go_wp2_with fail
                  go_round
                  case rel => exact ⟨j + 1, by omega, by go_num, Hr.out⟩
                  case measure => simp [intOf]; omega
                · have Hr := Lib.hid (Hm2.out (HOk.out.2 ⟨h, h2, fun e => absurd e h3⟩))
                  have hx : decide (x < 0) = false := by simpa using h.1
                  have hx2 : decide (1000 < x) = false := by simpa using h.2
                  have hx3 : (x != y) = false := by simpa using h2
                  have hij : ((i : Int) == (j : Int)) = false := by simp; omega
                  obtain ⟨h5, h6⟩ := h
                  clear h2 h3
                  go_wp2_with fail
                  go_round
                  case rel => exact ⟨j + 1, by omega, by go_num, Hr.out⟩
                  case measure => simp [intOf]; omega
              · obtain rfl : j = rows.length := by omega
                have Hn2 := Lib.hid (show ∀ i' j', i' < i + 1 → j' < rows.length → okP rows i' j' from fun i' j' hi' hj' => by
                  by_cases e : i' = i
                  · subst e; exact Hm.out j' hj'
                  · exact Hn.out i' j' (by omega) hj')
                go_wp2_with fail
                go_round
                case rel => exact ⟨i + 1, by omega, by go_num, Hn2.out⟩
                case measure => simp [intOf]; omega
          · obtain rfl : i = rows.length := by omega
            have Hr := Lib.hid (Hok2.out fun i' j' hi' hj' => Hn.out i' j' hi' hj')
            go_wp2_with fail
            go_ret
            exact ⟨by rw [Hr.out]; rfl, rfl⟩
theorem below_drewN {B : Nat} {a w : World} (h : Below B a w) (n : Nat) : Below B a (w.drewN n) := ⟨h.os, h.tape, h.output, h.size, h.block⟩

set_option maxRecDepth 100000 in
set_option maxHeartbeats 2000000 in
theorem Validate_ref (A : Option Addr) (c B : Nat) (rows : List (List Int)) (w : World) (hB : B ≤ w.heap.size) (h : TblAt B w A rows) (hl : rows.length ≤ 30 ∧ ∀ r ∈ rows, r.length ≤ 30) :
    Calls Try.prog 31 #[.slice A rows.length c] w fun e w' => e = .returned (.int .i64 (vwR rows)) ∧ Below w.heap.size w w' := by
  have c0 := Lib.hid (within_ref (rows.length : Int) 1 7 w)
  by_cases h1 : rows.length < 1 ∨ 7 < rows.length
  · have Hr := Lib.hid (vw_large h1)
    have hi : inI (rows.length : Int) 1 7 = false := by simp [inI]; omega
    rw [hi] at c0
    clear h h1 hl hi
    go_enter Try.func31, Try.ntmps31
    go_wp2_with (go_at_call 60; refine c0.out.mono ?_; rintro e w1 ⟨rfl, hw1⟩; obtain rfl := hw1.symm; clear hw1)
    go_ret
    exact ⟨by rw [Hr.out]; rfl, Below.refl _ _⟩
  · have Hbad := Lib.hid (fun h' : ¬ VW rows => vw_bad h1 h')
    have Hok := Lib.hid (fun h' : VW rows => vw_ok h')
    have hi : inI (rows.length : Int) 1 7 = true := by simp [inI]; omega
    rw [hi] at c0
    have H := Lib.hid (h.below (Below.refl _ _) hB)
    have Hl := Lib.hid hl.2
    have hn1 : 1 ≤ rows.length := by omega
    have hn7 : rows.length ≤ 7 := by omega
    generalize vwR rows = r at Hbad Hok ⊢
    clear h hl h1 hi hB
    go_enter Try.func31, Try.ntmps31
    go_wp2_with (go_at_call 60; refine c0.out.mono ?_; rintro e w1 ⟨rfl, hw1⟩; obtain rfl := hw1.symm; clear hw1)
    go_loop [3] (fun i => ∃ k : Nat, k ≤ rows.length ∧ i = .int .i64 k ∧ ∀ j (hj : j < rows.length), j < k → rows[j].length = rows.length) (fun i => rows.length - (intOf i).toNat)
    case atStart => exact ⟨0, Nat.zero_le _, rfl, fun j _ hk => absurd hk (Nat.not_lt_zero j)⟩
    case round =>
      obtain ⟨k, hk, rfl, hn⟩ := hrel
      have Hn := Lib.hid hn
      clear hn
      by_cases hlt : k < rows.length
      · obtain ⟨b, off, A1, c1, rfl, hbB, e0, i1⟩ := H.out k hlt
        have h30 := Hl.out rows[k] (List.getElem_mem hlt)
        by_cases h3 : rows[k].length = rows.length
        · have Hn2 := Lib.hid (show ∀ j (hj : j < rows.length), j < k + 1 → rows[j].length = rows.length from fun j hj hjk => by
            by_cases e : j = k
            · subst e; exact h3
            · exact Hn.out j hj (by omega))
          rw [h3] at e0
          clear h3 i1 h30
          go_wp2_with fail
          go_round
          case rel => exact ⟨k + 1, by omega, by go_num, Hn2.out⟩
          case measure => simp [intOf]; omega
        · have Hr := Lib.hid (Hbad.out fun hv => h3 (hv.sq _ (List.getElem_mem hlt)))
          have hne : (((rows[k].length : Nat) : Int) == (rows.length : Int)) = false := by simp; omega
          have hne2 : (((rows[k].length : Nat) : Int) != (rows.length : Int)) = true := by simp; omega
          generalize rows[k].length = m at e0 hne hne2 h30
          clear h3 i1
          go_wp2_with fail
          go_ret
          exact ⟨by rw [Hr.out]; rfl, Below.refl _ _⟩
      · obtain rfl : k = rows.length := by omega
        have Hsq := Lib.hid (show ∀ r ∈ rows, r.length = rows.length from fun r hr => by
          obtain ⟨j, hj, rfl⟩ := List.mem_iff_getElem.1 hr
          exact Hn.out j hj hj)
        obtain ⟨b, off, rfl, hwa⟩ := H.out.wa Hsq.out hn1
        have HW := Lib.hid hwa
        clear hwa Hn
        have Hok2 := Lib.hid (fun ho => Hok.out ⟨hn1, hn7, Hsq.out, ho⟩)
        have Hbad2 := Lib.hid (fun i j (hi : i < rows.length) (hj : j < rows.length) (hne : ¬ okP rows i j) => Hbad.out fun hv => hne (hv.ok i j hi hj))
        clear Hok Hbad Hsq H Hl c0
        have hw0 := Below.refl w.heap.size w
        go_wp2_with fail
        go_loopw [4] (fun s wr => ∃ k : Nat, k ≤ rows.length ∧ s = .int .i64 k ∧ Below w.heap.size w wr ∧ ∀ i' j', i' < k → j' < rows.length → okP rows i' j') (fun s _ => rows.length - (intOf s).toNat)
        case atStart => exact ⟨0, Nat.zero_le _, rfl, hw0, fun i' j' hk => absurd hk (Nat.not_lt_zero i')⟩
        case round =>
          obtain ⟨i, hi, rfl, hbr, hn⟩ := hrel
          have Hn := Lib.hid hn
          clear hn hw0
          by_cases hlt : i < rows.length
          · go_wp2_with fail
            go_loopw [5] (fun s wr => ∃ j : Nat, j ≤ rows.length ∧ s = .int .i64 j ∧ Below w.heap.size w wr ∧ ∀ j', j' < j → okP rows i j') (fun s _ => rows.length - (intOf s).toNat)
            case atStart => exact ⟨0, Nat.zero_le _, rfl, hbr, fun j' hk => absurd hk (Nat.not_lt_zero j')⟩
            case round =>
              clear hbr
              obtain ⟨j, hj, rfl, hbr, hm⟩ := hrel
              have Hm := Lib.hid hm
              clear hm
              have HBr := Lib.hid hbr
              have HW2 := Lib.hid (HW.out.below hbr (Nat.le_refl _))
              clear hbr
              by_cases hjlt : j < rows.length
              · obtain ⟨b1, o1, c1, hb1, e1, f1⟩ := HW2.out.2 i hlt
                have q1 := f1 j hjlt
                obtain ⟨b2, o2, c2, hb2, e2, f2⟩ := HW2.out.2 j hjlt
                have q2 := f2 i hlt
                have HOk := Lib.hid (show okP rows i j ↔ (0 ≤ wy rows i j ∧ wy rows i j ≤ 1000) ∧ wy rows i j = wy rows j i ∧ (i = j → wy rows i j = 0) from Iff.rfl)
                have Hb3 := Lib.hid (Hbad2.out i j hlt hjlt)
                have Hm2 := Lib.hid (fun (ho : okP rows i j) => show ∀ j', j' < j + 1 → okP rows i j' from fun j' hj' => by
                  by_cases e : j' = j
                  · subst e; exact ho
                  · exact Hm.out j' (by omega))
                clear f1 f2
                generalize okP rows i j = O at HOk Hb3 Hm2
                generalize wy rows i j = x at q1 HOk
                generalize wy rows j i = y at q2 HOk
                have cw := Lib.hid (fun W => within_ref x 0 1000 W)
                have hlI : (i : Int) < (rows.length : Int) := by omega
                have hlJ : (j : Int) < (rows.length : Int) := by omega
                have hi0 : (0 : Int) ≤ (i : Int) := by omega
                have hj0 : (0 : Int) ≤ (j : Int) := by omega
                rcases six x y i j with h | ⟨h, h'⟩ | ⟨h, h'⟩ | ⟨h, h2, h3, h4⟩ | ⟨h, h2, h3, h4⟩ | ⟨h, h2, h3⟩
                · have Hr := Lib.hid (Hb3.out fun ho => by have := (HOk.out.1 ho).1; omega)
                  rw [show inI x 0 1000 = false by simp [inI]; omega] at cw
                  clear h
                  go_wp2_with fail
                  go_quiet ((go_at_call 60; exact Calls.quiet_of_same (cw.out _)))
                  go_wp2_with fail
                  go_ret
                  exact ⟨by rw [Hr.out]; rfl, below_drewN HBr.out _⟩
                · have Hr := Lib.hid (Hb3.out fun ho => by have := (HOk.out.1 ho).1; omega)
                  rw [show inI x 0 1000 = false by simp [inI]; omega] at cw
                  clear h h'
                  go_wp2_with fail
                  go_quiet ((go_at_call 60; exact Calls.quiet_of_same (cw.out _)))
                  go_wp2_with fail
                  go_ret
                  exact ⟨by rw [Hr.out]; rfl, below_drewN HBr.out _⟩
                · have Hr := Lib.hid (Hb3.out fun ho => h' (HOk.out.1 ho).2.1)
                  rw [show inI x 0 1000 = true by simp [inI]; omega] at cw
                  have hx3 : (x != y) = true := by simpa using h'
                  clear h h'
                  go_wp2_with fail
                  go_quiet ((go_at_call 60; exact Calls.quiet_of_same (cw.out _)))
                  go_wp2_with fail
                  go_ret
                  exact ⟨by rw [Hr.out]; rfl, below_drewN HBr.out _⟩
                · have Hr := Lib.hid (Hb3.out fun ho => h4 ((HOk.out.1 ho).2.2 h3))
                  rw [show inI x 0 1000 = true by simp [inI]; omega] at cw
                  have hx3 : (x != y) = false := by simpa using h2
                  have hij : ((i : Int) == (j : Int)) = true := by simp; omega
                  have hx4 : (x != 0) = true := by simpa using h4
                  clear h h2 h3 h4
                  go_wp2_with fail
                  go_quiet ((go_at_call 60; exact Calls.quiet_of_same (cw.out _)))
                  go_wp2_with fail
                  go_ret
                  exact ⟨by rw [Hr.out]; rfl, below_drewN HBr.out _⟩
                · have Hr := Lib.hid (Hm2.out (HOk.out.2 ⟨h, h2, fun _ => h4⟩))
                  rw [show inI x 0 1000 = true by simp [inI]; omega] at cw
                  have hx3 : (x != y) = false := by simpa using h2
                  have hij : ((i : Int) == (j : Int)) = true := by simp; omega
                  have hx4 : (x != 0) = false := by simpa using h4
                  clear h h2 h3 h4
                  go_wp2_with fail
                  go_quiet ((go_at_call 60; exact Calls.quiet_of_same (cw.out _)))
                  go_wp2_with fail
                  go_roundw
                  case rel => exact ⟨j + 1, by omega, by go_num, below_drewN HBr.out _, Hr.out⟩
                  case measure => simp [intOf]; omega
                · have Hr := Lib.hid (Hm2.out (HOk.out.2 ⟨h, h2, fun e => absurd e h3⟩))
                  rw [show inI x 0 1000 = true by simp [inI]; omega] at cw
                  have hx3 : (x != y) = false := by simpa using h2
                  have hij : ((i : Int) == (j : Int)) = false := by simp; omega
                  clear h h2 h3
                  go_wp2_with fail
                  go_quiet ((go_at_call 60; exact Calls.quiet_of_same (cw.out _)))
                  go_wp2_with fail
                  go_roundw
                  case rel => exact ⟨j + 1, by omega, by go_num, below_drewN HBr.out _, Hr.out⟩
                  case measure => simp [intOf]; omega
              · obtain rfl : j = rows.length := by omega
                have Hn2 := Lib.hid (show ∀ i' j', i' < i + 1 → j' < rows.length → okP rows i' j' from fun i' j' hi' hj' => by
                  by_cases e : i' = i
                  · subst e; exact Hm.out j' hj'
                  · exact Hn.out i' j' (by omega) hj')
                go_wp2_with fail
                go_roundw
                case rel => exact ⟨i + 1, by omega, by go_num, HBr.out, Hn2.out⟩
                case measure => simp [intOf]; omega
          · obtain rfl : i = rows.length := by omega
            have Hr := Lib.hid (Hok2.out fun i' j' hi' hj' => Hn.out i' j' hi' hj')
            go_wp2_with fail
            go_ret
            exact ⟨by rw [Hr.out]; rfl, hbr⟩
end Go.Proofs.Ytmodbpglopfghaa
