/- Which tours are valid; Length. -/
import Derived.Test.YtmodbpglopfghaaVanAa
set_option linter.unusedSimpArgs false
set_option linter.unusedVariables false
namespace Go.Proofs.Ytmodbpglopfghaa
open Go.RowKit

/-- The error of a tour of n places. -/
def tuR (n : Nat) (t : List Int) : Int := if ∀ x ∈ t, 1 ≤ x ∧ x < (n : Int) then (if t.Nodup then 0 else 6) else 5
theorem tu_none {n : Nat} {t : List Int} {k : Nat} (hk : k < t.length) (h : ¬ (1 ≤ t[k] ∧ t[k] < (n : Int))) : tuR n t = 5 := by
  unfold tuR
  rw [if_neg (fun h' => h (h' _ (List.getElem_mem hk)))]
theorem tu_twice {n : Nat} {t : List Int} (h : ∀ x ∈ t, 1 ≤ x ∧ x < (n : Int)) (hd : ¬ t.Nodup) : tuR n t = 6 := by
  unfold tuR
  rw [if_pos h, if_neg hd]
theorem tu_ok {n : Nat} {t : List Int} (h : ∀ x ∈ t, 1 ≤ x ∧ x < (n : Int)) (hd : t.Nodup) : tuR n t = 0 := by
  unfold tuR
  rw [if_pos h, if_pos hd]
theorem tu_zero {n : Nat} {t : List Int} (h : tuR n t = 0) : (∀ x ∈ t, 1 ≤ x ∧ x < (n : Int)) ∧ t.Nodup := by
  unfold tuR at h
  split at h
  · split at h
    · exact ⟨‹_›, ‹_›⟩
    · contradiction
  · contradiction
/-- The places of a tour. -/
def toN (t : List Int) : List Nat := t.map Int.toNat
theorem toN_length (t : List Int) : (toN t).length = t.length := by simp [toN]
theorem toN_intL {t : List Int} (h : ∀ x ∈ t, 0 ≤ x) : intL (toN t) = t := by
  unfold intL toN
  rw [List.map_map]
  conv => rhs; rw [← List.map_id t]
  apply List.map_congr_left
  intro x hx
  have := h x hx
  simp
  omega
theorem intL_toN (t : List Nat) : toN (intL t) = t := by
  unfold intL toN
  rw [List.map_map]
  conv => rhs; rw [← List.map_id t]
  apply List.map_congr_left
  intro x hx
  simp
theorem tu_stp {n : Nat} {t : List Int} (h : tuR n t = 0) : intL (toN t) = t ∧ Stp n (toN t) := by
  obtain ⟨h1, h2⟩ := tu_zero h
  refine ⟨toN_intL fun x hx => by have := h1 x hx; omega, ?_, fun x hx => ?_⟩
  · unfold toN List.Nodup
    rw [List.pairwise_map]
    refine List.Pairwise.imp_of_mem ?_ h2
    intro a b ha hb hne e
    have := h1 a ha
    have := h1 b hb
    exact hne (by omega)
  · unfold toN at hx
    obtain ⟨y, hy, rfl⟩ := List.mem_map.1 hx
    have := h1 y hy
    omega
theorem stp_tu {n : Nat} {t : List Nat} (h : Stp n t) : tuR n (intL t) = 0 := by
  refine tu_ok (fun x hx => ?_) ?_
  · unfold intL at hx
    obtain ⟨y, hy, rfl⟩ := List.mem_map.1 hx
    have := h.2 y hy
    omega
  · unfold intL List.Nodup
    rw [List.pairwise_map]
    exact h.1.imp fun h e => h (by omega)
theorem nodup_take {t : List Int} {k : Nat} (hk : k < t.length) (h : (t.take k).Nodup) (hc : (t.take k).contains t[k] = false) : (t.take (k + 1)).Nodup := by
  rw [List.take_succ_eq_append_getElem hk]
  refine List.nodup_append.2 ⟨h, by simp, fun x hx y hy => ?_⟩
  rw [List.mem_singleton] at hy
  subst hy
  intro e
  subst e
  rw [List.contains_iff_mem.2 hx] at hc; cases hc
theorem not_nodup_take {t : List Int} {k : Nat} (hk : k < t.length) (hc : (t.take k).contains t[k] = true) : ¬ t.Nodup := fun h => by
  have hm := List.contains_iff_mem.1 hc
  obtain ⟨j, hj, e⟩ := List.mem_iff_getElem.1 hm
  rw [List.getElem_take] at e
  rw [List.length_take] at hj
  have := (List.nodup_iff_pairwise_ne.1 h)
  rw [List.pairwise_iff_getElem] at this
  exact this j k (by omega) hk (by omega) e

set_option maxRecDepth 100000 in
set_option maxHeartbeats 1000000 in
theorem isTour_any (A A' : Option Addr) (n c c' B : Nat) (t : List Int) (w : World) (h : IntsAt B w A' t) (hm : t.length ≤ 1000) (hcap : t.length ≤ c') :
    Calls Try.prog 93 #[.slice A n c, .slice A' t.length c'] w fun e w' => e = .returned (.int .i64 (tuR n t)) ∧ w = w' := by
  have H := Lib.hid h
  have Hnone := Lib.hid (fun k (hk : k < t.length) hb => tu_none (n := n) hk hb)
  have Htw := Lib.hid (fun h1 h2 => tu_twice (n := n) (t := t) h1 h2)
  have Hok := Lib.hid (fun h1 h2 => tu_ok (n := n) (t := t) h1 h2)
  clear h
  go_enter Try.func93, Try.ntmps93
  go_wp2_with fail
  go_loop [11] (fun vk => ∃ k : Nat, k ≤ t.length ∧ vk = .int .i64 k ∧ Aside (∀ j (hj : j < t.length), j < k → 1 ≤ t[j] ∧ t[j] < (n : Int))) (fun vk => t.length - (intOf vk).toNat)
  case atStart => exact ⟨0, Nat.zero_le _, rfl, fun j _ hk => absurd hk (Nat.not_lt_zero j)⟩
  case round =>
    obtain ⟨k, hk, rfl, hn⟩ := hrel
    have HN := Lib.hid hn.out
    clear hn
    by_cases hlt : k < t.length
    · obtain ⟨b1, o1, rfl, hb1, y0⟩ := H.out.at hlt
      have Hbad := Lib.hid (Hnone.out k hlt)
      have Hstep := Lib.hid (fun (hx : 1 ≤ t[k] ∧ t[k] < (n : Int)) => show ∀ j (hj : j < t.length), j < k + 1 → 1 ≤ t[j] ∧ t[j] < (n : Int) from fun j hj hjk => by
        by_cases e : j = k
        · subst e; exact hx
        · exact HN.out j hj (by omega))
      generalize t[k] = x at y0 Hbad Hstep
      by_cases h1 : x < 1
      · have hd1 : decide (x < 1) = true := by simpa using h1
        have HR := Lib.hid (Hbad.out (by omega))
        go_wp2_with fail
        go_ret
        exact ⟨by rw [HR.out]; rfl, rfl⟩
      · have hd1 : decide (x < 1) = false := by simpa using h1
        by_cases h2 : (n : Int) ≤ x
        · have hd2 : decide ((n : Int) ≤ x) = true := by simpa using h2
          have HR := Lib.hid (Hbad.out (by omega))
          clear h1
          go_wp2_with fail
          go_ret
          exact ⟨by rw [HR.out]; rfl, rfl⟩
        · have hd2 : decide ((n : Int) ≤ x) = false := by simpa using h2
          have HN2 := Lib.hid (Hstep.out (by omega))
          clear h1 h2
          go_wp2_with fail
          go_round
          case rel => exact ⟨k + 1, by omega, by go_num, HN2.out⟩
          case measure => simp [intOf]; omega
    · obtain rfl : k = t.length := by omega
      have HAll := Lib.hid (show ∀ x ∈ t, 1 ≤ x ∧ x < (n : Int) from fun x hx => by
        obtain ⟨j, hj, rfl⟩ := List.mem_iff_getElem.1 hx
        exact HN.out j hj hj)
      clear HN
      go_wp2_with fail
      go_loop [26] (fun vk => ∃ k : Nat, k ≤ t.length ∧ vk = .int .i64 k ∧ Aside ((t.take k).Nodup)) (fun vk => t.length - (intOf vk).toNat)
      case atStart => exact ⟨0, Nat.zero_le _, rfl, (by simp : (t.take 0).Nodup)⟩
      case round =>
        obtain ⟨k, hk, rfl, hn⟩ := hrel
        have HN := Lib.hid hn.out
        clear hn
        by_cases hlt : k < t.length
        · obtain ⟨b1, o1, rfl, hb1, y0⟩ := H.out.at hlt
          have cc := contains_any (some ⟨b1, o1, none⟩) c' B (t.take k) t[k] w (by simp; omega) (H.out.take k)
          rw [List.length_take, Nat.min_eq_left hk] at cc
          have CC := Lib.hid cc
          have Ht1 := Lib.hid (fun hc => not_nodup_take hlt hc)
          have Ht2 := Lib.hid (fun hc => nodup_take hlt HN.out hc)
          have hkc : k ≤ c' := by omega
          clear cc
          cases hct : (t.take k).contains t[k] with
          | true =>
            rw [hct] at CC
            have HR := Lib.hid (Htw.out HAll.out (Ht1.out hct))
            generalize t[k] = x at y0 CC
            clear hct Ht1 Ht2
            go_wp2_with (go_at_call 69; refine CC.out.mono ?_; rintro e w1 ⟨rfl, rfl⟩)
            go_ret
            exact ⟨by rw [HR.out]; rfl, rfl⟩
          | false =>
            rw [hct] at CC
            have HN2 := Lib.hid (Ht2.out hct)
            generalize t[k] = x at y0 CC
            clear hct Ht1 Ht2
            go_wp2_with (go_at_call 69; refine CC.out.mono ?_; rintro e w1 ⟨rfl, rfl⟩)
            go_round
            case rel => exact ⟨k + 1, by omega, by go_num, HN2.out⟩
            case measure => simp [intOf]; omega
        · obtain rfl : k = t.length := by omega
          have HR := Lib.hid (Hok.out HAll.out (by have := HN.out; rwa [List.take_length] at this))
          go_wp2_with fail
          go_ret
          exact ⟨by rw [HR.out]; rfl, rfl⟩

set_option maxRecDepth 100000 in
set_option maxHeartbeats 1000000 in
theorem isTour_ref (A A' : Option Addr) (n c c' B : Nat) (t : List Int) (w : World) (hB : B ≤ w.heap.size) (h : IntsAt B w A' t) (hm : t.length ≤ 1000) (hn : 1 ≤ n) (hn7 : n ≤ 1000) :
    Calls Try.prog 67 #[.slice A n c, .slice A' t.length c'] w fun e w' => e = .returned (.int .i64 (tuR n t)) ∧ Below w.heap.size w w' := by
  have H := Lib.hid (show IntsAt w.heap.size w A' t from h.below (Below.refl _ _) hB)
  have Hnone := Lib.hid (fun k (hk : k < t.length) hb => tu_none (n := n) hk hb)
  have Htw := Lib.hid (fun h1 h2 => tu_twice (n := n) (t := t) h1 h2)
  have Hok := Lib.hid (fun h1 h2 => tu_ok (n := n) (t := t) h1 h2)
  have hw1 : IntKind.i64.wrap ((n : Int) - 1) = (n : Int) - 1 := IntWalk.i64_in _ (by omega)
  have cw := Lib.hid (fun x W => within_ref x 1 ((n : Int) - 1) W)
  clear h
  go_enter Try.func67, Try.ntmps67
  go_wp2_with fail
  go_loop [5] (fun vk => ∃ k : Nat, k ≤ t.length ∧ vk = .int .i64 k ∧ Aside (∀ j (hj : j < t.length), j < k → 1 ≤ t[j] ∧ t[j] < (n : Int))) (fun vk => t.length - (intOf vk).toNat)
  case atStart => exact ⟨0, Nat.zero_le _, rfl, fun j _ hk => absurd hk (Nat.not_lt_zero j)⟩
  case round =>
    obtain ⟨k, hk, rfl, hn⟩ := hrel
    have HN := Lib.hid hn.out
    clear hn
    by_cases hlt : k < t.length
    · obtain ⟨b1, o1, rfl, hb1, y0⟩ := H.out.at hlt
      have Hbad := Lib.hid (Hnone.out k hlt)
      have Hstep := Lib.hid (fun (hx : 1 ≤ t[k] ∧ t[k] < (n : Int)) => show ∀ j (hj : j < t.length), j < k + 1 → 1 ≤ t[j] ∧ t[j] < (n : Int) from fun j hj hjk => by
        by_cases e : j = k
        · subst e; exact hx
        · exact HN.out j hj (by omega))
      generalize t[k] = x at y0 Hbad Hstep
      have cwx := Lib.hid (cw.out x w)
      by_cases h1 : 1 ≤ x ∧ x < (n : Int)
      · rw [show inI x 1 ((n : Int) - 1) = true by simp [inI]; omega] at cwx
        have HN2 := Lib.hid (Hstep.out h1)
        clear h1
        go_wp2_with (go_at_call 60; refine cwx.out.mono ?_; rintro e w2 ⟨rfl, hw2⟩; obtain rfl := hw2.symm; clear hw2)
        go_round
        case rel => exact ⟨k + 1, by omega, by go_num, HN2.out⟩
        case measure => simp [intOf]; omega
      · rw [show inI x 1 ((n : Int) - 1) = false by simp [inI]; omega] at cwx
        have HR := Lib.hid (Hbad.out h1)
        clear h1
        go_wp2_with (go_at_call 60; refine cwx.out.mono ?_; rintro e w2 ⟨rfl, hw2⟩; obtain rfl := hw2.symm; clear hw2)
        go_ret
        exact ⟨by rw [HR.out]; rfl, Below.refl _ _⟩
    · obtain rfl : k = t.length := by omega
      have HAll := Lib.hid (show ∀ x ∈ t, 1 ≤ x ∧ x < (n : Int) from fun x hx => by
        obtain ⟨j, hj, rfl⟩ := List.mem_iff_getElem.1 hx
        exact HN.out j hj hj)
      clear HN
      go_wp2_with fail
      go_loopw [6] (fun vk wr => ∃ k : Nat, k ≤ t.length ∧ vk = .int .i64 k ∧ Aside ((t.take k).Nodup) ∧ Below w.heap.size w wr) (fun vk _ => t.length - (intOf vk).toNat)
      case atStart => exact ⟨0, Nat.zero_le _, rfl, (by simp : (t.take 0).Nodup), Below.refl _ _⟩
      case round =>
        obtain ⟨k, hk, rfl, hn, hbr⟩ := hrel
        have HN := Lib.hid hn.out
        have HBr := Lib.hid hbr
        clear hn hbr
        by_cases hlt : k < t.length
        · have Ht1 := Lib.hid (fun hc => not_nodup_take hlt hc)
          have Ht2 := Lib.hid (fun hc => nodup_take hlt HN.out hc)
          obtain ⟨b1, o1, rfl, hb1, _⟩ := H.out.at hlt
          have hkI : (k : Int) < (t.length : Int) := by omega
          have hk0 : (0 : Int) ≤ (k : Int) := by omega
          go_wp2_with fail
          go_loopw [7] (fun vj wr => ∃ j : Nat, j ≤ k ∧ vj = .int .i64 j ∧ Aside (∀ i (hi : i < t.length), i < j → t[i] ≠ t[k]) ∧ Below w.heap.size w wr) (fun vj _ => k - (intOf vj).toNat)
          case atStart => exact ⟨0, Nat.zero_le _, rfl, (fun i _ hk => absurd hk (Nat.not_lt_zero i)), HBr.out⟩
          case round =>
            clear HBr
            obtain ⟨j, hj, rfl, hne, hbr⟩ := hrel
            have HNe := Lib.hid hne.out
            have HBr := Lib.hid hbr
            clear hne hbr
            by_cases hjlt : j < k
            · have y0 := ((H.out.below HBr.out (Nat.le_refl _)).cells hlt).2
              have y1 := ((H.out.below HBr.out (Nat.le_refl _)).cells (show j < t.length by omega)).2
              have hjI : (j : Int) < (t.length : Int) := by omega
              have hj0 : (0 : Int) ≤ (j : Int) := by omega
              by_cases he : t[k] = t[j]'(by omega)
              · have HR := Lib.hid (Htw.out HAll.out (Ht1.out (by
                  rw [List.contains_iff_mem, List.mem_iff_getElem]
                  exact ⟨j, by simp; omega, by rw [List.getElem_take, he]⟩)))
                have hd : (t[k] == t[j]'(by omega)) = true := by simpa using he
                rw [← he] at y1 hd
                generalize t[k] = x at y0 y1 hd
                clear he
                go_wp2_with fail
                go_quiet (fail)
                go_wp2_with fail
                go_ret
                exact ⟨by rw [HR.out]; rfl, below_drewN HBr.out _⟩
              · have hd : (t[k] == t[j]'(by omega)) = false := by simpa using he
                have HNe2 := Lib.hid (show ∀ i (hi : i < t.length), i < j + 1 → t[i] ≠ t[k] from fun i hi hij => by
                  by_cases e : i = j
                  · subst e; exact fun e => he e.symm
                  · exact HNe.out i hi (by omega))
                generalize t[k] = x at y0 hd HNe2
                generalize t[j]'(by omega) = y at y1 hd
                clear he
                go_wp2_with fail
                go_quiet (fail)
                go_wp2_with fail
                go_roundw
                case rel => exact ⟨j + 1, by omega, by go_num, HNe2.out, below_drewN HBr.out _⟩
                case measure => simp [intOf]; omega
            · obtain rfl : j = k := by omega
              have HN2 := Lib.hid (Ht2.out (by
                cases hc : (t.take j).contains t[j] with
                | false => rfl
                | true =>
                  obtain ⟨i, hi, e⟩ := List.mem_iff_getElem.1 (List.contains_iff_mem.1 hc)
                  rw [List.getElem_take] at e
                  rw [List.length_take] at hi
                  exact absurd e (HNe.out i (by omega) (by omega))))
              go_wp2_with fail
              go_roundw
              case rel => exact ⟨j + 1, by omega, by go_num, HN2.out, HBr.out⟩
              case measure => simp [intOf]; omega
        · obtain rfl : k = t.length := by omega
          have HR := Lib.hid (Hok.out HAll.out (by have := HN.out; rwa [List.take_length] at this))
          go_wp2_with fail
          go_ret
          exact ⟨by rw [HR.out]; rfl, HBr.out⟩
/-- The error of ways and a tour. -/
noncomputable def tdR (rows : List (List Int)) (t : List Int) : Int := @ite _ (VW rows) (Classical.propDecidable _) (tuR rows.length t) (vwR rows)
theorem td_vw {rows : List (List Int)} (t : List Int) (h : VW rows) : tdR rows t = tuR rows.length t := if_pos h
theorem td_bad {rows : List (List Int)} (t : List Int) (h : ¬ VW rows) : tdR rows t = vwR rows := if_neg h
theorem td_zero {rows : List (List Int)} {t : List Int} (h : tdR rows t = 0) : VW rows ∧ tuR rows.length t = 0 := by
  by_cases hv : VW rows
  · exact ⟨hv, by rwa [td_vw t hv] at h⟩
  · rw [td_bad t hv] at h; exact absurd h (vw_ne hv)
/-- The length of a tour, if it is one. -/
noncomputable def lnR (rows : List (List Int)) (t : List Int) : Int := if tdR rows t = 0 then lenF (wy rows) 0 (toN t) else 0

set_option maxRecDepth 100000 in
set_option maxHeartbeats 1000000 in
theorem toured_any (A A' : Option Addr) (c c' B : Nat) (rows : List (List Int)) (t : List Int) (w : World) (h : TblAt B w A rows) (hl : ∀ r ∈ rows, r.length ≤ 30) (h' : IntsAt B w A' t) (hm : t.length ≤ 1000) (hcap : t.length ≤ c') :
    Calls Try.prog 68 #[.slice A rows.length c, .slice A' t.length c'] w fun e w' => e = .returned (.int .i64 (tdR rows t)) ∧ w = w' := by
  have cv := Lib.hid (Validate_any A c B rows w h hl)
  have ci := Lib.hid (isTour_any A A' rows.length c c' B t w h' hm hcap)
  by_cases hv : VW rows
  · rw [vw_ok hv] at cv
    rw [td_vw t hv]
    clear h hl h' hv
    go_enter Try.func68, Try.ntmps68
    go_wp2_with (first | (go_at_call 30; refine cv.out.mono ?_; rintro e w1 ⟨rfl, hw1⟩; obtain rfl := hw1.symm; clear hw1) | (go_at_call 93; refine ci.out.mono ?_; rintro e w1 ⟨rfl, rfl⟩))
    go_ret
    exact ⟨rfl, rfl⟩
  · rw [td_bad t hv]
    have hne : (vwR rows != 0) = true := by simpa using vw_ne hv
    have hne2 : (vwR rows == 0) = false := by simpa using vw_ne hv
    generalize vwR rows = e0 at cv hne hne2 ⊢
    clear h hl h' hv
    go_enter Try.func68, Try.ntmps68
    go_wp2_with (go_at_call 30; refine cv.out.mono ?_; rintro e w1 ⟨rfl, hw1⟩; obtain rfl := hw1.symm; clear hw1)
    go_ret
    exact ⟨rfl, rfl⟩

set_option maxRecDepth 100000 in
set_option maxHeartbeats 1000000 in
theorem Length_any (A A' : Option Addr) (c c' B : Nat) (rows : List (List Int)) (t : List Int) (w : World) (h : TblAt B w A rows) (hl : ∀ r ∈ rows, r.length ≤ 30) (h' : IntsAt B w A' t) (hm : t.length ≤ 1000) (hcap : t.length ≤ c') :
    Calls Try.prog 29 #[.slice A rows.length c, .slice A' t.length c'] w fun e w' => e = .returned (.tuple #[.int .i64 (lnR rows t), .int .i64 (tdR rows t)]) ∧ w = w' := by
  have ct := Lib.hid (toured_any A A' c c' B rows t w h hl h' hm hcap)
  by_cases h0 : tdR rows t = 0
  · obtain ⟨hv, hu⟩ := td_zero h0
    obtain ⟨b, off, rfl, hwa⟩ := WaAt.of_tbl h hv
    obtain ⟨hi, hs⟩ := tu_stp hu
    have cl := length_any b off rows.length c c' B (wy rows) A' (toN t) w hwa hv.bd (by rw [hi]; exact h') (fun x hx => (hs.2 x hx).2) hv.n0 (by rw [toN_length]; exact hm)
    rw [toN_length] at cl
    have CL := Lib.hid cl
    have HR := Lib.hid (show lnR rows t = lenF (wy rows) 0 (toN t) from if_pos h0)
    rw [h0] at ct ⊢
    clear h hl h' hv hu hwa hi hs cl h0
    go_enter Try.func29, Try.ntmps29
    go_wp2_with (first | (go_at_call 68; refine ct.out.mono ?_; rintro e w1 ⟨rfl, rfl⟩) | (go_at_call 66; refine CL.out.mono ?_; rintro e w1 ⟨rfl, rfl⟩))
    go_ret2
    exact ⟨by rw [HR.out]; rfl, rfl⟩
  · have HR := Lib.hid (show lnR rows t = 0 from if_neg h0)
    have hne : (tdR rows t != 0) = true := by simpa using h0
    have hne2 : (tdR rows t == 0) = false := by simpa using h0
    generalize tdR rows t = e0 at ct hne hne2 ⊢
    clear h hl h' h0
    go_enter Try.func29, Try.ntmps29
    go_wp2_with (first | (go_at_call 68; refine ct.out.mono ?_; rintro e w1 ⟨rfl, rfl⟩))
    go_ret2
    exact ⟨by rw [HR.out]; rfl, rfl⟩

set_option maxRecDepth 100000 in
set_option maxHeartbeats 1000000 in
theorem Length_ref (A A' : Option Addr) (c c' B : Nat) (rows : List (List Int)) (t : List Int) (w : World) (hB : B ≤ w.heap.size) (h : TblAt B w A rows) (hl : rows.length ≤ 30 ∧ ∀ r ∈ rows, r.length ≤ 30) (h' : IntsAt B w A' t) (hm : t.length ≤ 1000) :
    Calls Try.prog 28 #[.slice A rows.length c, .slice A' t.length c'] w fun e w' => e = .returned (.tuple #[.int .i64 (lnR rows t), .int .i64 (tdR rows t)]) ∧ Below w.heap.size w w' := by
  have cv := Lib.hid (Validate_ref A c B rows w hB h hl)
  by_cases hv : VW rows
  · rw [vw_ok hv] at cv
    have hn0 := hv.n0
    have hn7 := hv.n1
    have hI0 : IntsAt w.heap.size w A' t := h'.below (Below.refl _ _) hB
    have ci := Lib.hid (fun W (hW : Below w.heap.size w W) => isTour_ref A A' rows.length c c' w.heap.size t W hW.size (hI0.below hW (Nat.le_refl _)) hm hn0 (by omega))
    by_cases h0 : tuR rows.length t = 0
    · obtain ⟨b, off, rfl, hwa⟩ := WaAt.of_tbl h hv
      obtain ⟨hi, hs⟩ := tu_stp h0
      have hwa2 := hwa.below (Below.refl _ _) hB
      have cl := fun W (hW : Below w.heap.size w W) => length_ref b off rows.length c c' w.heap.size (wy rows) A' (toN t) W hW.size (hwa2.below hW (Nat.le_refl _)) hv.bd (by rw [hi]; exact hI0.below hW (Nat.le_refl _)) (fun x hx => (hs.2 x hx).2) hn0 (by rw [toN_length]; exact hm)
      rw [toN_length] at cl
      have CL := Lib.hid cl
      have htd : tdR rows t = 0 := by rw [td_vw t hv, h0]
      have HR := Lib.hid (show lnR rows t = lenF (wy rows) 0 (toN t) from if_pos htd)
      rw [h0] at ci
      rw [htd]
      clear h hl h' hv h0 hwa hwa2 hi hs cl htd hI0
      go_enter Try.func28, Try.ntmps28
      go_wp2_with (first | (go_at_call 31; refine cv.out.mono ?_; rintro e w1 ⟨rfl, hb1⟩) | (go_at_call 67; refine (ci.out _ hb1).mono ?_; rintro e w2 ⟨rfl, hb2⟩; have hB2 := hb1.trans (hb2.mono hb1.size)) | (go_at_call 63; refine (CL.out _ hB2).mono ?_; rintro e w3 ⟨rfl, hb3⟩))
      go_ret2
      exact ⟨by rw [HR.out]; rfl, hB2.trans (hb3.mono hB2.size)⟩
    · have htd := td_vw t hv
      have HR := Lib.hid (show lnR rows t = 0 from if_neg (by rw [htd]; exact h0))
      rw [htd]
      have hne : (tuR rows.length t != 0) = true := by simpa using h0
      have hne2 : (tuR rows.length t == 0) = false := by simpa using h0
      generalize tuR rows.length t = e0 at ci hne hne2 ⊢
      clear h hl h' hv h0 htd hI0
      go_enter Try.func28, Try.ntmps28
      go_wp2_with (first | (go_at_call 31; refine cv.out.mono ?_; rintro e w1 ⟨rfl, hb1⟩) | (go_at_call 67; refine (ci.out _ hb1).mono ?_; rintro e w2 ⟨rfl, hb2⟩; have hB2 := hb1.trans (hb2.mono hb1.size)))
      go_ret2
      exact ⟨by rw [HR.out]; rfl, hB2⟩
  · have htd := td_bad t hv
    have HR := Lib.hid (show lnR rows t = 0 from if_neg (by rw [htd]; exact vw_ne hv))
    rw [htd]
    have hne : (vwR rows != 0) = true := by simpa using vw_ne hv
    have hne2 : (vwR rows == 0) = false := by simpa using vw_ne hv
    generalize vwR rows = e0 at cv hne hne2 ⊢
    clear h hl h' hv htd
    go_enter Try.func28, Try.ntmps28
    go_wp2_with (go_at_call 31; refine cv.out.mono ?_; rintro e w1 ⟨rfl, hb1⟩)
    go_ret2
    exact ⟨by rw [HR.out]; rfl, hb1⟩
end Go.Proofs.Ytmodbpglopfghaa
