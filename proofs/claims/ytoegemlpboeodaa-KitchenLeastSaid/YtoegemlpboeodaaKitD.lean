/- The reference's order check, sums and longest path; Critical. -/
import Derived.Test.YtoegemlpboeodaaKitB
import Derived.Test.YtoegemlpboeodaaPlain3
namespace Go.Proofs.Ytoegemlpboeodaa
open Go.RowKit

def cntAt (o : List Int) (k : Int) (i : Nat) : Int := ((o.take i).count k : Nat)
theorem cntAt_succ {o : List Int} (k : Int) {i : Nat} (hi : i < o.length) : cntAt o k (i + 1) = if o[i] = k then cntAt o k i + 1 else cntAt o k i := by
  unfold cntAt
  rw [List.take_succ_eq_append_getElem hi, List.count_append]
  split <;> simp_all
theorem cntAt_bd (o : List Int) (k : Int) {i : Nat} (hi : i ≤ o.length) : 0 ≤ cntAt o k i ∧ cntAt o k i ≤ i := by
  unfold cntAt
  have := List.count_le_length (a := k) (l := o.take i)
  simp at this; omega
def Once (o : List Int) (k : Nat) : Prop := ∀ j, j < k → o.count (j : Int) = 1
theorem Once.succ {o : List Int} {k : Nat} (h : Once o k) (hk : cntAt o k o.length = 1) : Once o (k + 1) := fun j hj => by
  rcases Nat.lt_succ_iff_lt_or_eq.1 hj with h1 | rfl
  · exact h j h1
  · unfold cntAt at hk; rw [List.take_length] at hk; omega
theorem exB_once {l : List Bt} {o : List Int} (hv : valB l = 0) (hl : o.length = l.length) (h : Once o l.length) : exB l o = 0 := by
  rw [exB, if_pos hv, isOrd_count, if_pos]
  simp only [Bool.and_eq_true, decide_eq_true_eq, List.all_eq_true, List.mem_range]
  exact ⟨hl, h⟩
theorem exB_notonce {l : List Bt} {o : List Int} {k : Nat} (hv : valB l = 0) (hk : k < l.length) (h : ¬ cntAt o k o.length = 1) : exB l o = 1 := by
  rw [exB, if_pos hv, isOrd_count, if_neg]
  simp only [Bool.and_eq_true, decide_eq_true_eq, List.all_eq_true, List.mem_range]
  rintro ⟨_, h2⟩
  have := h2 k hk
  unfold cntAt at h; rw [List.take_length] at h; omega
theorem exB_len' {l : List Bt} {o : List Int} (hv : valB l = 0) (hn : ¬ o.length = l.length) : exB l o = 1 := by
  rw [exB, if_pos hv, isOrd_count, if_neg]
  simp only [Bool.and_eq_true, decide_eq_true_eq]
  rintro ⟨h, _⟩; exact hn h

set_option maxRecDepth 100000 in
set_option maxHeartbeats 1000000 in
theorem ordered_ref (A A' : Option Addr) (c c' B : Nat) (l : List Bt) (o : List Int) (w : World) (h : PairsAt B w A l) (h' : IntsAt B w A' o) (hm : l.length ≤ 1000) (hm' : o.length ≤ 1000) :
    Calls Try.prog 62 #[.slice A l.length c, .slice A' o.length c'] w fun e w' => e = .returned (.int .i64 (exB l o)) ∧ w = w' := by
  have cv := Lib.hid (validate_ref A c B l w h hm)
  clear h
  by_cases hv : valB l = 0
  · have hv' := Lib.hid hv
    rw [hv] at cv
    clear hv
    by_cases hl : o.length = l.length
    · have hl1 : ((o.length : Int) != (l.length : Int)) = false := by simp [hl]
      have Hl := Lib.hid hl
      clear hl
      go_enter Try.func62, Try.ntmps62
      go_wp2_with (go_at_call 43; refine cv.out.mono ?_; rintro e w1 ⟨rfl, rfl⟩)
      go_loop [6] (fun n => ∃ k : Nat, k ≤ l.length ∧ n = .int .i64 k ∧ Once o k) (fun n => l.length - (intOf n).toNat)
      case atStart => exact ⟨0, Nat.zero_le _, rfl, fun j hj => by omega⟩
      case round =>
        obtain ⟨k, hk, rfl, hon⟩ := hrel
        by_cases hlt : k < l.length
        · go_wp2_with fail
          go_loop [7, 8] (fun t i => ∃ j : Nat, j ≤ o.length ∧ i = .int .i64 j ∧ t = .int .i64 (cntAt o k j)) (fun _ i => o.length - (intOf i).toNat)
          case atStart => exact ⟨0, Nat.zero_le _, rfl, rfl⟩
          case round =>
            obtain ⟨j, hj, rfl, rfl⟩ := hrel
            have hcb := cntAt_bd o k hj
            by_cases hlt2 : j < o.length
            · obtain ⟨b, off, rfl, hbB, hc⟩ := h'.at hlt2
              have hcs := cntAt_succ (k : Int) hlt2
              by_cases he : o[j] = (k : Int)
              · have he1 : (o[j] == (k : Int)) = true := by simpa using he
                rw [if_pos he] at hcs
                have Hcs := Lib.hid hcs
                clear hcs he
                go_wp2_with fail
                go_round
                case rel => exact ⟨j + 1, by omega, by go_num, by rw [Hcs.out]⟩
                case measure => simp [intOf]; omega
              · have he1 : (o[j] == (k : Int)) = false := by simpa using he
                rw [if_neg he] at hcs
                have Hcs := Lib.hid hcs
                clear hcs he
                go_wp2_with fail
                go_round
                case rel => exact ⟨j + 1, by omega, by go_num, by rw [Hcs.out]⟩
                case measure => simp [intOf]; omega
            · obtain rfl : j = o.length := by omega
              by_cases h1 : cntAt o k o.length = 1
              · have h2 : (cntAt o k o.length != 1) = false := by simpa using h1
                have H1 := Lib.hid h1
                clear h1
                go_wp2_with fail
                go_round
                case rel => exact ⟨k + 1, by omega, by go_num, hon.succ H1.out⟩
                case measure => simp [intOf]; omega
              · have h2 : (cntAt o k o.length != 1) = true := by simpa using h1
                have Hx := Lib.hid (exB_notonce hv'.out hlt h1)
                clear h1
                go_wp2_with fail
                go_ret
                exact ⟨by rw [Hx.out]; rfl, rfl⟩
        · obtain rfl : k = l.length := by omega
          have Hx := Lib.hid (exB_once hv'.out Hl.out hon)
          go_wp2_with fail
          go_ret
          exact ⟨by rw [Hx.out]; rfl, rfl⟩
    · have hl1 : ((o.length : Int) != (l.length : Int)) = true := by simp; omega
      have Hx := Lib.hid (exB_len' hv'.out hl)
      clear hl
      go_enter Try.func62, Try.ntmps62
      go_wp2_with (go_at_call 43; refine cv.out.mono ?_; rintro e w1 ⟨rfl, rfl⟩)
      go_ret
      exact ⟨by rw [Hx.out]; rfl, rfl⟩
  · have hx : exB l o = valB l := by rw [exB, if_neg hv]
    have Hx := Lib.hid hx
    clear hx
    have hne : (valB l == 0) = false := by simpa using hv
    generalize valB l = e0 at cv hv hne Hx
    clear hv
    go_enter Try.func62, Try.ntmps62
    go_wp2_with (go_at_call 43; refine cv.out.mono ?_; rintro e w1 ⟨rfl, rfl⟩)
    go_ret
    exact ⟨by rw [Hx.out]; rfl, rfl⟩

theorem smB_succ (l : List Bt) (o : List Int) (k : Nat) {i : Nat} (hi : i < o.length) : smAt (bts l o) k (i + 1) = smAt (bts l o) k i + (if i ≤ k then (bt l o[i]).1 else 0) + (if k ≤ i then (bt l o[i]).2 else 0) := by
  rw [smAt_succ _ _ (by rw [bts_length]; exact hi)]
  simp [bts]

set_option maxRecDepth 100000 in
set_option maxHeartbeats 1000000 in
theorem sum_ref (A A' : Option Addr) (c c' B k : Nat) (l : List Bt) (o : List Int) (w : World) (h : PairsAt B w A l) (h' : IntsAt B w A' o) (hv : valB l = 0) (hp : o.Perm (iota l.length)) (hk : k < o.length) :
    Calls Try.prog 74 #[.slice A l.length c, .slice A' o.length c', .int .i64 (k : Int)] w fun e w' => e = .returned (.int .i64 (sumK (bts l o) k)) ∧ w = w' := by
  have h7 := (valB_zero hv).1
  have ho := ord_length hp
  have ho7 : o.length ≤ 7 := by omega
  clear ho
  go_enter Try.func74, Try.ntmps74
  go_wp2
  go_loop [7, 8] (fun x i => ∃ j : Nat, j ≤ o.length ∧ i = .int .i64 j ∧ x = .int .i64 (smAt (bts l o) k j)) (fun _ i => o.length - (intOf i).toNat)
  case atStart => exact ⟨0, Nat.zero_le _, rfl, by rw [smAt_zero]⟩
  case round =>
    obtain ⟨j, hj, rfl, rfl⟩ := hrel
    have hbd := smAt_bd (bts_ok hv o) k (i := j) (by rw [bts_length]; exact hj)
    by_cases hlt : j < o.length
    · obtain ⟨m, b, off, b', off', hm, hml, rfl, rfl, hbB, hbB', c0, c1, c2⟩ := ord_cells h h' hp hlt
      have hbt := bt_bd hv o[j]
      have hss := smB_succ l o k hlt
      clear hm
      rcases Nat.lt_trichotomy j k with h1 | h1 | h1
      · rw [if_pos (by omega), if_neg (by omega)] at hss
        have Hss := Lib.hid hss
        clear hss
        go_wp2_with fail
        go_round
        case rel => exact ⟨j + 1, by omega, by go_num, by rw [Hss.out]; simp⟩
        case measure => simp [intOf]; omega
      · rw [if_pos (by omega), if_pos (by omega)] at hss
        have Hss := Lib.hid hss
        clear hss
        have h2 : j ≤ k := by omega
        have h3 : k ≤ j := by omega
        clear h1
        go_wp2_with fail
        go_round
        case rel => exact ⟨j + 1, by omega, by go_num, by rw [Hss.out]⟩
        case measure => simp [intOf]; omega
      · rw [if_neg (by omega), if_pos (by omega)] at hss
        have Hss := Lib.hid hss
        clear hss
        go_wp2_with fail
        go_round
        case rel => exact ⟨j + 1, by omega, by go_num, by rw [Hss.out]; simp⟩
        case measure => simp [intOf]; omega
    · obtain rfl : j = o.length := by omega
      have hss := Lib.hid (show smAt (bts l o) k o.length = sumK (bts l o) k by rw [← bts_length l o, smAt_all])
      go_wp2_with fail
      go_ret
      exact ⟨by rw [← hss.out]; rfl, rfl⟩

set_option maxRecDepth 100000 in
set_option maxHeartbeats 1000000 in
theorem longest_ref (A A' : Option Addr) (c c' B : Nat) (l : List Bt) (o : List Int) (w : World) (h : PairsAt B w A l) (h' : IntsAt B w A' o) (hv : valB l = 0) (hp : o.Perm (iota l.length)) :
    Calls Try.prog 63 #[.slice A l.length c, .slice A' o.length c'] w fun e w' => e = .returned (.tuple #[.int .i64 (timeS (bts l o)), .int .i64 (critS (bts l o))]) ∧ w = w' := by
  have h7 := (valB_zero hv).1
  have ho := ord_length hp
  have ho7 : o.length ≤ 7 := by omega
  have cs : ∀ k, k < o.length → Calls Try.prog 74 #[.slice A l.length c, .slice A' o.length c', .int .i64 (k : Int)] w fun e w' => e = .returned (.int .i64 (sumK (bts l o) k)) ∧ w = w' := fun k hk => sum_ref A A' c c' B k l o w h h' hv hp hk
  have Cs := Lib.hid cs
  have hlt := lon_time (bts_ok hv o)
  have Hlt := Lib.hid hlt
  have hbl := bts_length l o
  have Hbl := Lib.hid hbl
  clear ho cs hlt hbl h h'
  go_enter Try.func63, Try.ntmps63
  go_wp2
  go_loop [6, 7, 8] (fun x y i => ∃ k : Nat, k ≤ o.length ∧ i = .int .i64 k ∧ x = .int .i64 (lonAt (bts l o) k).1 ∧ y = .int .i64 (lonAt (bts l o) k).2) (fun _ _ i => o.length - (intOf i).toNat)
  case atStart => exact ⟨0, Nat.zero_le _, rfl, rfl, rfl⟩
  case round =>
    obtain ⟨k, hk, rfl, rfl, rfl⟩ := hrel
    by_cases hlt : k < o.length
    · have hls : lonAt (bts l o) (k + 1) = if k = 0 ∨ (lonAt (bts l o) k).1 < sumK (bts l o) k then (sumK (bts l o) k, (k : Int)) else lonAt (bts l o) k := rfl
      by_cases hk0 : k = 0
      · have h0 : ((k : Int) == 0) = true := by simp [hk0]
        rw [if_pos (.inl hk0)] at hls
        have Hls := Lib.hid hls
        clear hls hk0
        go_wp2_with (go_at_call 74; refine (Cs.out k hlt).mono ?_; rintro e w1 ⟨rfl, rfl⟩)
        go_round
        case rel => exact ⟨k + 1, by omega, by go_num, by rw [Hls.out], by rw [Hls.out]⟩
        case measure => simp [intOf]; omega
      · have h0 : ((k : Int) == 0) = false := by simp; omega
        by_cases hc : (lonAt (bts l o) k).1 < sumK (bts l o) k
        · rw [if_pos (.inr hc)] at hls
          have Hls := Lib.hid hls
          clear hls hk0
          go_wp2_with (go_at_call 74; refine (Cs.out k hlt).mono ?_; rintro e w1 ⟨rfl, rfl⟩)
          go_round
          case rel => exact ⟨k + 1, by omega, by go_num, by rw [Hls.out], by rw [Hls.out]⟩
          case measure => simp [intOf]; omega
        · rw [if_neg (by omega)] at hls
          have Hls := Lib.hid hls
          clear hls hk0
          go_wp2_with (go_at_call 74; refine (Cs.out k hlt).mono ?_; rintro e w1 ⟨rfl, rfl⟩)
          go_round
          case rel => exact ⟨k + 1, by omega, by go_num, by rw [Hls.out], by rw [Hls.out]⟩
          case measure => simp [intOf]; omega
    · obtain rfl : k = o.length := by omega
      go_wp2_with fail
      go_ret2
      exact ⟨by rw [critS, ← Hlt.out, Hbl.out]; rfl, rfl⟩

set_option maxHeartbeats 400000 in
theorem Time_ref (A A' : Option Addr) (c c' B : Nat) (l : List Bt) (o : List Int) (w : World) (h : PairsAt B w A l) (h' : IntsAt B w A' o) (hm : l.length ≤ 1000) (hm' : o.length ≤ 1000) :
    Calls Try.prog 39 #[.slice A l.length c, .slice A' o.length c'] w fun e w' => e = .returned (.tuple #[.int .i64 (timeR l o), .int .i64 (exB l o)]) ∧ w = w' := by
  have ce := Lib.hid (ordered_ref A A' c c' B l o w h h' hm hm')
  by_cases hx : exB l o = 0
  · obtain ⟨hv, hp⟩ := exB_zero hx
    have hr : timeR l o = timeS (bts l o) := if_pos hx
    rw [hx] at ce ⊢
    rw [hr]
    have Cl := Lib.hid (longest_ref A A' c c' B l o w h h' hv hp)
    clear hr hp hv h h' hx
    go_enter Try.func39, Try.ntmps39
    go_wp2_with (first | (go_at_call 62; refine ce.out.mono ?_; rintro e w1 ⟨rfl, rfl⟩) | (go_at_call 63; refine Cl.out.mono ?_; rintro e w2 ⟨rfl, rfl⟩))
    go_ret2
    exact ⟨rfl, rfl⟩
  · have hr : timeR l o = 0 := if_neg hx
    have Hr := Lib.hid hr
    clear hr h h'
    have hne : (exB l o == 0) = false := by simpa using hx
    generalize exB l o = e0 at ce hx hne ⊢
    clear hx
    go_enter Try.func39, Try.ntmps39
    go_wp2_with (first | (go_at_call 62; refine ce.out.mono ?_; rintro e w1 ⟨rfl, rfl⟩))
    go_ret2
    exact ⟨by rw [Hr.out]; rfl, rfl⟩

/-- What Critical returns. -/
def crR (l : List Bt) (o : List Int) : Int := if exB l o = 0 then (if l.length = 0 then 0 else critS (bts l o)) else 0
def crE (l : List Bt) (o : List Int) : Int := if exB l o = 0 then (if l.length = 0 then 5 else 0) else exB l o

set_option maxHeartbeats 400000 in
theorem Critical_ref (A A' : Option Addr) (c c' B : Nat) (l : List Bt) (o : List Int) (w : World) (h : PairsAt B w A l) (h' : IntsAt B w A' o) (hm : l.length ≤ 1000) (hm' : o.length ≤ 1000) :
    Calls Try.prog 31 #[.slice A l.length c, .slice A' o.length c'] w fun e w' => e = .returned (.tuple #[.int .i64 (crR l o), .int .i64 (crE l o)]) ∧ w = w' := by
  have ce := Lib.hid (ordered_ref A A' c c' B l o w h h' hm hm')
  by_cases hx : exB l o = 0
  · obtain ⟨hv, hp⟩ := exB_zero hx
    rw [hx] at ce
    by_cases h0 : l.length = 0
    · have hr : crR l o = 0 ∧ crE l o = 5 := by simp [crR, crE, hx, h0]
      have Hr := Lib.hid hr
      have h1 : ((l.length : Int) == 0) = true := by simp [h0]
      clear hr hp hv h h' hx h0
      go_enter Try.func31, Try.ntmps31
      go_wp2_with (first | (go_at_call 62; refine ce.out.mono ?_; rintro e w1 ⟨rfl, rfl⟩))
      go_ret2
      exact ⟨by rw [Hr.out.1, Hr.out.2]; rfl, rfl⟩
    · have hr : crR l o = critS (bts l o) ∧ crE l o = 0 := by simp [crR, crE, hx, h0]
      have Hr := Lib.hid hr
      have h1 : ((l.length : Int) == 0) = false := by rw [beq_eq_false_iff_ne]; omega
      have Cl := Lib.hid (longest_ref A A' c c' B l o w h h' hv hp)
      clear hr hp hv h h' hx h0
      go_enter Try.func31, Try.ntmps31
      go_wp2_with (first | (go_at_call 62; refine ce.out.mono ?_; rintro e w1 ⟨rfl, rfl⟩) | (go_at_call 63; refine Cl.out.mono ?_; rintro e w2 ⟨rfl, rfl⟩))
      go_ret2
      exact ⟨by rw [Hr.out.1, Hr.out.2]; rfl, rfl⟩
  · have hr : crR l o = 0 ∧ crE l o = exB l o := by simp [crR, crE, hx]
    have Hr := Lib.hid hr
    clear hr h h'
    have hne : (exB l o == 0) = false := by simpa using hx
    generalize exB l o = e0 at ce hx hne Hr
    clear hx
    go_enter Try.func31, Try.ntmps31
    go_wp2_with (first | (go_at_call 62; refine ce.out.mono ?_; rintro e w1 ⟨rfl, rfl⟩))
    go_ret2
    exact ⟨by rw [Hr.out.1, Hr.out.2]; rfl, rfl⟩

theorem packT_take {b : List Bt} {k : Nat} (hk : k < b.length) : packT (b.take (k + 1)) = packT (b.take k) + b[k].2 := by
  rw [List.take_succ_eq_append_getElem hk, packT_append]; simp [packT]
theorem cookT_take {b : List Bt} {k : Nat} (hk : k < b.length) : cookT (b.take (k + 1)) = cookT (b.take k) + b[k].1 := by
  rw [List.take_succ_eq_append_getElem hk, cookT_append]; simp [cookT]
theorem packT_drop {b : List Bt} {k : Nat} (hk : k < b.length) : packT (b.drop k) = b[k].2 + packT (b.drop (k + 1)) := by
  rw [List.drop_eq_getElem_cons hk]; rfl
theorem T_bd {b : List Bt} (h : OkL b) : 0 ≤ packT b ∧ packT b ≤ 1000 * (b.length : Int) ∧ 0 ≤ cookT b ∧ cookT b ≤ 1000 * (b.length : Int) := by
  induction b with
  | nil => simp [packT, cookT]
  | cons x b ih =>
    have := ih fun y hy => h y (by simp [hy])
    have := h x (by simp)
    simp only [packT, cookT, List.length_cons]; omega
theorem OkL.take {b : List Bt} (h : OkL b) (k : Nat) : OkL (b.take k) := fun x hx => h x (List.mem_of_mem_take hx)
theorem OkL.drop {b : List Bt} (h : OkL b) (k : Nat) : OkL (b.drop k) := fun x hx => h x (List.mem_of_mem_drop hx)

/-- The batches of an order are the batches. -/
theorem bts_perm {l : List Bt} {o : List Int} (hp : o.Perm (iota l.length)) : (bts l o).Perm l := by
  have h1 : (bts l o).Perm (bts l (iota l.length)) := hp.map _
  have h2 : bts l (iota l.length) = l := by
    apply List.ext_getElem
    · simp [bts, iota_length]
    · intro i h3 h4
      simp only [bts, List.getElem_map, iota_get]
      rw [bt_get (by omega) (by omega)]; simp
  rw [h2] at h1
  exact h1

/-- The sum with which the program comes to place k. -/
def preK (b : List Bt) (k : Nat) : Int := cookT (b.take k) + packT (b.drop k)
theorem preK_sum {b : List Bt} {k : Nat} (hk : k < b.length) : preK b k + b[k].1 = sumK b k ∧ preK b (k + 1) = sumK b k - b[k].2 := by
  rw [sumK_step hk]
  unfold preK
  rw [packT_drop hk, cookT_take hk]; omega
theorem preK_bd {b : List Bt} (h : OkL b) (k : Nat) : 0 ≤ preK b k ∧ preK b k ≤ 2000 * (b.length : Int) := by
  have h1 := T_bd (h.take k)
  have h2 := T_bd (h.drop k)
  simp at h1 h2
  unfold preK; omega
def NotYet (b : List Bt) (k : Nat) : Prop := ∀ j, j < k → sumK b j ≠ timeS b
theorem NotYet.succ {b : List Bt} {k : Nat} (h : NotYet b k) (hk : sumK b k ≠ timeS b) : NotYet b (k + 1) := fun j hj => by
  rcases Nat.lt_succ_iff_lt_or_eq.1 hj with h1 | rfl
  · exact h j h1
  · exact hk

set_option maxRecDepth 100000 in
set_option maxHeartbeats 1000000 in
theorem Critical_any (A A' : Option Addr) (c c' B : Nat) (l : List Bt) (o : List Int) (w : World) (hB : B ≤ w.heap.size) (h : PairsAt B w A l) (h' : IntsAt B w A' o) (hm : l.length ≤ 1000) (hm' : o.length ≤ 1000) :
    Calls Try.prog 30 #[.slice A l.length c, .slice A' o.length c'] w fun e w' => e = .returned (.tuple #[.int .i64 (crR l o), .int .i64 (crE l o)]) ∧ Below w.heap.size w w' := by
  have ce := Lib.hid (examine_any A A' c c' B l o w hB h h' hm hm')
  by_cases hx : exB l o = 0
  · obtain ⟨hv, hp⟩ := exB_zero hx
    have h7 := (valB_zero hv).1
    have hol := ord_length hp
    have okb := bts_ok hv o
    have okl : OkL l := (valB_zero hv).2
    have hbl := bts_length l o
    have htp := time_paths (bts l o) okb
    have hpk : packT (bts l o) = packT l := packT_perm (bts_perm hp)
    have cl : ∀ W, Below w.heap.size w W → Calls Try.prog 58 #[.slice A l.length c, .slice A' o.length c'] W fun e w' => e = .returned (.int .i64 (timeS (bts l o))) ∧ W = w' := fun W hW =>
      last_any A A' c c' w.heap.size l o W ((h.below (Below.refl _ _) hB).below hW (Nat.le_refl _)) ((h'.below (Below.refl _ _) hB).below hW (Nat.le_refl _)) hv hp
    have Cl := Lib.hid cl
    have Hx := Lib.hid hx
    rw [hx] at ce
    clear cl hx
    have htb : 0 ≤ timeS (bts l o) := htp.2.2.1
    have Hol := Lib.hid hol
    have ho7 : o.length ≤ 7 := by omega
    have Hpk := Lib.hid hpk
    have Hbl := Lib.hid hbl
    have Htp := Lib.hid htp
    clear hol hpk hbl htp
    go_enter Try.func30, Try.ntmps30
    go_wp2_with (go_at_call 57; refine ce.out.mono ?_; rintro e w1 ⟨rfl, hb1⟩)
    go_loopw [7, 20] (fun x i wr => ∃ k : Nat, k ≤ l.length ∧ i = .int .i64 k ∧ x = .int .i64 (packT (l.take k)) ∧ Below w.heap.size w wr) (fun _ i _ => l.length - (intOf i).toNat)
    case atStart => exact ⟨0, Nat.zero_le _, rfl, rfl, hb1⟩
    case round =>
      obtain ⟨k, hk, rfl, rfl, hb⟩ := hrel
      have hbd := T_bd (okl.take k)
      have hll : (l.take k).length ≤ 7 := by simp; omega
      by_cases hlt : k < l.length
      · obtain ⟨b, off, rfl, hbB, hc1, hc2⟩ := h.at hlt
        have hc1' := (hb.cell (p := ⟨b, off + k * 2, none⟩) (by simp; omega)).trans hc1
        have hc2' := (hb.cell (p := ⟨b, off + k * 2 + 1, none⟩) (by simp; omega)).trans hc2
        have hg := okl.get hlt
        have Hpt := Lib.hid (packT_take hlt)
        clear hc1 hc2
        go_wp2_with fail
        go_roundw
        case rel => exact ⟨k + 1, by omega, by go_num, by rw [Hpt.out], hb.alloc hb.size _⟩
        case measure => simp [intOf]; omega
      · obtain rfl : k = l.length := by omega
        have Hpt := Lib.hid (show packT l = preK (bts l o) 0 by rw [← Hpk.out]; simp [preK, cookT])
        go_wp2_with (go_at_call 58; refine (Cl.out _ hb).mono ?_; rintro e w2 ⟨rfl, rfl⟩)
        go_loop [7, 34] (fun x i => ∃ k : Nat, k ≤ o.length ∧ i = .int .i64 k ∧ x = .int .i64 (preK (bts l o) k) ∧ NotYet (bts l o) k) (fun _ i => o.length - (intOf i).toNat)
        case atStart => exact ⟨0, Nat.zero_le _, rfl, by rw [Hpt.out], fun j hj => by omega⟩
        case round =>
          obtain ⟨k, hk, rfl, rfl, hny⟩ := hrel
          have hb1 := preK_bd okb k
          rw [Hbl.out] at hb1
          by_cases hlt : k < o.length
          · obtain ⟨m, b, off, b', off', hm, hml, rfl, rfl, hbB, hbB', c0, c1, c2⟩ := ord_cells h h' hp hlt
            have d0 := (hb.cell (p := ⟨b', off' + k, none⟩) (by simp; omega)).trans c0
            have d1 := (hb.cell (p := ⟨b, off + m * 2, none⟩) (by simp; omega)).trans c1
            have d2 := (hb.cell (p := ⟨b, off + m * 2 + 1, none⟩) (by simp; omega)).trans c2
            have hbt := bt_bd hv o[k]
            have hps := preK_sum (b := bts l o) (k := k) (by rw [Hbl.out]; exact hlt)
            have hget : (bts l o)[k]'(by rw [Hbl.out]; exact hlt) = bt l o[k] := by simp [bts]
            rw [hget] at hps
            obtain ⟨hp1, hp2⟩ := hps
            have Hp2 := Lib.hid hp2
            clear hm c0 c1 c2 hget hp2
            have hp1' : IntKind.i64.wrap (preK (bts l o) k + (bt l o[k]).1) = sumK (bts l o) k := by rw [← hp1]; exact IntWalk.i64_in _ (by omega)
            by_cases he : sumK (bts l o) k = timeS (bts l o)
            · have he1 : (sumK (bts l o) k == timeS (bts l o)) = true := by simpa using he
              have Hc := Lib.hid (crit_first okb (k := k) (by rw [Hbl.out]; exact hlt) he hny)
              clear he hp1
              go_wp2_with fail
              go_ret2
              have hl0 : ¬ l.length = 0 := by omega
              exact ⟨by rw [crR, crE, if_pos Hx.out, if_pos Hx.out, if_neg hl0, if_neg hl0, Hc.out]; rfl, hb⟩
            · have he1 : (sumK (bts l o) k == timeS (bts l o)) = false := by simpa using he
              have He := Lib.hid he
              have hsb : 0 ≤ sumK (bts l o) k ∧ sumK (bts l o) k ≤ 16000 := by omega
              clear he hp1
              go_wp2_with fail
              go_round
              case rel => exact ⟨k + 1, by omega, by go_num, by rw [Hp2.out], hny.succ He.out⟩
              case measure => simp [intOf]; omega
          · obtain rfl : k = o.length := by omega
            have h0 : o.length = 0 := by
              rcases Nat.eq_zero_or_pos o.length with h0 | h0
              · exact h0
              · obtain ⟨q, hq, e⟩ := Htp.out.2.1 (by rw [Hbl.out]; exact h0)
                rw [Hbl.out] at hq
                exact absurd e (hny q hq)
            have Hr := Lib.hid (show crR l o = 0 ∧ crE l o = 5 by simp [crR, crE, Hx.out, ← Hol.out, h0])
            clear h0
            go_wp2_with fail
            go_ret2
            exact ⟨by rw [Hr.out.1, Hr.out.2]; rfl, hb⟩
  · have hr : crR l o = 0 ∧ crE l o = exB l o := by simp [crR, crE, hx]
    have Hr := Lib.hid hr
    clear hr h h'
    have hne : (exB l o == 0) = false := by simpa using hx
    generalize exB l o = e0 at ce hx hne Hr
    clear hx
    go_enter Try.func30, Try.ntmps30
    go_wp2_with (first | (go_at_call 57; refine ce.out.mono ?_; rintro e w1 ⟨rfl, hb1⟩))
    go_ret2
    exact ⟨by rw [Hr.out.1, Hr.out.2]; rfl, hb1⟩
end Go.Proofs.Ytoegemlpboeodaa
