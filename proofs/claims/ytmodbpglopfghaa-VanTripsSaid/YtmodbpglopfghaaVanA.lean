/- Tables of ways; within, Validate, Large, stops. -/
import Derived.Test.YtmodbpglopfghaaLists
import Derived.Test.YtmodbpglopfghaaBase2
import Derived.Test.YtmodbpglopfghaaProg
import Derived.WalkSpells
import Derived.Deep.QuietTactic
import Derived.BigQuiet
set_option linter.unusedSimpArgs false
namespace Go.Proofs.Ytmodbpglopfghaa
open Go.RowKit

/-- A table of numbers in memory. -/
def TblAt (B : Nat) (w : World) (A : Option Addr) (rows : List (List Int)) : Prop :=
  ∀ k (hk : k < rows.length), ∃ b off A1 c1, A = some ⟨b, off, none⟩ ∧ b < B ∧ w.cell? ⟨b, off + k, none⟩ = some (.slice A1 rows[k].length c1) ∧ IntsAt B w A1 rows[k]
theorem TblAt.below {B B' : Nat} {w w' : World} {A : Option Addr} {rows : List (List Int)} (h : TblAt B w A rows) (hb : Below B w w') (hB : B ≤ B') : TblAt B' w' A rows := by
  intro k hk
  obtain ⟨b, off, A1, c1, e, h1, h2, h3⟩ := h k hk
  exact ⟨b, off, A1, c1, e, by omega, (hb.cell (p := ⟨b, off + k, none⟩) h1).trans h2, h3.below hb hB⟩
/-- The way from i to j. -/
def wy (rows : List (List Int)) (i j : Nat) : Int := (rows[i]?.getD [])[j]?.getD 0
theorem wy_get {rows : List (List Int)} {i j : Nat} (hi : i < rows.length) (hj : j < rows[i].length) : rows[i][j] = wy rows i j := by simp [wy, hi, hj]
def inI (x lo hi : Int) : Bool := decide (lo ≤ x ∧ x ≤ hi)
def okP (rows : List (List Int)) (i j : Nat) : Prop := (0 ≤ wy rows i j ∧ wy rows i j ≤ 1000) ∧ wy rows i j = wy rows j i ∧ (i = j → wy rows i j = 0)
instance (rows : List (List Int)) (i j : Nat) : Decidable (okP rows i j) := by unfold okP; infer_instance
/-- A square table of ways. -/
structure VW (rows : List (List Int)) : Prop where
  n0 : 1 ≤ rows.length
  n1 : rows.length ≤ 7
  sq : ∀ r ∈ rows, r.length = rows.length
  ok : ∀ i j, i < rows.length → j < rows.length → okP rows i j
/-- The error of ways. -/
noncomputable def vwR (rows : List (List Int)) : Int := if rows.length < 1 ∨ 7 < rows.length then 4 else @ite _ (VW rows) (Classical.propDecidable _) 0 1
theorem vw_large {rows : List (List Int)} (h : rows.length < 1 ∨ 7 < rows.length) : vwR rows = 4 := if_pos h
theorem vw_bad {rows : List (List Int)} (h : ¬ (rows.length < 1 ∨ 7 < rows.length)) (h' : ¬ VW rows) : vwR rows = 1 := by rw [vwR, if_neg h, if_neg h']
theorem vw_ok {rows : List (List Int)} (h' : VW rows) : vwR rows = 0 := by
  have := h'.n0
  have := h'.n1
  rw [vwR, if_neg (by omega), if_pos h']
theorem vw_zero {rows : List (List Int)} (h : vwR rows = 0) : VW rows := by
  unfold vwR at h
  split at h
  · contradiction
  · split at h
    · assumption
    · contradiction
theorem sq_get {rows : List (List Int)} (h : ∀ r ∈ rows, r.length = rows.length) {i : Nat} (hi : i < rows.length) : rows[i].length = rows.length := h _ (List.getElem_mem hi)
theorem TblAt.way {B : Nat} {w : World} {A : Option Addr} {rows : List (List Int)} (h : TblAt B w A rows) (hs : ∀ r ∈ rows, r.length = rows.length) {i j : Nat} (hi : i < rows.length) (hj : j < rows.length) :
    ∃ b off b1 off1 c1, A = some ⟨b, off, none⟩ ∧ b < B ∧ b1 < B ∧ w.cell? ⟨b, off + i, none⟩ = some (.slice (some ⟨b1, off1, none⟩) rows.length c1) ∧ w.cell? ⟨b1, off1 + j, none⟩ = some (.int .i64 (wy rows i j)) := by
  obtain ⟨b, off, A1, c1, rfl, h1, h2, h3⟩ := h i hi
  have hl := sq_get hs hi
  obtain ⟨b1, off1, rfl, h4, h5⟩ := h3.at (k := j) (by omega)
  rw [wy_get hi (by omega)] at h5
  rw [hl] at h2
  exact ⟨b, off, b1, off1, c1, rfl, h1, h4, h2, h5⟩

set_option maxHeartbeats 400000 in
theorem within_ref (x lo hi : Int) (w : World) : Calls Try.prog 60 #[.int .i64 x, .int .i64 lo, .int .i64 hi] w fun e w' => e = .returned (.bool (inI x lo hi)) ∧ w' = w := by
  by_cases h1 : lo ≤ x
  · have hd : decide (lo ≤ x) = true := by simpa using h1
    have Hr := Lib.hid (show inI x lo hi = decide (x ≤ hi) by simp [inI, h1])
    go_enter Try.func60, Try.ntmps60
    go_wp2_with fail
    go_ret
    exact ⟨by rw [Hr.out]; rfl, rfl⟩
  · have hd : decide (lo ≤ x) = false := by simpa using h1
    have Hr := Lib.hid (show inI x lo hi = false by simp [inI, h1])
    go_enter Try.func60, Try.ntmps60
    go_wp2_with fail
    go_ret
    exact ⟨by rw [Hr.out]; rfl, rfl⟩

/-- Whether a table is large. -/
def lgW (rows : List (List Int)) : Bool := decide (30 < rows.length) || rows.any fun r => decide (30 < r.length)
theorem lgW_small {rows : List (List Int)} (h : lgW rows = false) : rows.length ≤ 30 ∧ ∀ r ∈ rows, r.length ≤ 30 := by
  simp only [lgW, Bool.or_eq_false_iff, decide_eq_false_iff_not, List.any_eq_false, decide_eq_true_eq] at h
  exact ⟨by omega, fun r hr => by have := h.2 r hr; omega⟩

set_option maxRecDepth 100000 in
set_option maxHeartbeats 1000000 in
theorem Large_any (A : Option Addr) (c B : Nat) (rows : List (List Int)) (w : World) (h : TblAt B w A rows) :
    Calls Try.prog 17 #[.slice A rows.length c] w fun e w' => e = .returned (.bool (lgW rows)) ∧ w' = w := by
  by_cases h1 : 30 < rows.length
  · have Hr := Lib.hid (show lgW rows = true by simp [lgW, h1])
    have hd : decide ((30 : Int) < (rows.length : Int)) = true := by simp; omega
    go_enter Try.func17, Try.ntmps17
    go_wp2_with fail
    go_ret
    exact ⟨by rw [Hr.out]; rfl, rfl⟩
  · have hd : decide ((30 : Int) < (rows.length : Int)) = false := by simp; omega
    have Hr := Lib.hid (show lgW rows = rows.any fun r => decide (30 < r.length) by simp [lgW, h1])
    have hm : rows.length ≤ 30 := by omega
    have H := Lib.hid h
    clear h h1
    go_enter Try.func17, Try.ntmps17
    go_wp2_with fail
    go_loop [3] (fun i => ∃ k : Nat, k ≤ rows.length ∧ i = .int .i64 k ∧ ∀ j (hj : j < rows.length), j < k → rows[j].length ≤ 30) (fun i => rows.length - (intOf i).toNat)
    case atStart => exact ⟨0, Nat.zero_le _, rfl, fun j _ hk => absurd hk (Nat.not_lt_zero j)⟩
    case round =>
      obtain ⟨k, hk, rfl, hn⟩ := hrel
      by_cases hlt : k < rows.length
      · obtain ⟨b, off, A1, c1, rfl, hbB, e0, i1⟩ := H.out k hlt
        have Hn := Lib.hid hn
        clear hn
        by_cases h3 : 30 < rows[k].length
        · have Hb := Lib.hid (show (rows.any fun r => decide (30 < r.length)) = true by
            rw [List.any_eq_true]; exact ⟨rows[k], List.getElem_mem hlt, by simpa using h3⟩)
          have hd3 : decide ((30 : Int) < (rows[k].length : Int)) = true := by simp; omega
          generalize rows[k].length = m at e0 hd3 h3
          clear i1
          go_wp2_with fail
          go_ret
          exact ⟨by rw [Hr.out, Hb.out]; rfl, rfl⟩
        · have hd3 : decide ((30 : Int) < (rows[k].length : Int)) = false := by simp; omega
          have Hn2 := Lib.hid (show ∀ j (hj : j < rows.length), j < k + 1 → rows[j].length ≤ 30 from fun j hj hjk => by
            by_cases e : j = k
            · subst e; omega
            · exact Hn.out j hj (by omega))
          generalize rows[k].length = m at e0 hd3 h3
          clear i1 h3
          go_wp2_with fail
          go_round
          case rel => exact ⟨k + 1, by omega, by go_num, Hn2.out⟩
          case measure => simp [intOf]; omega
      · obtain rfl : k = rows.length := by omega
        have Hb := Lib.hid (show (rows.any fun r => decide (30 < r.length)) = false by
          rw [List.any_eq_false]
          intro r hr
          obtain ⟨j, hj, rfl⟩ := List.mem_iff_getElem.1 hr
          have := hn j hj hj
          simp; omega)
        clear hn
        go_wp2_with fail
        go_ret
        exact ⟨by rw [Hr.out, Hb.out]; rfl, rfl⟩

/-- 1, 2 .. -/
def upto (k : Nat) : List Int := (List.range (k - 1)).map fun i => ((i + 1 : Nat) : Int)
theorem upto_length (k : Nat) : (upto k).length = k - 1 := by simp [upto]
theorem upto_succ {k : Nat} (hk : 1 ≤ k) : upto (k + 1) = upto k ++ [(k : Int)] := by
  obtain ⟨m, rfl⟩ : ∃ m, k = m + 1 := ⟨k - 1, by omega⟩
  simp [upto, List.range_succ]
theorem upto_get {k i : Nat} (h : i < (upto k).length) : (upto k)[i] = ((i + 1 : Nat) : Int) := by simp [upto]
theorem info3 : (Try.prog.info? 3).map (fun i => (i.zero, i.size, i.bytes)) = some (some (.int .i64 0), 1, 8) := by kernel_rfl

set_option maxRecDepth 100000 in
set_option maxHeartbeats 1000000 in
theorem stops_any (A : Option Addr) (n c : Nat) (w : World) (hn : n ≤ 30) :
    Calls Try.prog 55 #[.slice A n c] w fun e w' => ∃ A' c', e = .returned (.slice A' (n - 1) c') ∧ w'.ownsRow w.heap.size 3 1 (.slice A' (n - 1) c') (n - 1) ((upto n).map (Value.int .i64)) ∧ Below w.heap.size w w' := by
  obtain ⟨j0, hj, hy0, hy1, hy2⟩ := info_parts info3
  go_enter Try.func55, Try.ntmps55
  go_wp2_with fail
  go_loopw [3, 4] (fun out i wr => ∃ k : Nat, 1 ≤ k ∧ (k ≤ n ∨ k = 1) ∧ i = .int .i64 k ∧ wr.ownsRow w.heap.size 3 1 out (upto k).length ((upto k).map (Value.int .i64)) ∧ Below w.heap.size w wr) (fun _ i _ => n - (intOf i).toNat)
  case atStart => exact ⟨1, Nat.le_refl _, .inr rfl, rfl, World.ownsRow_nil _ _ _ _, Below.refl _ _⟩
  case round =>
    obtain ⟨k, hk1, hk, rfl, hown, hb⟩ := hrel
    have hlen := upto_length k
    by_cases hlt : k < n
    · have HO := Lib.hid hown
      have Hs := Lib.hid (upto_succ hk1)
      have hkn : (k : Int) < (n : Int) := by omega
      clear hown
      go_wp2_with (at_builtin; refine wpList_append_own _ rfl _ _ 28 rfl w.heap.size 3 j0 _ 1 8 Try.underlying28 hj hy0 hy1 hy2 rfl (by decide) _ _ _ rfl (HO.out.alloc _) ⟨wr.heap.size, 0, none⟩ 1 1 _ rfl rfl (cell_one_new _ _ _) (by simp [Value.oneCell']) (by simp only [maxLen]; omega) (by omega) (hb.alloc hb.size _).size ?_; intro v' w7 hown7 hg7 _)
      have b7 : Below w.heap.size w w7 := (hb.alloc hb.size _).grown hg7 (hb.alloc hb.size _).size (fun x hx => (HO.out.lt x hx).1)
      go_roundw
      case rel => exact ⟨k + 1, by omega, .inl (by omega), by go_num, by rw [Hs.out, List.length_append, List.map_append]; exact hown7, b7⟩
      case measure => simp [intOf]; omega
    · have hkn : (n : Int) ≤ (k : Int) := by omega
      have hu : upto k = upto n := by
        rcases hk with hk | hk
        · rw [show k = n by omega]
        · subst hk
          rcases (show n = 0 ∨ n = 1 by omega) with h | h <;> subst h <;> rfl
      rw [hu, upto_length] at hown
      obtain ⟨A5, c5, rfl⟩ := own_form hown
      go_wp2_with fail
      go_ret
      exact ⟨A5, c5, rfl, hown, hb⟩
end Go.Proofs.Ytmodbpglopfghaa
