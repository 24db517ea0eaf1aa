/- All tours; the reference's smallest length. -/
import Derived.Test.YtmodbpglopfghaaVanX
import Derived.Test.YtmodbpglopfghaaVanAa
set_option linter.unusedSimpArgs false
set_option linter.unusedVariables false
namespace Go.Proofs.Ytmodbpglopfghaa
open Go.RowKit

theorem set_self {α : Type} (l : List α) (i : Nat) (x : α) (h : l[i]? = some x) : l.set i x = l := by
  apply List.ext_getElem?
  intro j
  rw [List.getElem?_set]
  by_cases e : i = j
  · subst e
    rw [if_pos rfl, h]
    have : i < l.length := (List.getElem?_eq_some_iff.1 h).1
    rw [if_pos this]
  · rw [if_neg e]
theorem RowsOwn.put {base : Nat} {gx : Option Nat} {w : World} {vs : List Value} {rows : List (List Int)} (h : RowsOwn base gx w vs rows) {i k : Nat} (hi : i < rows.length) (hk : k < rows[i].length) :
    ∃ b c, vs[i]? = some (.slice (some ⟨b, 0, none⟩) rows[i].length c) ∧ b < w.heap.size ∧ base ≤ b ∧ gx ≠ some b ∧ w.cell? ⟨b, k, none⟩ = some (.int .i64 rows[i][k]) ∧ w.frozen? ⟨b, k, none⟩ = false ∧
      ∀ v, RowsOwn base gx (w.setCell ⟨b, k, none⟩ (.int .i64 v)) vs (rows.set i (rows[i].set k v)) := by
  obtain ⟨A, c, h1, h2, h3⟩ := h.2.1 i hi
  obtain ⟨b, rfl, hb, hbb, hcell⟩ := own_cell h2 (k := k) (u := .int .i64 rows[i][k]) hk (by simp [hk])
  refine ⟨b, c, h1, hb, hbb, h3 b rfl, hcell, ?_, fun v => ⟨by rw [List.length_set]; exact h.1, fun j hj => ?_, h.2.2⟩⟩
  · rcases h2.2 with ⟨e, _⟩ | ⟨g', cap, cur, e, _, h5, _⟩
    · cases e
    · injection e with e
      injection e with e
      injection e with e
      subst e
      exact Blk.frozen (show Blk w b 3 cur from h5) k
  · rw [List.length_set] at hj
    by_cases e : j = i
    · subst e
      rw [List.getElem_set_self]
      refine ⟨some ⟨b, 0, none⟩, c, by rw [List.length_set]; exact h1, ?_, fun k' hk' => h3 k' (by rw [List.length_set] at hk'; exact hk')⟩
      rw [List.length_set, List.map_set]
      exact (h2.stored k (.int .i64 v)).1
    · rw [List.getElem_set_ne (fun h => e h.symm)]
      obtain ⟨A', c', q1, q2, q3⟩ := h.2.1 j hj
      refine ⟨A', c', q1, ownsRow_setCell_other q2 (fun hb' => ?_) _, q3⟩
      have hb'' : (Value.slice A' rows[j].length c').ownBlock = some b := hb'
      rcases Nat.lt_or_ge j i with hlt | hge
      · exact h.2.2 j i _ _ hlt q1 h1 b hb'' rfl
      · exact h.2.2 i j _ _ (by omega) h1 q1 b rfl hb''
/-- The orders, one more each. -/
def incL (o : List Int) : List Int := o.map (· + 1)
def trS (n : Nat) : List (List Int) := (ordS (n - 1)).map incL
/-- Of which the rows before i, and of row i the first k, are one more. -/
def incT (os : List (List Int)) (i k : Nat) : List (List Int) := (os.take i).map incL ++ (match os[i]? with | none => [] | some o => [incL (o.take k) ++ o.drop k]) ++ os.drop (i + 1)
theorem incT_zero (os : List (List Int)) : incT os 0 0 = os := by
  cases os with
  | nil => rfl
  | cons o r => simp [incT, incL]
theorem incT_length (os : List (List Int)) (i k : Nat) (h : i < os.length) : (incT os i k).length = os.length := by
  simp [incT, h]; omega
theorem incT_all (os : List (List Int)) (k : Nat) : incT os os.length k = os.map incL := by simp [incT]
theorem incT_get {os : List (List Int)} {i k : Nat} (h : i < os.length) : (incT os i k)[i]? = some (incL (os[i].take k) ++ os[i].drop k) := by
  unfold incT
  rw [List.append_assoc, List.getElem?_append_right (by simp; omega)]
  simp [h, Nat.min_eq_left (Nat.le_of_lt h)]
theorem incT_far {os : List (List Int)} {i k j : Nat} (h : i < os.length) (hj : i < j) : (incT os i k)[j]? = os[j]? := by
  unfold incT
  rw [List.getElem?_append_right (by simp [h]; omega)]
  simp [h]
  congr 1
  omega
theorem incT_next {os : List (List Int)} {i : Nat} (h : i < os.length) : incT os i os[i].length = incT os (i + 1) 0 := by
  unfold incT
  rw [List.take_succ_eq_append_getElem h, List.map_append]
  simp only [List.getElem?_eq_getElem h, List.take_length, List.drop_length, List.append_nil, List.map_cons, List.map_nil, List.take_zero, List.drop_zero]
  by_cases h2 : i + 1 < os.length
  · rw [List.getElem?_eq_getElem h2]
    simp only [incL, List.map_nil, List.nil_append]
    rw [List.append_assoc, List.append_assoc, List.append_assoc]
    congr 2
    rw [List.drop_eq_getElem_cons h2]; rfl
  · rw [List.getElem?_eq_none (by omega)]
    simp
    omega
theorem incT_step {os : List (List Int)} {i k : Nat} (h : i < os.length) (hk : k < os[i].length) : (incT os i k).set i ((incL (os[i].take k) ++ os[i].drop k).set k (os[i][k] + 1)) = incT os i (k + 1) := by
  have e : (incL (os[i].take k) ++ os[i].drop k).set k (os[i][k] + 1) = incL (os[i].take (k + 1)) ++ os[i].drop (k + 1) := by
    have h1 : (incL (os[i].take k)).length = k := by simp [incL]; omega
    rw [List.set_append, if_neg (by omega), h1, Nat.sub_self, List.drop_eq_getElem_cons hk, List.set_cons_zero, List.take_succ_eq_append_getElem hk]
    unfold incL
    rw [List.map_append, List.append_assoc]
    rfl
  rw [e]
  unfold incT
  simp only [List.getElem?_eq_getElem h]
  rw [List.append_assoc, List.set_append, if_neg (by simp; omega)]
  have : i - ((os.take i).map incL).length = 0 := by simp; omega
  rw [this, List.append_assoc]
  rfl
theorem trS_length (n : Nat) : (trS n).length = (ordS (n - 1)).length := by simp [trS]
theorem incL_iota (m : Nat) : incL (iota m) = intL (frm 1 (m + 1)) := by
  unfold incL iota intL frm
  apply List.ext_getElem
  · simp
  · intro i h1 h2
    simp
    omega
theorem frm_tour {n : Nat} {t : List Nat} (h : t.Perm (frm 1 n)) : Tour n t :=
  ⟨⟨h.nodup_iff.2 List.nodup_range', fun x hx => mem_frm.1 (h.subset hx)⟩, by rw [h.length_eq, frm_length]⟩
theorem toNat_toN {t : List Int} : ∀ x : Int, 0 ≤ x → ((x.toNat : Nat) : Int) = x := fun x h => by omega
theorem intL_map (t : List Int) (h : ∀ x ∈ t, 0 ≤ x) : intL (t.map Int.toNat) = t := by
  unfold intL
  rw [List.map_map]
  conv => rhs; rw [← List.map_id t]
  apply List.map_congr_left
  intro x hx
  have := h x hx
  simp
  omega
theorem map_intL (t : List Nat) : (intL t).map Int.toNat = t := by
  unfold intL
  rw [List.map_map]
  conv => rhs; rw [← List.map_id t]
  apply List.map_congr_left
  intro x hx
  simp
/-- These are all tours. -/
theorem trS_tour {n : Nat} (hn : 1 ≤ n) {o : List Int} (h : o ∈ trS n) : ∃ t, Tour n t ∧ o = intL t := by
  obtain ⟨p, hp, rfl⟩ := List.mem_map.1 h
  have hpp := (ordS_perm (n - 1) p).1 hp
  have h1 : (incL p).Perm (intL (frm 1 n)) := by
    have := hpp.map (fun x : Int => x + 1)
    have e := incL_iota (n - 1)
    rw [show n - 1 + 1 = n by omega] at e
    rw [← e]; exact this
  refine ⟨(incL p).map Int.toNat, frm_tour ?_, (intL_map _ fun x hx => ?_).symm⟩
  · have := h1.map Int.toNat
    rw [map_intL] at this
    exact this
  · have := h1.subset hx
    unfold intL at this
    obtain ⟨y, _, rfl⟩ := List.mem_map.1 this
    omega
theorem tour_trS {n : Nat} (hn : 1 ≤ n) {t : List Nat} (h : Tour n t) : intL t ∈ trS n := by
  refine List.mem_map.2 ⟨(intL t).map (· - 1), (ordS_perm (n - 1) _).2 ?_, ?_⟩
  · have h1 : (intL t).Perm (incL (iota (n - 1))) := by
      have e := incL_iota (n - 1)
      rw [show n - 1 + 1 = n by omega] at e
      rw [e]; exact h.perm.map _
    have h2 := h1.map (fun x : Int => x - 1)
    have e2 : (incL (iota (n - 1))).map (fun x : Int => x - 1) = iota (n - 1) := by
      unfold incL
      rw [List.map_map]
      conv => rhs; rw [← List.map_id (iota (n - 1))]
      apply List.map_congr_left
      intro x hx
      simp
    rw [e2] at h2
    exact h2
  · unfold incL
    rw [List.map_map]
    conv => rhs; rw [← List.map_id (intL t)]
    apply List.map_congr_left
    intro x hx
    simp

set_option maxRecDepth 100000 in
set_option maxHeartbeats 1000000 in
theorem tours_ref (A : Option Addr) (n c : Nat) (w : World) (hn : 1 ≤ n) (hn7 : n ≤ 7) :
    Calls Try.prog 62 #[.slice A n c] w fun e w' => ∃ A' c' vs, e = .returned (.slice A' (trS n).length c') ∧ w'.ownsRow w.heap.size 28 1 (.slice A' (trS n).length c') (trS n).length vs ∧ RowsOwn w.heap.size (Value.slice A' (trS n).length c').ownBlock w' vs (trS n) ∧ Below w.heap.size w w' := by
  have co := Orders_ref (n - 1) (by omega) w
  have e : ((n - 1 : Nat) : Int) = (n : Int) - 1 := by omega
  rw [e] at co
  have CO := Lib.hid co
  have hw1 : IntKind.i64.wrap ((n : Int) - 1) = (n : Int) - 1 := IntWalk.i64_in _ (by omega)
  have hpos := ordS_pos (n - 1)
  have hbd := ordS_bd (n := n - 1) (by omega)
  have Hlen := Lib.hid (fun o (ho : o ∈ ordS (n - 1)) => ordS_length ho)
  have Hbx := Lib.hid (show ∀ o ∈ ordS (n - 1), ∀ x ∈ o, 0 ≤ x ∧ x ≤ 6 from fun o ho x hx => by
    have := mem_iota.1 (((ordS_perm _ _).1 ho).subset hx)
    omega)
  rw [trS_length]
  have HT := Lib.hid (show (ordS (n - 1)).map incL = trS n from rfl)
  clear co e
  generalize ordS (n - 1) = os at *
  go_enter Try.func62, Try.ntmps62
  go_wp2_with (go_at_call 90; refine CO.out.mono ?_; rintro e w1 ⟨v, vs, rfl, hown, hR, hb⟩; obtain ⟨A0, c0, rfl⟩ := own_form hown)
  have HO := Lib.hid hown
  have HR := Lib.hid hR
  have HB := Lib.hid hb
  clear hown hR hb
  go_loopw [4] (fun vi wr => ∃ i : Nat, i ≤ os.length ∧ vi = .int .i64 i ∧ wr.ownsRow w.heap.size 28 1 (.slice A0 os.length c0) os.length vs ∧ RowsOwn w.heap.size (Value.slice A0 os.length c0).ownBlock wr vs (incT os i 0) ∧ Below w.heap.size w wr) (fun vi _ => os.length - (intOf vi).toNat)
  case atStart => exact ⟨0, Nat.zero_le _, rfl, HO.out, by rw [incT_zero]; exact HR.out, HB.out⟩
  case round =>
    clear HO HR HB
    obtain ⟨i, hi, rfl, hown, hR, hb⟩ := hrel
    have HO := Lib.hid hown
    have HR := Lib.hid hR
    have HB := Lib.hid hb
    clear hown hR hb
    by_cases hlt : i < os.length
    · have hM := Hlen.out _ (List.getElem_mem hlt)
      have hiI : (i : Int) < (os.length : Int) := by omega
      go_wp2_with fail
      go_loopw [5] (fun vk wr => ∃ k : Nat, k ≤ n - 1 ∧ vk = .int .i64 k ∧ wr.ownsRow w.heap.size 28 1 (.slice A0 os.length c0) os.length vs ∧ RowsOwn w.heap.size (Value.slice A0 os.length c0).ownBlock wr vs (incT os i k) ∧ Below w.heap.size w wr) (fun vk _ => n - 1 - (intOf vk).toNat)
      case atStart => exact ⟨0, Nat.zero_le _, rfl, HO.out, HR.out, HB.out⟩
      case round =>
        clear HO HR HB
        obtain ⟨k, hk, rfl, hown, hR, hb⟩ := hrel
        have HO := Lib.hid hown
        have HR := Lib.hid hR
        have HB := Lib.hid hb
        clear hown hR hb
        have hrl : (incT os i k)[i]? = some (incL (os[i].take k) ++ os[i].drop k) := incT_get hlt
        have hil : i < (incT os i k).length := by rw [incT_length _ _ _ hlt]; exact hlt
        have hre : (incT os i k)[i] = incL (os[i].take k) ++ os[i].drop k := by
          rw [List.getElem?_eq_getElem hil] at hrl
          injection hrl
        have hrlen : (incT os i k)[i].length = n - 1 := by
          rw [hre]; simp [incL]; omega
        obtain ⟨A1, c1, hv1, _⟩ := HR.out.2.1 i hil
        rw [hrlen] at hv1
        obtain ⟨g0, rfl, hg0, hgb, hcell⟩ := own_cell HO.out hlt hv1
        by_cases hklt : k < n - 1
        · obtain ⟨b, cb, q1, q2, q3, q4, q5, q6, q7⟩ := HR.out.put hil (k := k) (by omega)
          have e1 : (.slice A1 (n - 1) c1 : Value) = .slice (some ⟨b, 0, none⟩) (incT os i k)[i].length cb := by
            rw [hv1] at q1
            rw [hrlen] at q1 ⊢
            injection q1
          rw [hrlen] at e1
          rw [e1] at hcell
          have hok : k < os[i].length := by omega
          have hx : (incT os i k)[i][k]'(by omega) = os[i][k] := by
            simp only [hre]
            rw [List.getElem_append_right (by simp [incL]; omega)]
            simp [incL, Nat.min_eq_left (Nat.le_of_lt hok)]
          rw [hx] at q5
          have q8 := q7 (os[i][k] + 1)
          simp only [hre] at q8
          rw [incT_step hlt hok] at q8
          have HR2 := Lib.hid q8
          have hxb := Hbx.out _ (List.getElem_mem hlt) _ (List.getElem_mem hok)
          have HOn := Lib.hid (fun u => ownsRow_setCell_other HO.out (a := ⟨b, k, none⟩) q4 u)
          have HBn := Lib.hid (below_put HB.out q3 k (.int .i64 (os[i][k] + 1)))
          have hbI : (k : Int) < ((n - 1 : Nat) : Int) := by omega
          generalize os[i][k] = x at q5 HR2 hxb HBn
          have hwx : IntKind.i64.wrap (x + 1) = x + 1 := IntWalk.i64_in _ (by omega)
          clear q7 q8 q1 hx e1 hrl hre hrlen hv1 HO HR
          go_wp2_with fail
          go_roundw
          case rel => exact ⟨k + 1, by omega, by go_num, HOn.out _, HR2.out, HBn.out⟩
          case measure => simp [intOf]; omega
        · obtain rfl : k = n - 1 := by omega
          have HR2 := Lib.hid HR.out
          rw [← hM, incT_next hlt] at HR2
          have hkI : ((n - 1 : Nat) : Int) ≤ ((n - 1 : Nat) : Int) := Int.le_refl _
          clear hrl hre hrlen hv1
          go_wp2_with fail
          go_roundw
          case rel => exact ⟨i + 1, by omega, by go_num, HO.out, HR2.out, HB.out⟩
          case measure => simp [intOf]; omega
    · obtain rfl : i = os.length := by omega
      have HR2 := Lib.hid HR.out
      rw [incT_all, HT.out] at HR2
      go_wp2_with fail
      go_ret
      exact ⟨_, _, vs, rfl, HO.out, HR2.out, HB.out⟩
end Go.Proofs.Ytmodbpglopfghaa
