/- The reference's closed. -/
import Derived.Test.YtgoojcjfhghmgaaDoorDisEa
namespace Go.Proofs.YtgoojcjfhghmgaaDoor
open Go.RowKit

def boolV (x n : Nat) : List Value := (List.range n).map fun i => .bool (x.testBit i)
theorem boolV_length (x n : Nat) : (boolV x n).length = n := by simp [boolV]
theorem boolV_get {x n i : Nat} (hi : i < n) : (boolV x n)[i]? = some (.bool (x.testBit i)) := by simp [boolV, hi]
theorem boolV_one (x n : Nat) : ∀ u ∈ boolV x n, u.oneCell' = true := by
  intro u hu
  simp only [boolV, List.mem_map] at hu
  obtain ⟨i, _, rfl⟩ := hu
  rfl
theorem BR.news {g n x : Nat} {W W' : World} (h : BR g n x W) (hk : ∀ i, i < n → W'.cell? ⟨g, i, none⟩ = W.cell? ⟨g, i, none⟩) : ∀ j u, (boolV x n)[j]? = some u → W'.cell? ((⟨g, 0, none⟩ : Addr).add j) = some u := by
  intro j u hu
  have hj : j < n := by
    have := (List.getElem?_eq_some_iff.1 hu).1
    rwa [boolV_length] at this
  rw [boolV_get hj] at hu
  rw [Addr.add_lit, Nat.zero_add, hk j hj, h.2 j hj]
  exact hu
theorem BB.of_own {w : World} {base n : Nat} {v : Value} {x : Nat} (hv : ¬ v = .slice none 0 0) (h : w.ownsRow base 4 1 v n (boolV x n)) : ∃ g c, v = .slice (some ⟨g, 0, none⟩) n c ∧ base ≤ g ∧ BB g n x w := by
  rcases h.2 with ⟨rfl, _⟩ | ⟨g, cap, cur, rfl, hb, hg, hnc, _, hs, ht⟩
  · exact absurd rfl hv
  · refine ⟨g, cap, rfl, hb, cur, hg, by omega, fun i hi => ?_⟩
    have h1 : (cur.toList.take (n * 1))[i]? = some (.bool (x.testBit i)) := by rw [ht]; exact boolV_get hi
    rw [List.getElem?_take_of_lt (by omega)] at h1
    simpa using h1

set_option maxRecDepth 100000 in
set_option maxHeartbeats 4000000 in
theorem closed_ref (A : Option Addr) (c B g n c' x0 : Nat) (l : List Ru) (w : World) (hB : B ≤ w.heap.size) (h : RusAt B w A l) (hbr : BR g n x0 w) (hs : l.length ≤ 60) (hl : ∀ x ∈ l, x.1.length ≤ 40) (hr : ∀ x ∈ l, ruOk n x = true) (hn : n ≤ 10) (hx0 : x0 < 2 ^ n) :
    Calls Tryd.prog 73 #[.slice A l.length c, .slice (some ⟨g, 0, none⟩) n c'] w fun e w' => ∃ g' k' x, e = .returned (.slice (some ⟨g', 0, none⟩) n k') ∧ Cl l x0 allW x ∧ x < 2 ^ n ∧ BB g' n x w' ∧ w.heap.size ≤ g' ∧ Below w.heap.size w w' := by
  obtain ⟨j0, hj, hy0, hy1, hy2⟩ := info_parts info4
  have H := Lib.hid (h.below (Below.refl _ _) hB)
  have Hr := Lib.hid hr
  have Hl := Lib.hid hl
  have HX0 := Lib.hid hx0
  have Hbr := Lib.hid hbr
  clear h hr hl hx0 hbr
  go_enter Tryd.func73, Tryd.ntmps73
  go_wp2_with (at_builtin; refine wpList_append_own _ rfl _ _ 94 rfl w.heap.size 4 j0 _ 1 1 Tryd.underlying94 hj hy0 hy1 hy2 rfl (by decide) _ _ _ rfl (own_new 1 (Nat.le_refl _)) ⟨g, 0, none⟩ n c' (boolV x0 n) rfl (by simp [boolV]) (Hbr.out.news fun i hi => Below.cell (p := ⟨g, i, none⟩) (balloc (Below.refl w.heap.size w) (.cells #[] 4)) Hbr.out.1) (boolV_one _ _) (by simp only [maxLen]; omega) (by omega) (balloc (Below.refl w.heap.size w) _).size ?_; intro v' w1 hown hg1 hnil)
  have b1 : Below w.heap.size w w1 := (balloc (Below.refl w.heap.size w) _).grown hg1 (balloc (Below.refl w.heap.size w) _).size (fun x hx => (World.ownsRow.lt (own_new (w := w) (base := w.heap.size) (e := 4) 1 (Nat.le_refl _)) x hx).1)
  rw [Nat.zero_add, List.nil_append] at hown
  obtain ⟨g1, k1, rfl, hg', hbb⟩ := BB.of_own (fun hv => by have := hnil.1 hv; exact absurd this.1 (by intro hh; cases hh)) hown
  have HBB := Lib.hid hbb
  clear hown hnil hg1 hbb
  go_wp2_with fail
  go_loopg [6] (2 * (2 ^ n - x0) + 1) (fun gh s6 wx => ∃ (x : Nat) (ag : Bool), s6 = .bool ag ∧ gh = 2 * (2 ^ n - x) + (if ag then 1 else 0) ∧ x < 2 ^ n ∧ Aside (Way l x0 allW x) ∧ Aside (ag = false → Shut l allW x) ∧ Aside (BB g1 n x wx) ∧ Below w.heap.size w wx)
  case atStart => exact ⟨x0, true, rfl, rfl, HX0.out, Way.start _ _ _, fun h => absurd h (by decide), HBB.out, b1⟩
  case round =>
    obtain ⟨x, ag, rfl, hgh, hx, HW, HS, HB, hbx⟩ := hrel
    cases ag with
    | false =>
      have HX := Lib.hid (show Cl l x0 allW x from ⟨HW.out, HS.out rfl⟩)
      have HBx := Lib.hid HB.out
      go_wp2_with fail
      go_ret
      exact ⟨g1, ⟨k1, rfl⟩, x, HX.out, hx, HBx.out, hg', hbx⟩
    | true =>
      simp only [if_true] at hgh
      have Hbx := Lib.hid hbx
      have HB2 := Lib.hid HB.out
      clear hbx HS HB
      obtain ⟨W1, hW1⟩ : ∃ W1, W1 = wr := ⟨_, rfl⟩
      subst hW1
      go_wp2_with fail
      go_loopg [6, 7] l.length (fun gh s6 s7 wy => ∃ (k y : Nat) (ag : Bool), k + gh = l.length ∧ s6 = .bool ag ∧ s7 = .int .i64 k ∧ y < 2 ^ n ∧ x ≤ y ∧ Aside (ag = true → x < y) ∧ Aside (Way l x0 allW y) ∧ Aside (ag = false → Off l allW y k) ∧ Aside (BB g1 n y wy) ∧ Below w.heap.size w wy)
      case atStart => exact ⟨0, x, false, by omega, rfl, rfl, hx, Nat.le_refl _, fun h => absurd h (by decide), HW.out, fun _ j _ hj => absurd hj (Nat.not_lt_zero j), HB2.out, Hbx.out⟩
      case round =>
        clear Hbx HB2 HW
        obtain ⟨k, y, ag, hkg, rfl, rfl, hy, hxy, HM, HW, HK, HB, hby⟩ := hrel
        cases gk with
        | zero =>
          obtain rfl : k = l.length := by omega
          have HSh := Lib.hid (show ag = false → Shut l allW y from fun h => (HK.out h).all)
          have HBy := Lib.hid HB.out
          have hm := HM.out
          have HWy := Lib.hid HW.out
          clear HK HB HM HW
          go_wp2_with fail
          go_roundg (2 * (2 ^ n - y) + (if ag then 1 else 0))
          case measure =>
            cases ag with
            | false => simp; omega
            | true => have := hm rfl; simp; omega
          case rel => exact ⟨y, ag, rfl, rfl, hy, HWy.out, HSh.out, HBy.out, hby⟩
        | succ g2 =>
          have hkl : k < l.length := by omega
          obtain ⟨bb, off, A1, c1, rfl, hbB, e0, e1, i1⟩ := H.out k hkl
          have d0 := (hby.cell (p := ⟨bb, off + k * 2, none⟩) hbB).trans e0
          have d1 := (hby.cell (p := ⟨bb, off + k * 2 + 1, none⟩) hbB).trans e1
          obtain ⟨hset, ht0, htp⟩ := ruOk_mem (Hr.out l[k] (List.getElem_mem hkl))
          obtain ⟨t, ht⟩ := Int.eq_ofNat_of_zero_le ht0
          have hin : intL (natL l[k].1) = l[k].1 := int_nat fun x hx => (isS_mem hset x hx).1
          have hqn : ∀ q ∈ natL l[k].1, q < n := natL_lt (isS_mem hset)
          have hlen : l[k].1.length = (natL l[k].1).length := by rw [natL_length]
          have hl40 := Hl.out l[k] (List.getElem_mem hkl)
          have HOf := Lib.hid (fun (h : allB y (natL l[k].1) = true → allW l[k].2.toNat = true → y.testBit l[k].2.toNat = true) (ha : ag = false) => (HK.out ha).succ fun _ => h)
          have HSt := Lib.hid (fun (h1 : allB y (natL l[k].1) = true) => HW.out.step (List.getElem_mem hkl) h1 rfl)
          have htn : l[k].2.toNat = t := by rw [ht]; rfl
          rw [htn] at HOf HSt
          rw [← hin] at i1
          rw [hlen] at d0 hl40
          rw [ht] at d1 htp
          have htn' : t < n := by omega
          have HBy := Lib.hid HB.out
          have HMy := Lib.hid HM.out
          have HWy := Lib.hid HW.out
          have z0 := HB.out.cell htn'
          have z1 := HB.out.frozen t
          clear e0 e1 hset ht0 hin hlen htn ht HK HB HM HW
          generalize natL l[k].1 = L at i1 hqn d0 hl40 HOf HSt
          have ca := Lib.hid (all_ref g1 k1 y n A1 c1 w.heap.size L wr HBy.out.br (i1.below hby (Nat.le_refl _)) (by omega) hqn)
          have Hby := Lib.hid hby
          clear hby i1
          cases hyt : y.testBit t with
          | true =>
            rw [hyt] at z0 HOf
            have HO2 := Lib.hid (HOf.out fun _ _ => rfl)
            clear hyt ca HOf
            go_wp2_with fail
            go_roundg g2
            case measure => omega
            case rel => exact ⟨k + 1, y, ag, by omega, rfl, by go_num, hy, hxy, HMy.out, HWy.out, HO2.out, HBy.out, Hby.out⟩
          | false =>
            have hmore := or_more hyt
            rw [hyt] at z0
            cases ha : allB y L with
            | false =>
              rw [ha] at ca HOf
              have HO2 := Lib.hid (HOf.out fun h => absurd h (by decide))
              clear hyt HOf ha
              go_wp2_with (go_at_call 100; refine ca.out.mono ?_; rintro e w2 ⟨rfl, rfl⟩)
              go_roundg g2
              case measure => omega
              case rel => exact ⟨k + 1, y, ag, by omega, rfl, by go_num, hy, hxy, HMy.out, HWy.out, HO2.out, HBy.out, Hby.out⟩
            | true =>
              rw [ha] at ca
              have HS2 := Lib.hid (HSt.out ha)
              have hlt : y ||| 2 ^ t < 2 ^ n := Nat.or_lt_two_pow hy (Nat.pow_lt_pow_right (by decide) htn')
              have HBp := Lib.hid (HBy.out.put t)
              clear hyt HOf ha HSt
              generalize y ||| 2 ^ t = y' at hmore hlt HS2 HBp
              go_wp2_with (go_at_call 100; refine ca.out.mono ?_; rintro e w2 ⟨rfl, rfl⟩)
              go_roundg g2
              case measure => omega
              case rel => exact ⟨k + 1, y', true, by omega, rfl, by go_num, hlt, by omega, fun _ => by omega, HS2.out, fun h => absurd h (by decide), HBp.out, below_put Hby.out hg' _ _⟩
end Go.Proofs.YtgoojcjfhghmgaaDoor
