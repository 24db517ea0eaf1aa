/- Long. -/
import Derived.Test.YtgoojcjfhghmgaaDoorDisX
namespace Go.Proofs.YtgoojcjfhghmgaaDoor
open Go.RowKit

instance (b : Bk) : Decidable (Short b) := by unfold Short; infer_instance
/-- Whether a book has long lists. -/
def lgR (b : Bk) : Bool := !decide (Short b)
theorem lg_true {b : Bk} (h : ¬ Short b) : lgR b = true := by unfold lgR; rw [decide_eq_false h]; rfl
theorem lg_false {b : Bk} (h : Short b) : lgR b = false := by unfold lgR; rw [decide_eq_true h]; rfl
theorem lg_short {b : Bk} (h : lgR b = false) : Short b := by
  unfold lgR at h
  simpa using h

set_option maxRecDepth 100000 in
set_option maxHeartbeats 2000000 in
theorem Long_any (AI AR : Option Addr) (cI cR B : Nat) (b : Bk) (w : World) (hB : B ≤ w.heap.size) (h : ItsAt B w AI b.its) (h' : RusAt B w AR b.rus) :
    Calls Tryd.prog 17 #[.agg #[.int .i64 b.p, .slice AI b.its.length cI, .slice AR b.rus.length cR]] w fun e w' => e = .returned (.bool (lgR b)) ∧ Below w.heap.size w w' := by
  have HT := Lib.hid (fun h : ¬ Short b => lg_true h)
  have HF := Lib.hid (fun h : Short b => lg_false h)
  have HS := Lib.hid (show Short b ↔ (b.its.length ≤ 60 ∧ b.rus.length ≤ 60 ∧ (∀ x ∈ b.its, x.1.length ≤ 40 ∧ x.2.length ≤ 40) ∧ ∀ x ∈ b.rus, x.1.length ≤ 40) from Iff.rfl)
  generalize lgR b = r at HT HF ⊢
  generalize Short b = S at HT HF HS
  obtain ⟨p, its, rus⟩ := b
  simp only at h h' HS ⊢
  have hw0 : Below w.heap.size w (w.alloc (.cells #[.int .i64 p, .slice AI its.length cI, .slice AR rus.length cR] 25)) := (Below.refl _ _).alloc (Nat.le_refl _) _
  have hb0 := Blk.new w 25 #[.int .i64 p, .slice AI its.length cI, .slice AR rus.length cR]
  have y0 := hb0.cell 0
  have y1 := hb0.cell 1
  have y2 := hb0.cell 2
  by_cases h1 : 60 < its.length
  · have Hr := Lib.hid (HT.out (fun hs => by have := (HS.out.1 hs).1; omega))
    have hd : decide ((60 : Int) < (its.length : Int)) = true := by simp; omega
    clear h h' hb0 HT HF HS
    go_enter Tryd.func17, Tryd.ntmps17
    go_wp2_with fail
    go_ret
    exact ⟨by rw [Hr.out]; rfl, hw0⟩
  · have hd : decide ((60 : Int) < (its.length : Int)) = false := by simp; omega
    by_cases h2 : 60 < rus.length
    · have Hr := Lib.hid (HT.out (fun hs => by have := (HS.out.1 hs).2.1; omega))
      have hd2 : decide ((60 : Int) < (rus.length : Int)) = true := by simp; omega
      clear h h' hb0 HT HF HS
      go_enter Tryd.func17, Tryd.ntmps17
      go_wp2_with fail
      go_ret
      exact ⟨by rw [Hr.out]; rfl, hw0⟩
    · have hd2 : decide ((60 : Int) < (rus.length : Int)) = false := by simp; omega
      have hl1 : its.length ≤ 60 := by omega
      have hl2 : rus.length ≤ 60 := by omega
      have H := Lib.hid ((h.below (Below.refl _ _) hB).below hw0 (Nat.le_refl _))
      have H' := Lib.hid ((h'.below (Below.refl _ _) hB).below hw0 (Nat.le_refl _))
      have Hw := Lib.hid hw0
      clear h h' hb0 hw0
      go_enter Tryd.func17, Tryd.ntmps17
      go_wp2_with fail
      go_loop [3] (fun i => ∃ k : Nat, k ≤ its.length ∧ i = .int .i64 k ∧ ∀ j (hj : j < its.length), j < k → its[j].1.length ≤ 40 ∧ its[j].2.length ≤ 40) (fun i => its.length - (intOf i).toNat)
      case atStart => exact ⟨0, Nat.zero_le _, rfl, fun j _ hk => absurd hk (Nat.not_lt_zero j)⟩
      case round =>
        obtain ⟨k, hk, rfl, hn⟩ := hrel
        by_cases hlt : k < its.length
        · obtain ⟨bb, off, A1, c1, A2, c2, rfl, hbB, e0, e1, i1, i2⟩ := H.out k hlt
          have Hn := Lib.hid hn
          have Hbad := Lib.hid (fun hx : ¬ (its[k].1.length ≤ 40 ∧ its[k].2.length ≤ 40) => HT.out (fun hs => hx ((HS.out.1 hs).2.2.1 its[k] (List.getElem_mem hlt))))
          have Hgood := Lib.hid (fun hx : its[k].1.length ≤ 40 ∧ its[k].2.length ≤ 40 => show ∀ j (hj : j < its.length), j < k + 1 → its[j].1.length ≤ 40 ∧ its[j].2.length ≤ 40 from fun j hj hjk => by
            by_cases e : j = k
            · subst e; exact hx
            · exact Hn.out j hj (by omega))
          clear i1 i2 hn
          generalize its[k].1.length = n1 at e0 Hbad Hgood
          generalize its[k].2.length = n2 at e1 Hbad Hgood
          by_cases g1 : 40 < n1
          · have gd : decide ((40 : Int) < (n1 : Int)) = true := by simp; omega
            have Hr := Lib.hid (Hbad.out (by omega))
            clear HF HT Hbad Hgood
            go_wp2_with fail
            go_ret
            exact ⟨by rw [Hr.out]; rfl, Hw.out⟩
          · have gd : decide ((40 : Int) < (n1 : Int)) = false := by simp; omega
            by_cases g2 : 40 < n2
            · have gd2 : decide ((40 : Int) < (n2 : Int)) = true := by simp; omega
              have Hr := Lib.hid (Hbad.out (by omega))
              clear HF HT Hbad Hgood
              go_wp2_with fail
              go_ret
              exact ⟨by rw [Hr.out]; rfl, Hw.out⟩
            · have gd2 : decide ((40 : Int) < (n2 : Int)) = false := by simp; omega
              have Hg := Lib.hid (Hgood.out ⟨by omega, by omega⟩)
              clear HF HT Hbad Hgood
              go_wp2_with fail
              go_round
              case rel => exact ⟨k + 1, by omega, by go_num, Hg.out⟩
              case measure => simp [intOf]; omega
        · obtain rfl : k = its.length := by omega
          have Hits := Lib.hid (show ∀ x ∈ its, x.1.length ≤ 40 ∧ x.2.length ≤ 40 from fun x hx => by
            obtain ⟨j, hj, rfl⟩ := List.getElem_of_mem hx
            exact hn j hj hj)
          clear hn
          go_wp2_with fail
          go_loop [4] (fun i => ∃ k : Nat, k ≤ rus.length ∧ i = .int .i64 k ∧ ∀ j (hj : j < rus.length), j < k → rus[j].1.length ≤ 40) (fun i => rus.length - (intOf i).toNat)
          case atStart => exact ⟨0, Nat.zero_le _, rfl, fun j _ hk => absurd hk (Nat.not_lt_zero j)⟩
          case round =>
            obtain ⟨k, hk, rfl, hn⟩ := hrel
            by_cases hlt : k < rus.length
            · obtain ⟨bb, off, A1, c1, rfl, hbB, e0, e1, i1⟩ := H'.out k hlt
              have Hn := Lib.hid hn
              have Hbad := Lib.hid (fun hx : ¬ (rus[k].1.length ≤ 40) => HT.out (fun hs => hx ((HS.out.1 hs).2.2.2 rus[k] (List.getElem_mem hlt))))
              have Hgood := Lib.hid (fun hx : rus[k].1.length ≤ 40 => show ∀ j (hj : j < rus.length), j < k + 1 → rus[j].1.length ≤ 40 from fun j hj hjk => by
                by_cases e : j = k
                · subst e; exact hx
                · exact Hn.out j hj (by omega))
              clear i1 hn
              generalize rus[k].1.length = n1 at e0 Hbad Hgood
              by_cases g1 : 40 < n1
              · have gd : decide ((40 : Int) < (n1 : Int)) = true := by simp; omega
                have Hr := Lib.hid (Hbad.out (by omega))
                clear HF HT Hbad Hgood
                go_wp2_with fail
                go_ret
                exact ⟨by rw [Hr.out]; rfl, Hw.out⟩
              · have gd : decide ((40 : Int) < (n1 : Int)) = false := by simp; omega
                have Hg := Lib.hid (Hgood.out (by omega))
                clear HF HT Hbad Hgood
                go_wp2_with fail
                go_round
                case rel => exact ⟨k + 1, by omega, by go_num, Hg.out⟩
                case measure => simp [intOf]; omega
            · obtain rfl : k = rus.length := by omega
              have Hr := Lib.hid (HF.out (HS.out.2 ⟨hl1, hl2, Hits.out, fun x hx => by
                obtain ⟨j, hj, rfl⟩ := List.getElem_of_mem hx
                exact hn j hj hj⟩))
              clear hn HF HT HS Hits
              go_wp2_with fail
              go_ret
              exact ⟨by rw [Hr.out]; rfl, Hw.out⟩
end Go.Proofs.YtgoojcjfhghmgaaDoor
