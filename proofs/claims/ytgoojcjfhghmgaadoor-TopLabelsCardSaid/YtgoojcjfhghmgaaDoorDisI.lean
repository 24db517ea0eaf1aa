/- Books in a world; isRule, Validate. -/
import Derived.Test.YtgoojcjfhghmgaaDoorDisH
namespace Go.Proofs.YtgoojcjfhghmgaaDoor
open Go.RowKit

/-- An item: its parts, and what it has. A rule: its properties, and what follows. -/
abbrev It := List Int × List Int
abbrev Ru := List Int × Int
structure Bk where
  p : Int
  its : List It
  rus : List Ru
def ItsAt (B : Nat) (w : World) (A : Option Addr) (l : List It) : Prop :=
  ∀ k (hk : k < l.length), ∃ b off A1 c1 A2 c2, A = some ⟨b, off, none⟩ ∧ b < B ∧ w.cell? ⟨b, off + k * 2, none⟩ = some (.slice A1 l[k].1.length c1) ∧ w.cell? ⟨b, off + k * 2 + 1, none⟩ = some (.slice A2 l[k].2.length c2) ∧ IntsAt B w A1 l[k].1 ∧ IntsAt B w A2 l[k].2
def RusAt (B : Nat) (w : World) (A : Option Addr) (l : List Ru) : Prop :=
  ∀ k (hk : k < l.length), ∃ b off A1 c1, A = some ⟨b, off, none⟩ ∧ b < B ∧ w.cell? ⟨b, off + k * 2, none⟩ = some (.slice A1 l[k].1.length c1) ∧ w.cell? ⟨b, off + k * 2 + 1, none⟩ = some (.int .i64 l[k].2) ∧ IntsAt B w A1 l[k].1
theorem ItsAt.below {B B' : Nat} {w w' : World} {A : Option Addr} {l : List It} (h : ItsAt B w A l) (hb : Below B w w') (hB : B ≤ B') : ItsAt B' w' A l := by
  intro k hk
  obtain ⟨b, off, A1, c1, A2, c2, e, h1, h2, h3, h4, h5⟩ := h k hk
  exact ⟨b, off, A1, c1, A2, c2, e, by omega, (hb.cell (p := ⟨b, off + k * 2, none⟩) h1).trans h2, (hb.cell (p := ⟨b, off + k * 2 + 1, none⟩) h1).trans h3, h4.below hb hB, h5.below hb hB⟩
theorem RusAt.below {B B' : Nat} {w w' : World} {A : Option Addr} {l : List Ru} (h : RusAt B w A l) (hb : Below B w w') (hB : B ≤ B') : RusAt B' w' A l := by
  intro k hk
  obtain ⟨b, off, A1, c1, e, h1, h2, h3, h4⟩ := h k hk
  exact ⟨b, off, A1, c1, e, by omega, (hb.cell (p := ⟨b, off + k * 2, none⟩) h1).trans h2, (hb.cell (p := ⟨b, off + k * 2 + 1, none⟩) h1).trans h3, h4.below hb hB⟩
/-- No list of the book is long. -/
def Short (b : Bk) : Prop := b.its.length ≤ 60 ∧ b.rus.length ≤ 60 ∧ (∀ x ∈ b.its, x.1.length ≤ 40 ∧ x.2.length ≤ 40) ∧ ∀ x ∈ b.rus, x.1.length ≤ 40

def ruOk (p : Int) (x : Ru) : Bool := isS x.1 p && decide (0 ≤ x.2) && decide (x.2 < p)
set_option maxRecDepth 100000 in
set_option maxHeartbeats 1000000 in
theorem isRule_any (A : Option Addr) (c B : Nat) (x : Ru) (p : Int) (w : World) (hB : B ≤ w.heap.size) (h : IntsAt B w A x.1) (hm : x.1.length ≤ 1000) :
    Calls Tryd.prog 60 #[.agg #[.slice A x.1.length c, .int .i64 x.2], .int .i64 p] w fun e w' => e = .returned (.bool (ruOk p x)) ∧ Below w.heap.size w w' := by
  obtain ⟨l, t⟩ := x
  have hw0 : Below w.heap.size w (w.alloc (.cells #[.slice A l.length c, .int .i64 t] 42)) := (Below.refl _ _).alloc (Nat.le_refl _) _
  have cs := Lib.hid (isSet_any A c w.heap.size l p (w.alloc (.cells #[.slice A l.length c, .int .i64 t] 42)) hw0.size ((h.below (Below.refl _ _) hB).below hw0 (Nat.le_refl _)) hm)
  have HB := Lib.hid (Blk.new w 42 #[.slice A l.length c, .int .i64 t])
  have Hr := Lib.hid (show ruOk p (l, t) = (isS l p && decide (0 ≤ t) && decide (t < p)) from rfl)
  have Hw := Lib.hid hw0
  rw [Hr.out]
  generalize isS l p = s at cs ⊢
  clear h hw0
  cases s
  · go_enter Tryd.func60, Tryd.ntmps60
    go_wp2_with (go_at_call 59; refine cs.out.mono ?_; rintro e w1 ⟨rfl, hb⟩; have z1 := (hb.cell (p := ⟨w.heap.size, 1, none⟩) (by simp)).trans (HB.out.cell 1))
    go_ret
    exact ⟨rfl, Hw.out.trans (hb.mono Hw.out.size)⟩
  · have hx : (0 ≤ t ∧ decide (0 ≤ t) = true) ∨ (t < 0 ∧ decide (0 ≤ t) = false) := by
      rcases Int.lt_or_le t 0 with h1 | h1
      · exact .inr ⟨h1, by simp; omega⟩
      · exact .inl ⟨h1, by simpa using h1⟩
    rcases hx with ⟨h1, g1⟩ | ⟨h1, g1⟩
    all_goals
      go_enter Tryd.func60, Tryd.ntmps60
      go_wp2_with (go_at_call 59; refine cs.out.mono ?_; rintro e w1 ⟨rfl, hb⟩; have z1 := (hb.cell (p := ⟨w.heap.size, 1, none⟩) (by simp)).trans (HB.out.cell 1))
      go_ret
      exact ⟨by simp [g1], Hw.out.trans (hb.mono Hw.out.size)⟩

/-- The error of the item with number i. -/
def itE (p : Int) (i : Nat) (x : It) : Int := if 6 < x.1.length then 4 else if isS x.1 i && isS x.2 p then 0 else 1
def itsE (p : Int) : Nat → List It → Int
  | _, [] => 0
  | i, x :: l => if itE p i x = 0 then itsE p (i + 1) l else itE p i x
/-- The error of a book. -/
def vlR (b : Bk) : Int := if b.p < 0 ∨ 10 < b.p then 1 else if 20 < b.its.length ∨ 16 < b.rus.length then 4 else if itsE b.p 0 b.its = 0 then (if b.rus.all (ruOk b.p) then 0 else 1) else itsE b.p 0 b.its
theorem itsE_step {p : Int} {k : Nat} {l : List It} (hk : k < l.length) : itsE p k (l.drop k) = if itE p k l[k] = 0 then itsE p (k + 1) (l.drop (k + 1)) else itE p k l[k] := by
  rw [List.drop_eq_getElem_cons hk]; rfl
def vBk (AI AR : Option Addr) (cI cR : Nat) (b : Bk) : Value := .agg #[.int .i64 b.p, .slice AI b.its.length cI, .slice AR b.rus.length cR]

set_option maxRecDepth 100000 in
set_option maxHeartbeats 2000000 in
theorem Validate_any (AI AR : Option Addr) (cI cR B : Nat) (b : Bk) (w : World) (hB : B ≤ w.heap.size) (h : ItsAt B w AI b.its) (h' : RusAt B w AR b.rus) (hs : Short b) :
    Calls Tryd.prog 20 #[.agg #[.int .i64 b.p, .slice AI b.its.length cI, .slice AR b.rus.length cR]] w fun e w' => e = .returned (.int .i64 (vlR b)) ∧ Below w.heap.size w w' := by
  obtain ⟨p, its, rus⟩ := b
  obtain ⟨s1, s2, s3, s4⟩ := hs
  simp only at h h' s1 s2 s3 s4 ⊢
  have hw0 : Below w.heap.size w (w.alloc (.cells #[.int .i64 p, .slice AI its.length cI, .slice AR rus.length cR] 25)) := (Below.refl _ _).alloc (Nat.le_refl _) _
  have hb0 := Blk.new w 25 #[.int .i64 p, .slice AI its.length cI, .slice AR rus.length cR]
  by_cases h1 : p < 0 ∨ 10 < p
  · have Hr := Lib.hid (show vlR ⟨p, its, rus⟩ = 1 from if_pos h1)
    clear h h' s3 s4
    rcases h1 with h1 | h1
    all_goals
      go_enter Tryd.func20, Tryd.ntmps20
      go_wp2_with fail
      go_ret
      exact ⟨by rw [Hr.out]; rfl, hw0⟩
  · have h1' := Lib.hid h1
    have h1a : 0 ≤ p := by omega
    have h1b : p ≤ 10 := by omega
    clear h1
    by_cases h2 : 20 < its.length ∨ 16 < rus.length
    · have Hr := Lib.hid (show vlR ⟨p, its, rus⟩ = 4 by rw [vlR, if_neg h1'.out, if_pos h2])
      clear h h' s3 s4
      rcases h2 with h2 | h2
      · go_enter Tryd.func20, Tryd.ntmps20
        go_wp2_with fail
        go_ret
        exact ⟨by rw [Hr.out]; rfl, hw0⟩
      · by_cases h3 : 20 < its.length
        · go_enter Tryd.func20, Tryd.ntmps20
          go_wp2_with fail
          go_ret
          exact ⟨by rw [Hr.out]; rfl, hw0⟩
        · go_enter Tryd.func20, Tryd.ntmps20
          go_wp2_with fail
          go_ret
          exact ⟨by rw [Hr.out]; rfl, hw0⟩
    · have hl1 : its.length ≤ 20 := by omega
      have hl2 : rus.length ≤ 16 := by omega
      have Hr := Lib.hid (show vlR ⟨p, its, rus⟩ = if itsE p 0 its = 0 then (if rus.all (ruOk p) then 0 else 1) else itsE p 0 its by rw [vlR, if_neg h1'.out, if_neg h2])
      have H := Lib.hid (h.below (Below.refl _ _) hB)
      have H' := Lib.hid (h'.below (Below.refl _ _) hB)
      have HB0 := Lib.hid hb0
      clear h h' h2 hb0
      go_enter Tryd.func20, Tryd.ntmps20
      go_wp2_with fail
      go_loopw [28] (fun i wr => ∃ k : Nat, k ≤ its.length ∧ i = .int .i64 k ∧ itsE p 0 its = itsE p k (its.drop k) ∧ Below w.heap.size w wr ∧ Blk wr w.heap.size 25 #[.int .i64 p, .slice AI its.length cI, .slice AR rus.length cR]) (fun i _ => its.length - (intOf i).toNat)
      case atStart => exact ⟨0, Nat.zero_le _, rfl, rfl, hw0, HB0.out⟩
      case round =>
        obtain ⟨k, hk, rfl, he, hb, hblk⟩ := hrel
        by_cases hlt : k < its.length
        · obtain ⟨bb, off, A1, c1, A2, c2, rfl, hbB, e0, e1, i1, i2⟩ := H.out k hlt
          obtain ⟨m1, m2⟩ := s3 its[k] (List.getElem_mem hlt)
          have d0 := (hb.cell (p := ⟨bb, off + k * 2, none⟩) hbB).trans e0
          have d1 := (hb.cell (p := ⟨bb, off + k * 2 + 1, none⟩) hbB).trans e1
          have He := Lib.hid (he.trans (itsE_step hlt))
          have Hi := Lib.hid (show itE p k its[k] = if 6 < its[k].1.length then 4 else if isS its[k].1 k && isS its[k].2 p then 0 else 1 from rfl)
          have hba := hb.alloc hb.size (.cells #[.slice A1 its[k].1.length c1, .slice A2 its[k].2.length c2] 84)
          have HBA := Lib.hid hba
          have HK := Lib.hid (Blk.new wr 84 #[.slice A1 its[k].1.length c1, .slice A2 its[k].2.length c2])
          have HX := Lib.hid (hblk.alloc (.cells #[.slice A1 its[k].1.length c1, .slice A2 its[k].2.length c2] 84))
          have cs1 := Lib.hid (fun W (hW : Below w.heap.size w W) => isSet_any A1 c1 w.heap.size its[k].1 (k : Int) W hW.size (i1.below hW (Nat.le_refl _)) (by omega))
          have cs2 := Lib.hid (fun W (hW : Below w.heap.size w W) => isSet_any A2 c2 w.heap.size its[k].2 p W hW.size (i2.below hW (Nat.le_refl _)) (by omega))
          clear e0 e1 i1 i2 hba he hblk
          generalize its[k].1.length = n1 at d0 HBA HK HX cs1 Hi m1
          generalize its[k].2.length = n2 at d1 HBA HK HX cs2 m2
          by_cases h6 : 6 < n1
          · have Hz := Lib.hid (show itE p k its[k] = 4 by rw [Hi.out, if_pos h6])
            clear cs1 cs2
            go_wp2_with fail
            go_ret
            exact ⟨by rw [Hr.out, He.out, Hz.out]; rfl, HBA.out⟩
          · have H6 := Lib.hid h6
            have Hz := Lib.hid (show itE p k its[k] = if isS its[k].1 k && isS its[k].2 p then 0 else 1 by rw [Hi.out, if_neg h6])
            generalize isS its[k].1 k = s at cs1 Hz
            generalize isS its[k].2 p = t at cs2 Hz
            have tok := Lib.hid (Nat.le_refl 0)
            cases s
            · clear cs2
              go_wp2_with (go_at_call 59; refine (cs1.out _ HBA.out).mono ?_; rintro e w2 ⟨rfl, hd⟩; have hb2 := HBA.out.trans (hd.mono HBA.out.size))
              go_ret
              exact ⟨by rw [Hr.out, He.out, Hz.out]; rfl, hb2⟩
            · have hsz := Lib.hid (show (wr.alloc (.cells #[.slice A1 n1 c1, .slice A2 n2 c2] 84)).heap.size = wr.heap.size + 1 by simp)
              cases t
              all_goals
                go_wp2_with (first
                  | (go_at_call 59; have tk := tok; clear tok; refine (cs1.out _ HBA.out).mono ?_; rintro e w2 ⟨rfl, hd⟩; have hb2 := HBA.out.trans (hd.mono HBA.out.size); have HK2 := HK.out.below hd HK.out.lt; have HX2 := HX.out.below hd HX.out.lt; have z1 := HK2.cell 1; have z2 := HX2.cell 0; have z3 := HX2.cell 2; have tok2 := tk)
                  | (go_at_call 59; have tk := tok2; clear tok2; refine (cs2.out _ hb2).mono ?_; rintro e w3 ⟨rfl, hd3⟩; have hb3 := hb2.trans (hd3.mono hb2.size); have HX3 := HX2.below hd3 HX2.lt))
              · go_ret
                exact ⟨by rw [Hr.out, He.out, Hz.out]; rfl, hb3⟩
              · go_roundw
                case rel => exact ⟨k + 1, by omega, by go_num, by rw [He.out, Hz.out]; rfl, hb3, HX3⟩
                case measure => simp [intOf]; omega
        · obtain rfl : k = its.length := by omega
          rw [List.drop_length] at he
          have He := Lib.hid (show itsE p 0 its = 0 from he)
          obtain ⟨y0, y1, y2, _⟩ := blk3 hblk
          clear he
          go_wp2_with fail
          go_loopw [56] (fun i wr => ∃ k : Nat, k ≤ rus.length ∧ i = .int .i64 k ∧ (∀ j (hj : j < rus.length), j < k → ruOk p rus[j] = true) ∧ Below w.heap.size w wr ∧ Blk wr w.heap.size 25 #[.int .i64 p, .slice AI its.length cI, .slice AR rus.length cR]) (fun i _ => rus.length - (intOf i).toNat)
          case atStart => exact ⟨0, Nat.zero_le _, rfl, fun j hj hk => by omega, hb, hblk⟩
          case round =>
            obtain ⟨k, hk, rfl, hn, hb2, hblk2⟩ := hrel
            by_cases hlt2 : k < rus.length
            · obtain ⟨bb, off, A1, c1, rfl, hbB, e0, e1, i1⟩ := H'.out k hlt2
              have m1 := s4 rus[k] (List.getElem_mem hlt2)
              have d0 := (hb2.cell (p := ⟨bb, off + k * 2, none⟩) hbB).trans e0
              have d1 := (hb2.cell (p := ⟨bb, off + k * 2 + 1, none⟩) hbB).trans e1
              have hba := hb2.alloc hb2.size (.cells #[.slice A1 rus[k].1.length c1, .int .i64 rus[k].2] 42)
              have HBA := Lib.hid hba
              have HX := Lib.hid (hblk2.alloc (.cells #[.slice A1 rus[k].1.length c1, .int .i64 rus[k].2] 42))
              have w0 := HX.out.cell 0
              have cs := Lib.hid (isRule_any A1 c1 w.heap.size rus[k] p _ HBA.out.size (i1.below HBA.out (Nat.le_refl _)) (by omega))
              have Hn := Lib.hid hn
              obtain ⟨y0, y1, y2, _⟩ := blk3 hblk2
              clear e0 e1 i1 hba hn
              cases hr : ruOk p rus[k] with
              | false =>
                have Ha := Lib.hid (show rus.all (ruOk p) = false by
                  rw [List.all_eq_false]; exact ⟨rus[k], List.getElem_mem hlt2, by rw [hr]; simp⟩)
                rw [hr] at cs
                clear hr
                go_wp2_with (go_at_call 60; refine cs.out.mono ?_; rintro e w3 ⟨rfl, hd⟩)
                go_ret
                exact ⟨by rw [Hr.out, He.out, Ha.out]; rfl, HBA.out.trans (hd.mono HBA.out.size)⟩
              | true =>
                rw [hr] at cs
                have Hru := Lib.hid hr
                clear hr
                go_wp2_with (go_at_call 60; refine cs.out.mono ?_; rintro e w3 ⟨rfl, hd⟩)
                go_roundw
                case rel =>
                  refine ⟨k + 1, by omega, by go_num, fun j hj hjk => ?_, HBA.out.trans (hd.mono HBA.out.size), HX.out.below hd HX.out.lt⟩
                  by_cases e : j = k
                  · subst e; exact Hru.out
                  · exact Hn.out j hj (by omega)
                case measure => simp [intOf]; omega
            · obtain rfl : k = rus.length := by omega
              have Ha := Lib.hid (show rus.all (ruOk p) = true by
                rw [List.all_eq_true]
                intro x hx
                obtain ⟨i, hi, rfl⟩ := List.getElem_of_mem hx
                exact hn i hi hi)
              clear hn
              go_wp2_with fail
              go_ret
              exact ⟨by rw [Hr.out, He.out, Ha.out]; rfl, hb2⟩
end Go.Proofs.YtgoojcjfhghmgaaDoor
