/- CopyInts, CopyRules. -/
import Derived.Test.YtgoojcjfhghmgaaDoorBd
import Derived.Test.YtgoojcjfhghmgaaDoorBa
import Derived.Deep.RegionHeld3
import Derived.OrdersHeld
import Derived.Test.YtgoojcjfhghmgaaDoorBf

namespace Go.Proofs.YtgoojcjfhghmgaaDoor
open Go.RowKit

theorem LstN.own {g : Option Nat} {w : World} {vs : List Value} {os : List (List Int)} {base e c n : Nat} {A : Option Addr} {o : List Int} (h : LstN g w vs os) (hn : o.length = n) (hown : w.ownsRow base e 1 (.slice A n c) n (o.map (Value.int .i64))) (hg : ∀ k, g = some k → k < base) :
    LstN g w (vs ++ [.slice A n c]) (os ++ [o]) := by
  subst hn
  obtain ⟨h1, h2, h3⟩ := own_caps hown
  refine h.snoc (IntsAt.of_own hown) (fun a ha => ?_) h1 h2
  obtain ⟨h4, h5, h6⟩ := h3 a ha
  exact ⟨h5, fun he => by have := hg _ he.symm; omega, h6⟩
theorem lst_step {W w7 wr : World} {g g' : Option Nat} {us : List Value} {os : List (List Int)} {A : Option Addr} {c n e : Nat} {o : List Int} (hg : W.grownBy w7 g) (hat : ∀ k, g' = some k → g = some k ∨ k = W.heap.size) (hW : Below wr.heap.size wr W)
    (hown : W.ownsRow wr.heap.size e 1 (.slice A n c) n (o.map (Value.int .i64))) (hL : LstN g wr us os) (hlt : ∀ k, g = some k → k < wr.heap.size) (ho : o.length = n) :
    LstN g' w7 (us ++ [.slice A n c]) (os ++ [o]) :=
  LstN.grown (LstN.own (hL.below hW) ho hown hlt) hg hat
def flatV (ps : List (Value × Value)) : List Value := ps.flatMap fun p => [p.1, p.2]
theorem flatV_snoc (ps : List (Value × Value)) (a b : Value) : flatV (ps ++ [(a, b)]) = flatV ps ++ [a, b] := by simp [flatV]
theorem flatV_length (ps : List (Value × Value)) : (flatV ps).length = ps.length * 2 := by
  induction ps with
  | nil => rfl
  | cons p ps ih => simp only [flatV, List.flatMap_cons, List.length_append, List.length_cons, List.length_nil] at ih ⊢; omega
theorem flatV_get : ∀ (ps : List (Value × Value)) (k : Nat) (hk : k < ps.length), (flatV ps)[k * 2]? = some ps[k].1 ∧ (flatV ps)[k * 2 + 1]? = some ps[k].2
  | p :: ps, 0, _ => by simp [flatV]
  | p :: ps, k + 1, hk => by
    have := flatV_get ps k (by simpa using hk)
    have e : flatV (p :: ps) = p.1 :: p.2 :: flatV ps := by simp [flatV]
    rw [e, show (k + 1) * 2 = k * 2 + 1 + 1 by omega]
    simpa using this
theorem own_cell2 {w : World} {base e n c : Nat} {A : Option Addr} {ps : List (Value × Value)} (h : w.ownsRow base e 2 (.slice A n c) n (flatV ps)) (hl : ps.length = n) {k : Nat} (hk : k < ps.length) :
    ∃ g, A = some ⟨g, 0, none⟩ ∧ g < w.heap.size ∧ w.cell? ⟨g, k * 2, none⟩ = some ps[k].1 ∧ w.cell? ⟨g, k * 2 + 1, none⟩ = some ps[k].2 := by
  rcases h.2 with ⟨e1, e2⟩ | ⟨g, cap, cur, e1, hb, _⟩
  · omega
  · injection e1 with e1 e3 e4
    subst e1 e4
    obtain ⟨f0, f1⟩ := flatV_get ps k hk
    have h0 := h.cells (g := g) rfl (k * 2) _ f0
    have h1 := h.cells (g := g) rfl (k * 2 + 1) _ f1
    rw [Addr.add_lit, Nat.zero_add] at h0 h1
    exact ⟨g, rfl, (h.lt g rfl).2, h0, h1⟩
theorem info42 : (Tryd.prog.info? 42).map (fun i => (i.zero, i.size, i.bytes)) = some (some (.agg #[.slice none 0 0, .int .i64 0]), 2, 32) := by kernel_rfl
theorem info84 : (Tryd.prog.info? 84).map (fun i => (i.zero, i.size, i.bytes)) = some (some (.agg #[.slice none 0 0, .slice none 0 0]), 2, 48) := by kernel_rfl

set_option maxRecDepth 100000 in
set_option maxHeartbeats 2000000 in
theorem CopyInts_ref (A : Option Addr) (c B : Nat) (l : List Int) (w : World) (hB : B ≤ w.heap.size) (h : IntsAt B w A l) (hm : l.length ≤ 1000) :
    Calls Tryd.prog 58 #[.slice A l.length c] w fun e w' => ∃ A' c', e = .returned (.slice A' l.length c') ∧ w'.ownsRow w.heap.size 3 1 (.slice A' l.length c') l.length (l.map (Value.int .i64)) ∧ Below w.heap.size w w' := by
  obtain ⟨j0, hj, hy0, hy1, hy2⟩ := info_parts info3
  have H := Lib.hid (h.below (Below.refl _ _) hB)
  clear h hB
  go_enter Tryd.func58, Tryd.ntmps58
  go_wp2_with fail
  go_loopw [3, 4] (fun out i wr => ∃ k : Nat, k ≤ l.length ∧ i = .int .i64 k ∧ wr.ownsRow w.heap.size 3 1 out k ((l.take k).map (Value.int .i64)) ∧ Below w.heap.size w wr) (fun _ i _ => l.length - (intOf i).toNat)
  case atStart => exact ⟨0, Nat.zero_le _, rfl, World.ownsRow_nil _ _ _ _, Below.refl _ _⟩
  case round =>
    obtain ⟨k, hk, rfl, hown, hb⟩ := hrel
    by_cases hlt : k < l.length
    · obtain ⟨b, off, rfl, hbB, q0⟩ := H.out.at hlt
      have q1 := (hb.cell (p := ⟨b, off + k, none⟩) hbB).trans q0
      have HO := Lib.hid hown
      have Hb := Lib.hid hb
      have Hs := Lib.hid (show (l.take (k + 1)).map (Value.int .i64) = (l.take k).map (Value.int .i64) ++ [.int .i64 l[k]] by rw [List.take_succ_eq_append_getElem hlt, List.map_append]; rfl)
      clear q0 hown hb
      generalize l[k] = y at q1 Hs
      go_wp2_with (at_builtin; refine wpList_append_own _ rfl _ _ 32 rfl w.heap.size 3 j0 _ 1 8 Tryd.underlying32 hj hy0 hy1 hy2 rfl (by decide) _ _ _ rfl (HO.out.alloc _) ⟨wr.heap.size, 0, none⟩ 1 1 _ rfl rfl (cell_one_new _ _ _) (by simp [Value.oneCell']) (by simp only [maxLen]; omega) (by omega) (Hb.out.alloc Hb.out.size _).size ?_; intro v' w7 hown7 hg7 _)
      have b7 : Below w.heap.size w w7 := (Hb.out.alloc Hb.out.size _).grown hg7 (Hb.out.alloc Hb.out.size _).size (fun x hx => (HO.out.lt x hx).1)
      go_roundw
      case rel => exact ⟨k + 1, by omega, by go_num, by rw [Hs.out]; exact hown7, b7⟩
      case measure => simp [intOf]; omega
    · obtain rfl : k = l.length := by omega
      rw [List.take_length] at hown
      obtain ⟨A5, c5, rfl⟩ := own_form hown
      go_wp2_with fail
      go_ret
      exact ⟨A5, c5, rfl, hown, hb⟩

/-- The slices among the values lie in blocks from lo on. -/
def LoV (lo : Nat) (vs : List Value) : Prop := ∀ v ∈ vs, ∀ a n c, v = .slice (some a) n c → lo ≤ a.block
theorem LoV.nil (lo : Nat) : LoV lo [] := fun v h => by simp at h
theorem LoV.snoc {lo n c : Nat} {vs : List Value} {A : Option Addr} (h : LoV lo vs) (ha : ∀ a, A = some a → lo ≤ a.block) : LoV lo (vs ++ [.slice A n c]) := by
  intro v hv a m k e
  rcases List.mem_append.1 hv with hv | hv
  · exact h v hv a m k e
  · rw [List.mem_singleton] at hv
    rw [hv] at e
    injection e with e1
    exact ha a e1
/-- Rules in blocks from lo on. -/
def FarR (lo : Nat) (w : World) (A : Option Addr) (l : List Ru) : Prop :=
  ∀ k (hk : k < l.length), ∃ b off A1 c1, A = some ⟨b, off, none⟩ ∧ lo ≤ b ∧ b < w.heap.size ∧ w.cell? ⟨b, off + k * 2, none⟩ = some (.slice A1 l[k].1.length c1) ∧ w.cell? ⟨b, off + k * 2 + 1, none⟩ = some (.int .i64 l[k].2) ∧ IntsAt w.heap.size w A1 l[k].1 ∧ ∀ a, A1 = some a → lo ≤ a.block
theorem FarR.at {lo : Nat} {w : World} {A : Option Addr} {l : List Ru} (h : FarR lo w A l) : RusAt w.heap.size w A l := fun k hk => by
  obtain ⟨b, off, A1, c1, e, _, h1, h2, h3, h4, _⟩ := h k hk
  exact ⟨b, off, A1, c1, e, h1, h2, h3, h4⟩
theorem FarR.of_own {w : World} {base c lo : Nat} {A : Option Addr} {l : List Ru} {ps : List (Value × Value)} {g : Option Nat} (hl : ps.length = l.length) (h : w.ownsRow base 42 2 (.slice A l.length c) l.length (flatV ps)) (h1 : LstN g w (ps.map (·.1)) (l.map (·.1))) (h2 : ps.map (·.2) = l.map fun x => .int .i64 x.2) (hlo : lo ≤ base) (h3 : LoV lo (ps.map (·.1))) : FarR lo w A l := by
  intro k hk
  have hkp : k < ps.length := by omega
  obtain ⟨g, rfl, hg, q0, q1⟩ := own_cell2 h hl hkp
  have hbg := (h.lt g rfl).1
  obtain ⟨A1, c1, e1, i1, _⟩ := h1.2 k (by simpa using hk)
  simp only [List.getElem_map] at e1 i1
  have e1' : ps[k].1 = .slice A1 l[k].1.length c1 := by
    rw [List.getElem?_map, List.getElem?_eq_getElem hkp] at e1
    simpa using e1
  have e2 : ps[k].2 = .int .i64 l[k].2 := by
    have h3 : (ps.map (·.2))[k]? = (l.map fun x => Value.int .i64 x.2)[k]? := by rw [h2]
    rw [List.getElem?_map, List.getElem?_map, List.getElem?_eq_getElem hkp, List.getElem?_eq_getElem hk] at h3
    simpa using h3
  refine ⟨g, 0, A1, c1, rfl, Nat.le_trans hlo hbg, hg, ?_, ?_, i1, fun a ha => ?_⟩
  · rw [Nat.zero_add, q0, e1']
  · rw [Nat.zero_add, q1, e2]
  · subst ha
    exact h3 ps[k].1 (List.mem_map.2 ⟨ps[k], List.getElem_mem hkp, rfl⟩) a _ _ e1'
theorem RusAt.of_own {w : World} {base c : Nat} {A : Option Addr} {l : List Ru} {ps : List (Value × Value)} {g : Option Nat} (hl : ps.length = l.length) (h : w.ownsRow base 42 2 (.slice A l.length c) l.length (flatV ps)) (h1 : LstN g w (ps.map (·.1)) (l.map (·.1))) (h2 : ps.map (·.2) = l.map fun x => .int .i64 x.2) : RusAt w.heap.size w A l := by
  intro k hk
  have hkp : k < ps.length := by omega
  obtain ⟨g, rfl, hg, q0, q1⟩ := own_cell2 h hl hkp
  obtain ⟨A1, c1, e1, i1, _⟩ := h1.2 k (by simpa using hk)
  simp only [List.getElem_map] at e1 i1
  have e1' : ps[k].1 = .slice A1 l[k].1.length c1 := by
    rw [List.getElem?_map, List.getElem?_eq_getElem hkp] at e1
    simpa using e1
  have e2 : ps[k].2 = .int .i64 l[k].2 := by
    have h3 : (ps.map (·.2))[k]? = (l.map fun x => Value.int .i64 x.2)[k]? := by rw [h2]
    rw [List.getElem?_map, List.getElem?_map, List.getElem?_eq_getElem hkp, List.getElem?_eq_getElem hk] at h3
    simpa using h3
  refine ⟨g, 0, A1, c1, rfl, hg, ?_, ?_, i1⟩
  · rw [Nat.zero_add, q0, e1']
  · rw [Nat.zero_add, q1, e2]

set_option maxRecDepth 100000 in
set_option maxHeartbeats 4000000 in
theorem CopyRules_ref (A : Option Addr) (c B : Nat) (l : List Ru) (w : World) (hB : B ≤ w.heap.size) (h : RusAt B w A l) (hs : l.length ≤ 60) (hl : ∀ x ∈ l, x.1.length ≤ 40) :
    Calls Tryd.prog 57 #[.slice A l.length c] w fun e w' => ∃ A' c', e = .returned (.slice A' l.length c') ∧ FarR w.heap.size w' A' l ∧ Below w.heap.size w w' := by
  obtain ⟨j0, hj, hy0, hy1, hy2⟩ := info_parts info42
  have H := Lib.hid (h.below (Below.refl _ _) hB)
  have Hl := Lib.hid hl
  clear h hB hl
  go_enter Tryd.func57, Tryd.ntmps57
  go_wp2_with fail
  go_loopw [3, 4] (fun out i wr => ∃ (k : Nat) (ps : List (Value × Value)), k ≤ l.length ∧ i = .int .i64 k ∧ ps.length = k ∧ wr.ownsRow w.heap.size 42 2 out k (flatV ps) ∧ LstN out.ownBlock wr (ps.map (·.1)) ((l.take k).map (·.1)) ∧ Aside (ps.map (·.2) = (l.take k).map fun x => .int .i64 x.2) ∧ Aside (LoV w.heap.size (ps.map (·.1))) ∧ Below w.heap.size w wr) (fun _ i _ => l.length - (intOf i).toNat)
  case atStart => exact ⟨0, [], Nat.zero_le _, rfl, rfl, World.ownsRow_nil _ _ _ _, LstN.nil _ _, rfl, LoV.nil _, Below.refl _ _⟩
  case round =>
    obtain ⟨k, ps, hk, rfl, hpl, hown, hL, hT, hV, hb⟩ := hrel
    by_cases hlt : k < l.length
    · obtain ⟨bb, off, A1, c1, rfl, hbB, e0, e1, i1⟩ := H.out k hlt
      have HO := Lib.hid hown
      have HL := Lib.hid hL
      have HT := Lib.hid hT.out
      have HV := Lib.hid hV.out
      have Hb := Lib.hid hb
      have h40 := Hl.out l[k] (List.getElem_mem hlt)
      have cc := Lib.hid (fun W (hW : Below wr.heap.size wr W) => CopyInts_ref A1 c1 w.heap.size l[k].1 W (Nat.le_trans hb.size hW.size) (i1.below (hb.trans (hW.mono hb.size)) (Nat.le_refl _)) (by omega))
      have Hs1 := Lib.hid (show (l.take (k + 1)).map (·.1) = (l.take k).map (·.1) ++ [l[k].1] by rw [List.take_succ_eq_append_getElem hlt, List.map_append]; rfl)
      have Hs2 := Lib.hid (show ((l.take (k + 1)).map fun x => Value.int .i64 x.2) = ((l.take k).map fun x => Value.int .i64 x.2) ++ [.int .i64 l[k].2] by rw [List.take_succ_eq_append_getElem hlt, List.map_append]; rfl)
      have d0 := (hb.cell (p := ⟨bb, off + k * 2, none⟩) hbB).trans e0
      have d1 := (hb.cell (p := ⟨bb, off + k * 2 + 1, none⟩) hbB).trans e1
      have Keep := Lib.hid (fun W (hW : Below w.heap.size w W) => show W.cell? ⟨bb, off + k * 2, none⟩ = some (.slice A1 l[k].1.length c1) ∧ W.cell? ⟨bb, off + k * 2 + 1, none⟩ = some (.int .i64 l[k].2) ∧ Below w.heap.size w W from
        ⟨(hW.cell (p := ⟨bb, off + k * 2, none⟩) hbB).trans e0, (hW.cell (p := ⟨bb, off + k * 2 + 1, none⟩) hbB).trans e1, hW⟩)
      have Hlen := Lib.hid (show ps.length = k from hpl)
      have hk60 : k ≤ 60 := by omega
      clear e0 e1 i1 hown hL hT hV hb hpl d0 d1
      generalize l[k].1 = o at cc Hs1 Keep h40
      generalize l[k].2 = t at Hs2 Keep
      have k0 : (0 : Int) ≤ (k : Int) := by omega
      have k1 : (k : Int) < (l.length : Int) := by omega
      have tok := Lib.hid (Nat.le_refl 0)
      obtain ⟨n, hn⟩ : ∃ n, n = o.length := ⟨_, rfl⟩
      rw [← hn] at cc Keep
      have Hn := Lib.hid hn
      clear hn
      obtain ⟨out, hout⟩ : ∃ o, o = u3 := ⟨_, rfl⟩
      subst hout
      go_wp2_with fail
      go_region_held3 (fun W => W.cell? ⟨bb, off + k * 2, none⟩ = some (.slice A1 n c1) ∧ W.cell? ⟨bb, off + k * 2 + 1, none⟩ = some (.int .i64 t) ∧ Below w.heap.size w W)
        ((refine Keep.out _ ?_; first | (refine Hb.out.trans (Below.mono ?_ Hb.out.size); (repeat (first | exact Below.refl _ _ | assumption | refine Below.drew ?_ | refine balloc ?_ _)); done) | (repeat (first | assumption | refine Below.drew ?_ | refine balloc ?_ _))))
        (first
          | (go_at_call 58; have tk := tok; clear tok; refine (cc.out _ (by repeat (first | exact Below.refl _ _ | assumption | refine Below.drew ?_ | refine balloc ?_ _))).mono ?_; rintro e w5 ⟨A5, c5, rfl, hown5, hd5⟩; have tok2 := tk; have hb5 : Below wr.heap.size wr w5 := Below.trans (by repeat (first | exact Below.refl _ _ | assumption | refine Below.drew ?_ | refine balloc ?_ _)) (hd5.mono (Below.size (w := wr) (B := wr.heap.size) (by repeat (first | exact Below.refl _ _ | assumption | refine Below.drew ?_ | refine balloc ?_ _)))); have ho5 := own_base hown5 (Below.size (w := wr) (B := wr.heap.size) (by repeat (first | exact Below.refl _ _ | assumption | refine Below.drew ?_ | refine balloc ?_ _))); have hlo5 := (own_caps ho5).2.2; clear hown5)
          | (have tk := tok2; clear tok2; refine step_app2 _ (by rfl) (.tmp 11) (.tmp 24) 23 (by rfl) w.heap.size 42 j0 _ 2 32 Tryd.underlying23 hj hy0 hy1 hy2 (by rfl) (by decide) out k (flatV ps) (by rfl)
              (own_below HO.out (by repeat (first | exact Below.refl _ _ | assumption | refine Below.drew ?_ | refine balloc ?_ _)))
              ⟨_, 0, none⟩ 1 1 [.slice A5 n c5, .int .i64 t] (by rfl) (by rfl)
              (news_blk (t := 42) (cs := #[.slice A5 n c5, .int .i64 t]) (by repeat (first | with_reducible exact blk_new' (by simp) | with_reducible refine Blk.drew ?_ | with_reducible refine Blk.alloc ?_ _)) _ rfl)
              (by simp [Value.oneCell']) (by omega) (by decide) (Nat.le_trans Hb.out.size (Below.size (w := wr) (B := wr.heap.size) (by repeat (first | exact Below.refl _ _ | assumption | refine Below.drew ?_ | refine balloc ?_ _)))) (k + 1) (by omega) (flatV (ps ++ [(.slice A5 n c5, .int .i64 t)])) (flatV_snoc _ _ _).symm ?_; intro A7 c7 w7 hown7 hg7 hlow7 hat7; have hb7 : Below w.heap.size w w7 := bgrown (Hb.out.trans (Below.mono (by repeat (first | exact Below.refl _ _ | assumption | refine Below.drew ?_ | refine balloc ?_ _)) Hb.out.size)) hg7 hlow7; have hL7 := lst_step (e := 3) (A := A5) (c := c5) (n := n) (o := o) hg7 hat7 (by repeat (first | exact Below.refl _ _ | assumption | refine Below.drew ?_ | refine balloc ?_ _)) (by repeat (first | assumption | refine World.ownsRow.drew ?_ | refine World.ownsRow.alloc ?_ _)) HL.out (fun k hk => (HO.out.lt k hk).2) Hn.out.symm))
      all_goals
        have HO7 := Lib.hid hown7
        have HL7 := Lib.hid (hL7)
        have HB7 := Lib.hid hb7
        have HV7 := Lib.hid (show LoV w.heap.size ((ps ++ [(Value.slice A5 n c5, Value.int .i64 t)]).map (·.1)) by rw [List.map_append]; exact HV.out.snoc fun a ha => Nat.le_trans Hb.out.size (hlo5 a ha).1)
        clear hown7 hL7 hb7 hlo5
        go_wp2_with fail
        go_roundw
        case rel =>
          refine ⟨k + 1, ps ++ [(.slice A5 n c5, .int .i64 t)], by omega, by go_num, by rw [List.length_append, Hlen.out]; rfl, HO7.out, ?_, ?_, ?_, HB7.out⟩
          · rw [Hs1.out, List.map_append]; exact HL7.out
          · rw [Hs2.out, List.map_append, HT.out]; rfl
          · exact HV7.out
        case measure => simp [intOf]; omega
    · obtain rfl : k = l.length := by omega
      rw [List.take_length] at hL
      have HT := Lib.hid hT.out
      rw [List.take_length] at HT
      obtain ⟨A5, c5, rfl⟩ := own_form hown
      have HR := Lib.hid (FarR.of_own hpl hown hL HT.out (Nat.le_refl _) hV.out)
      clear hown hL hT hV
      go_wp2_with fail
      go_ret
      exact ⟨A5, c5, rfl, HR.out, hb⟩
end Go.Proofs.YtgoojcjfhghmgaaDoor

/- A region that draws its order: what holds till the last operations come up. -/
namespace Go.Proofs.YtgoojcjfhghmgaaDoor
open Go Go.RowKit
section
variable {P : Program} {md : Region.Mode} {ops : Array Oper} {Q : Exit → Act → World → Prop} {S : World → Prop} {E : Nat → Bool}

/-- Whichever order: S holds behind each operation that is not exempt. -/
def anyE (P : Program) (md : Region.Mode) (ops : Array Oper) (Q : Exit → Act → World → Prop) (S : World → Prop) (E : Nat → Bool) : Nat → Array Bool → Act → World → Prop
  | 0, listed, a, w => Region.ready md ops listed = [] ∧ Q .normal a w
  | n + 1, listed, a, w => (Region.ready md ops listed = [] → Q .normal a w) ∧
      ∀ i ∈ Region.ready md ops listed, wpOp P ops Q i (fun a' w' => (E i = false → S w') ∧ anyE P md ops Q S E n (listed.setIfInBounds i true) a' w') a w
theorem any_of_E : ∀ (n : Nat) (listed : Array Bool) (a : Act) (w : World), anyE P md ops Q S E n listed a w → wpAny P md ops Q n listed a w
  | 0, _, _, _, h => h
  | n + 1, _, _, _, h => ⟨h.1, fun i hi => wpOp_mono (fun a' w' h' => any_of_E n _ a' w' h'.2) (h.2 i hi)⟩
/-- An operation that yields the same wherever S holds may be taken first, if the exempt ones wait for it. -/
theorem anyE_first {i : Nat} {oi : Oper} {v : Value} (hi : ops[i]? = some oi) (hsel : ∀ (j : Nat) (o : Oper) cs b, ops[j]? = some o → o.op ≠ .select cs b)
    (hQ : ∀ c a w, Q (.panic c) (a.put oi.dst v) w → Q (.panic c) a w)
    {N : List Nat} (hE : ∀ j, E j = true → j ∈ N) (hN : ∀ j ∈ N, ∀ oj, ops[j]? = some oj → ∃ e ∈ oj.after, Region.binds md e = true ∧ (e.on = i ∨ e.on ∈ N)) :
    ∀ (n : Nat) (listed : Array Bool) (a : Act) (w : World),
      (∀ j oj, ops[j]? = some oj → j ≠ i → listed.getD j true = false → (∀ e ∈ oj.after, Region.binds md e = true → e.on ≠ i) → oi.apart ops oj = true) →
      i ∈ Region.ready md ops listed → (∀ k ∈ N, listed.getD k true = false) → YieldsIf P ops S oi v a → S w →
      anyE P md ops Q S E n (listed.setIfInBounds i true) (a.put oi.dst v) w → anyE P md ops Q S E (n + 1) listed a w
  | 0, listed, a, w, _, hr, _, hy, hS, H => by
    refine ⟨fun h => (by rw [h] at hr; cases hr), fun j hj => ?_⟩
    by_cases hji : j = i
    · subst hji; exact hy.wpOp hi hS ⟨fun _ => hS, H⟩
    · have := ready_mono hj hji
      rw [H.1] at this
      cases this
  | n + 1, listed, a, w, hfree, hr, hL, hy, hS, H => by
    refine ⟨fun h => (by rw [h] at hr; cases hr), fun j hj => ?_⟩
    by_cases hji : j = i
    · subst hji; exact hy.wpOp hi hS ⟨fun _ => hS, H⟩
    · have h1 := H.2 j (ready_mono hj hji)
      obtain ⟨hjun, oj, hoj, hall⟩ := mem_ready.1 hj
      have hnot : ∀ e ∈ oj.after, Region.binds md e = true → e.on ≠ i := fun e he hb heq => by
        have h1 := hall e he hb
        have h0 := (mem_ready.1 hr).1
        rw [heq] at h1
        rcases Nat.lt_or_ge i listed.size with h' | h'
        · simp [h'] at h0 h1; rw [h0] at h1; cases h1
        · simp [Array.getElem?_eq_none h'] at h1
      have hjN : j ∉ N := fun hjn => by
        obtain ⟨e, he, hb, hon | hon⟩ := hN j hjn oj hoj
        · exact hnot e he hb hon
        · have h1 := hall e he hb
          have h0 := hL _ hon
          rcases Nat.lt_or_ge e.on listed.size with h' | h'
          · simp [h'] at h0 h1; rw [h0] at h1; cases h1
          · simp [Array.getElem?_eq_none h'] at h1
      have hEj : E j = false := by
        cases hb : E j with
        | false => rfl
        | true => exact absurd (hE j hb) hjN
      have hL' : ∀ k ∈ N, (listed.setIfInBounds j true).getD k true = false := fun k hk => by
        have hne : j ≠ k := fun e => hjN (by rw [e]; exact hk)
        rw [getD_set_ne true hne]; exact hL k hk
      have h2 := wpOp_putIf hoj (hfree j oj hoj hji hjun hnot) (fun cs b => hsel i oi cs b hi) (fun cs b => hsel j oj cs b hoj) hQ hy h1
      have hfree' : ∀ k ok, ops[k]? = some ok → k ≠ i → (listed.setIfInBounds j true).getD k true = false →
          (∀ e ∈ ok.after, Region.binds md e = true → e.on ≠ i) → oi.apart ops ok = true := fun k ok hk hki hun hno => by
        refine hfree k ok hk hki ?_ hno
        by_cases hjk : j = k
        · subst hjk; exact hjun
        · rw [getD_set_ne true hjk] at hun; exact hun
      refine wpOp_mono (fun a' w' h3 => ⟨h3.2.1, anyE_first hi hsel hQ hE hN n (listed.setIfInBounds j true) a' w' hfree' (ready_mono hr (Ne.symm hji)) hL' h3.1 (h3.2.1 hEj) ?_⟩) h2
      rw [Array.setIfInBounds_comm _ _ hji]
      exact h3.2.2
/-- The operations of N wait for number i or for one another, none is listed, and the exempt ones are among them. -/
def waitsE (md : Region.Mode) (ops : Array Oper) (listed : Array Bool) (xs N : List Nat) (i : Nat) : Bool :=
  (xs.all fun j => N.contains j) && (N.all fun j => !listed.getD j true && match ops[j]? with
    | some o => o.after.any fun e => Region.binds md e && (e.on == i || N.contains e.on)
    | none => true)
theorem anyE_take {i : Nat} {oi : Oper} {v : Value} {n : Nat} {listed : Array Bool} {a : Act} {w : World} {xs : List Nat} (N : List Nat) (hi : ops[i]? = some oi)
    (hs : Region.noSelect ops = true) (hf : Region.free md ops listed i = true) (hr : (Region.ready md ops listed).contains i = true) (hx : waitsE md ops listed xs N i = true)
    (hQ : ∀ c a w, Q (.panic c) (a.put oi.dst v) w → Q (.panic c) a w) (hy : YieldsIf P ops S oi v a) (hS : S w)
    (h : anyE P md ops Q S (fun j => xs.contains j) n (listed.setIfInBounds i true) (a.put oi.dst v) w) : anyE P md ops Q S (fun j => xs.contains j) (n + 1) listed a w := by
  unfold waitsE at hx
  rw [Bool.and_eq_true, List.all_eq_true, List.all_eq_true] at hx
  refine anyE_first hi (Region.noSelect_spec hs) hQ (N := N) (fun j hj => List.contains_iff_mem.1 (hx.1 j (List.contains_iff_mem.1 hj))) (fun j hj oj hoj => ?_) n listed a w (Region.free_spec hi hf) (by simpa using hr) (fun k hk => ?_) hy hS h
  · have := hx.2 j hj
    rw [hoj, Bool.and_eq_true] at this
    obtain ⟨e, he, hb⟩ := Array.any_eq_true'.1 this.2
    rw [Bool.and_eq_true, Bool.or_eq_true, beq_iff_eq, List.contains_iff_mem] at hb
    exact ⟨e, he, hb.1, hb.2⟩
  · have := hx.2 k hk
    rw [Bool.and_eq_true, Bool.not_eq_true'] at this
    exact this.1
theorem anyE_all {rs : List Nat} {n : Nat} {listed : Array Bool} {a : Act} {w : World} (hr : Region.ready md ops listed = rs) (hne : rs ≠ [])
    (h : ∀ i ∈ rs, wpOp P ops Q i (fun a' w' => (E i = false → S w') ∧ anyE P md ops Q S E n (listed.setIfInBounds i true) a' w') a w) : anyE P md ops Q S E (n + 1) listed a w :=
  ⟨fun h0 => absurd (hr ▸ h0) hne, hr ▸ h⟩
theorem anyE_done {listed : Array Bool} {a : Act} {w : World} (hr : Region.ready md ops listed = []) (h : Q .normal a w) : ∀ n, anyE P md ops Q S E n listed a w
  | 0 => ⟨hr, h⟩
  | _ + 1 => ⟨fun _ => h, by rw [hr]; simp⟩
/-- One operation is ready. -/
theorem anyE_one {i : Nat} {o : Oper} {n : Nat} {listed : Array Bool} {a : Act} {w : World} (hr : Region.ready md ops listed = [i]) (ho : ops[i]? = some o)
    (h : ∀ K' : Act → World → Prop, Go.Shut (∀ a w, (E i = false → S w) → anyE P md ops Q S E n (listed.setIfInBounds i true) a w → K' a w) → if Region.wanted o (yielded ops a.tmps) = true then Oper.wp P o a w K' Q else K' (a.put o.dst undef) w) :
    anyE P md ops Q S E (n + 1) listed a w :=
  anyE_all hr (by simp) fun j hj => by
    rw [List.mem_singleton] at hj
    subst hj
    exact wpOp_step ho fun K' hK => h K' fun a w hS hW => hK a w ⟨hS, hW⟩
theorem wp_region_E {id : Nat} {a : Act} {w : World} (hm : P.follows .mixedOrders = true) (h : anyE P .any ops Q S E ops.size (Array.replicate ops.size false) a w.drew) : (Code.region id ops true).wp P Q a w :=
  wp_region_any hm (any_of_E _ _ _ _ h)
end
end Go.Proofs.YtgoojcjfhghmgaaDoor

/- A region that draws its order: what holds from here on may be more; moves. -/
namespace Go.Proofs.YtgoojcjfhghmgaaDoor
open Go Go.RowKit
section
variable {P : Program} {md : Region.Mode} {ops : Array Oper} {Q : Exit → Act → World → Prop} {S S' : World → Prop} {E : Nat → Bool}
theorem anyE_mono (h : ∀ w, S' w → S w) : ∀ (n : Nat) (listed : Array Bool) (a : Act) (w : World), anyE P md ops Q S' E n listed a w → anyE P md ops Q S E n listed a w
  | 0, _, _, _, H => H
  | n + 1, _, _, _, H => ⟨H.1, fun i hi => wpOp_mono (fun a' w' h' => ⟨fun e => h w' (h'.1 e), anyE_mono h n _ a' w' h'.2⟩) (H.2 i hi)⟩
/-- More holds from here on. -/
theorem anyE_more (T : World → Prop) {n : Nat} {listed : Array Bool} {a : Act} {w : World} (H : anyE P md ops Q (fun w => S w ∧ T w) E n listed a w) : anyE P md ops Q S E n listed a w :=
  anyE_mono (fun _ h => h.1) n listed a w H
/-- Number i is taken first; none is exempt; its place is written out. -/
theorem anyE_tk (i d : Nat) {oi : Oper} {v : Value} {n : Nat} {listed : Array Bool} {a : Act} {w : World} (hi : ops[i]? = some oi) (hd : oi.dst = some d)
    (hs : Region.noSelect ops = true) (hf : Region.free md ops listed i = true) (hr : (Region.ready md ops listed).contains i = true)
    (hQ : ∀ c a w, Q (.panic c) (a.put oi.dst v) w → Q (.panic c) a w) (hy : YieldsIf P ops S oi v a) (hS : S w)
    (h : anyE P md ops Q S (fun _ => false) n (listed.setIfInBounds i true) { a with tmps := a.tmps.setIfInBounds d v } w) : anyE P md ops Q S (fun _ => false) (n + 1) listed a w := by
  refine anyE_first hi (Region.noSelect_spec hs) hQ (N := []) (fun j hj => by cases hj) (fun j hj => by cases hj) n listed a w (Region.free_spec hi hf) (by simpa using hr) (fun k hk => by cases hk) hy hS ?_
  rw [hd]; exact h
end
end Go.Proofs.YtgoojcjfhghmgaaDoor

/- asked of both texts; steps of proofs. -/
namespace Go.Proofs.YtgoojcjfhghmgaaDoor
open Go.RowKit

def akR (b : Bk) (item prop : Int) : Int := if nmR b item = 0 then (if prop < 0 ∨ b.p ≤ prop then 5 else 0) else nmR b item
theorem ak_zero {b : Bk} {item prop : Int} (h : akR b item prop = 0) : nmR b item = 0 ∧ 0 ≤ prop ∧ prop < b.p := by
  unfold akR at h
  split at h
  · rename_i h0
    split at h
    · omega
    · rename_i h1
      exact ⟨h0, by omega, by omega⟩
  · rename_i h0
    exact absurd h h0
/-- A step: property, item, rule. -/
abbrev St := Int × Int × Int
def StAt (B : Nat) (w : World) (A : Option Addr) (l : List St) : Prop :=
  ∀ k (hk : k < l.length), ∃ b off, A = some ⟨b, off, none⟩ ∧ b < B ∧ w.cell? ⟨b, off + k * 3, none⟩ = some (.int .i64 l[k].1) ∧ w.cell? ⟨b, off + k * 3 + 1, none⟩ = some (.int .i64 l[k].2.1) ∧ w.cell? ⟨b, off + k * 3 + 2, none⟩ = some (.int .i64 l[k].2.2)
theorem StAt.below {B B' : Nat} {w w' : World} {A : Option Addr} {l : List St} (h : StAt B w A l) (hb : Below B w w') (hB : B ≤ B') : StAt B' w' A l := by
  intro k hk
  obtain ⟨b, off, e, h1, h2, h3, h4⟩ := h k hk
  exact ⟨b, off, e, by omega, (hb.cell (p := ⟨b, off + k * 3, none⟩) h1).trans h2, (hb.cell (p := ⟨b, off + k * 3 + 1, none⟩) h1).trans h3, (hb.cell (p := ⟨b, off + k * 3 + 2, none⟩) h1).trans h4⟩
/-- Whether a step is right, with the properties K. -/
def rgR (b : Bk) (item : Nat) (s : St) (K : Nat) : Bool :=
  if s.1 < 0 ∨ b.p ≤ s.1 then false
  else if s.2.2 = -1 then decide (0 ≤ s.2.1) && decide (s.2.1 < b.its.length) && (cnS b item).testBit s.2.1.toNat && ((b.its[s.2.1.toNat]?.getD ([], [])).2).contains s.1
  else decide (s.2.1 = -1) && decide (0 ≤ s.2.2) && decide (s.2.2 < b.rus.length) && decide ((b.rus[s.2.2.toNat]?.getD ([], 0)).2 = s.1) && allB K (natL (b.rus[s.2.2.toNat]?.getD ([], 0)).1)

set_option maxRecDepth 100000 in
set_option maxHeartbeats 2000000 in
theorem asked_any (AI AR : Option Addr) (cI cR B : Nat) (b : Bk) (item prop : Int) (w : World) (hB : B ≤ w.heap.size) (h : ItsAt B w AI b.its) (h' : RusAt B w AR b.rus) (hs : Short b) :
    Calls Tryd.prog 85 #[.agg #[.int .i64 b.p, .slice AI b.its.length cI, .slice AR b.rus.length cR], .int .i64 item, .int .i64 prop] w fun e w' => e = .returned (.int .i64 (akR b item prop)) ∧ Below w.heap.size w w' := by
  have hb0 := Blk.new w 25 #[.int .i64 b.p, .slice AI b.its.length cI, .slice AR b.rus.length cR]
  have hw0 : Below w.heap.size w (w.alloc (.cells #[.int .i64 b.p, .slice AI b.its.length cI, .slice AR b.rus.length cR] 25)) := (Below.refl _ _).alloc (Nat.le_refl _) _
  have hlt : w.heap.size < (w.alloc (.cells #[.int .i64 b.p, .slice AI b.its.length cI, .slice AR b.rus.length cR] 25)).heap.size := hb0.lt
  have hI := (h.below (Below.refl _ _) hB).below hw0 (Nat.le_of_lt hlt)
  have hR := (h'.below (Below.refl _ _) hB).below hw0 (Nat.le_of_lt hlt)
  have cv := Lib.hid (named_any AI AR cI cR _ b item _ (Nat.le_refl _) hI hR hs)
  have Hn := Lib.hid (show akR b item prop = if nmR b item = 0 then (if prop < 0 ∨ b.p ≤ prop then 5 else 0) else nmR b item from rfl)
  have HB := Lib.hid hb0
  have Hw := Lib.hid hw0
  generalize nmR b item = e0 at cv Hn
  clear h h' hs hI hR hb0 hw0
  by_cases he : e0 = 0
  · subst he
    have Hn2 := Lib.hid (show akR b item prop = if prop < 0 ∨ b.p ≤ prop then 5 else 0 by rw [Hn.out, if_pos rfl])
    by_cases h1 : prop < 0
    · have Hr := Lib.hid (show akR b item prop = 5 by rw [Hn2.out, if_pos (.inl h1)])
      go_enter Tryd.func85, Tryd.ntmps85
      go_wp2_with (go_at_call 67; refine cv.out.mono ?_; rintro e w1 ⟨rfl, hd⟩; have hx1 := HB.out.below hd hlt; have z1 := hx1.cell 0)
      go_ret
      exact ⟨by rw [Hr.out]; rfl, Hw.out.trans (hd.mono Hw.out.size)⟩
    · have h1d : decide (prop < 0) = false := by simpa using h1
      by_cases h2 : b.p ≤ prop
      · have Hr := Lib.hid (show akR b item prop = 5 by rw [Hn2.out, if_pos (.inr h2)])
        have h2d : decide (b.p ≤ prop) = true := by simpa using h2
        go_enter Tryd.func85, Tryd.ntmps85
        go_wp2_with (go_at_call 67; refine cv.out.mono ?_; rintro e w1 ⟨rfl, hd⟩; have hx1 := HB.out.below hd hlt; have z1 := hx1.cell 0)
        go_ret
        exact ⟨by rw [Hr.out]; rfl, Hw.out.trans (hd.mono Hw.out.size)⟩
      · have Hr := Lib.hid (show akR b item prop = 0 by rw [Hn2.out, if_neg (by omega)])
        have h2d : decide (b.p ≤ prop) = false := by simpa using h2
        go_enter Tryd.func85, Tryd.ntmps85
        go_wp2_with (go_at_call 67; refine cv.out.mono ?_; rintro e w1 ⟨rfl, hd⟩; have hx1 := HB.out.below hd hlt; have z1 := hx1.cell 0)
        go_ret
        exact ⟨by rw [Hr.out]; rfl, Hw.out.trans (hd.mono Hw.out.size)⟩
  · have Hr := Lib.hid (show akR b item prop = e0 by rw [Hn.out, if_neg he])
    have he1 : (e0 == 0) = false := by simpa using he
    have he2 : (e0 != 0) = true := by simpa using he
    go_enter Tryd.func85, Tryd.ntmps85
    go_wp2_with (go_at_call 67; refine cv.out.mono ?_; rintro e w1 ⟨rfl, hd⟩; have hx1 := HB.out.below hd hlt; have z1 := hx1.cell 0)
    go_ret
    exact ⟨by rw [Hr.out]; rfl, Hw.out.trans (hd.mono Hw.out.size)⟩


set_option maxRecDepth 100000 in
set_option maxHeartbeats 2000000 in
theorem asked_ref (AI AR : Option Addr) (cI cR B : Nat) (b : Bk) (item prop : Int) (w : World) (hB : B ≤ w.heap.size) (h : ItsAt B w AI b.its) (h' : RusAt B w AR b.rus) (hs : Short b) :
    Calls Tryd.prog 87 #[.agg #[.int .i64 b.p, .slice AI b.its.length cI, .slice AR b.rus.length cR], .int .i64 item, .int .i64 prop] w fun e w' => e = .returned (.int .i64 (akR b item prop)) ∧ Below w.heap.size w w' := by
  have hb0 := Blk.new w 25 #[.int .i64 b.p, .slice AI b.its.length cI, .slice AR b.rus.length cR]
  have hw0 : Below w.heap.size w (w.alloc (.cells #[.int .i64 b.p, .slice AI b.its.length cI, .slice AR b.rus.length cR] 25)) := (Below.refl _ _).alloc (Nat.le_refl _) _
  have hlt : w.heap.size < (w.alloc (.cells #[.int .i64 b.p, .slice AI b.its.length cI, .slice AR b.rus.length cR] 25)).heap.size := hb0.lt
  have hI := (h.below (Below.refl _ _) hB).below hw0 (Nat.le_of_lt hlt)
  have hR := (h'.below (Below.refl _ _) hB).below hw0 (Nat.le_of_lt hlt)
  have cv := Lib.hid (named_ref AI AR cI cR _ b item _ (Nat.le_refl _) hI hR hs)
  have Hn := Lib.hid (show akR b item prop = if nmR b item = 0 then (if prop < 0 ∨ b.p ≤ prop then 5 else 0) else nmR b item from rfl)
  have HB := Lib.hid hb0
  have Hw := Lib.hid hw0
  generalize nmR b item = e0 at cv Hn
  clear h h' hs hI hR hb0 hw0
  by_cases he : e0 = 0
  · subst he
    have Hn2 := Lib.hid (show akR b item prop = if prop < 0 ∨ b.p ≤ prop then 5 else 0 by rw [Hn.out, if_pos rfl])
    by_cases h1 : prop < 0
    · have Hr := Lib.hid (show akR b item prop = 5 by rw [Hn2.out, if_pos (.inl h1)])
      go_enter Tryd.func87, Tryd.ntmps87
      go_wp2_with (go_at_call 69; refine cv.out.mono ?_; rintro e w1 ⟨rfl, hd⟩; have hx1 := HB.out.below hd hlt; have z1 := hx1.cell 0)
      go_ret
      exact ⟨by rw [Hr.out]; rfl, Hw.out.trans (hd.mono Hw.out.size)⟩
    · have h1d : decide (prop < 0) = false := by simpa using h1
      by_cases h2 : b.p ≤ prop
      · have Hr := Lib.hid (show akR b item prop = 5 by rw [Hn2.out, if_pos (.inr h2)])
        have h2d : decide (b.p ≤ prop) = true := by simpa using h2
        go_enter Tryd.func87, Tryd.ntmps87
        go_wp2_with (go_at_call 69; refine cv.out.mono ?_; rintro e w1 ⟨rfl, hd⟩; have hx1 := HB.out.below hd hlt; have z1 := hx1.cell 0)
        go_ret
        exact ⟨by rw [Hr.out]; rfl, Hw.out.trans (hd.mono Hw.out.size)⟩
      · have Hr := Lib.hid (show akR b item prop = 0 by rw [Hn2.out, if_neg (by omega)])
        have h2d : decide (b.p ≤ prop) = false := by simpa using h2
        go_enter Tryd.func87, Tryd.ntmps87
        go_wp2_with (go_at_call 69; refine cv.out.mono ?_; rintro e w1 ⟨rfl, hd⟩; have hx1 := HB.out.below hd hlt; have z1 := hx1.cell 0)
        go_ret
        exact ⟨by rw [Hr.out]; rfl, Hw.out.trans (hd.mono Hw.out.size)⟩
  · have Hr := Lib.hid (show akR b item prop = e0 by rw [Hn.out, if_neg he])
    have he1 : (e0 == 0) = false := by simpa using he
    have he2 : (e0 != 0) = true := by simpa using he
    go_enter Tryd.func87, Tryd.ntmps87
    go_wp2_with (go_at_call 69; refine cv.out.mono ?_; rintro e w1 ⟨rfl, hd⟩; have hx1 := HB.out.below hd hlt; have z1 := hx1.cell 0)
    go_ret
    exact ⟨by rw [Hr.out]; rfl, Hw.out.trans (hd.mono Hw.out.size)⟩

end Go.Proofs.YtgoojcjfhghmgaaDoor

/- Proofs: what they prove is in the label; a proof that grows till nothing more follows. -/
namespace Go.Proofs.YtgoojcjfhghmgaaDoor
open Go.RowKit

/-- The properties of steps. -/
def kS (l : List St) : Nat := l.foldl (fun m s => m ||| 2 ^ s.1.toNat) 0
theorem kS_snoc (l : List St) (s : St) : kS (l ++ [s]) = kS l ||| 2 ^ s.1.toNat := by simp [kS]
theorem kS_take {l : List St} {i : Nat} (hi : i < l.length) : kS (l.take (i + 1)) = kS (l.take i) ||| 2 ^ l[i].1.toNat := by
  rw [List.take_succ_eq_append_getElem hi, kS_snoc]
/-- The number of bits below n. -/
def cntB (x : Nat) : Nat → Nat
  | 0 => 0
  | n + 1 => cntB x n + if x.testBit n then 1 else 0
theorem cntB_le (x : Nat) : ∀ n, cntB x n ≤ n
  | 0 => Nat.le_refl _
  | n + 1 => by unfold cntB; have := cntB_le x n; split <;> omega
theorem cntB_far {x t : Nat} : ∀ n, n ≤ t → cntB (x ||| 2 ^ t) n = cntB x n
  | 0, _ => rfl
  | n + 1, h => by
    unfold cntB
    rw [cntB_far n (by omega), Nat.testBit_or, Nat.testBit_two_pow]
    have : decide (t = n) = false := by simp; omega
    rw [this, Bool.or_false]
theorem cntB_or {x t : Nat} (hx : x.testBit t = false) : ∀ n, t < n → cntB (x ||| 2 ^ t) n = cntB x n + 1
  | n + 1, h => by
    unfold cntB
    by_cases e : t = n
    · subst e
      rw [cntB_far t (Nat.le_refl _), Nat.testBit_or, Nat.testBit_two_pow, hx]
      simp
    · rw [cntB_or hx n (by omega), Nat.testBit_or, Nat.testBit_two_pow]
      have : decide (t = n) = false := by simp; omega
      rw [this, Bool.or_false]; omega
theorem cntB_full {x : Nat} : ∀ n, n ≤ cntB x n → ∀ q, q < n → x.testBit q = true
  | n + 1, h, q, hq => by
    unfold cntB at h
    have h1 := cntB_le x n
    split at h
    · rename_i hb
      by_cases e : q = n
      · subst e; exact hb
      · exact cntB_full n (by omega) q (by omega)
    · omega
/-- Each step is right. -/
def Prf (b : Bk) (item : Nat) (l : List St) : Prop := ∀ i (hi : i < l.length), rgR b item l[i] (kS (l.take i)) = true
theorem Prf.nil (b : Bk) (item : Nat) : Prf b item [] := fun i hi => by simp at hi
theorem Prf.snoc {b : Bk} {item : Nat} {l : List St} {s : St} (h : Prf b item l) (hs : rgR b item s (kS l) = true) : Prf b item (l ++ [s]) := fun i hi => by
  rw [List.length_append, List.length_singleton] at hi
  by_cases e : i < l.length
  · rw [List.getElem_append_left e, List.take_append_of_le_length (by omega)]
    exact h i e
  · obtain rfl : i = l.length := by omega
    rw [List.getElem_append_right (Nat.le_refl _), List.take_append_of_le_length (Nat.le_refl _), List.take_length]
    simpa using hs
theorem rg_prop {b : Bk} {item K : Nat} {s : St} (h : rgR b item s K = true) : 0 ≤ s.1 ∧ s.1 < b.p := by
  unfold rgR at h
  split at h
  · exact absurd h (by decide)
  · omega
/-- What a right step proves is in the label, if what was known is. -/
theorem rg_label {b : Bk} (hv : VBk b) {item K x : Nat} (hi : item < b.its.length) {s : St} (hx : Lbl b item x) (hK : Sub K x) (h : rgR b item s K = true) : x.testBit s.1.toNat = true := by
  have hp := rg_prop h
  unfold rgR at h
  rw [if_neg (by omega)] at h
  split at h
  · simp only [Bool.and_eq_true, decide_eq_true_eq] at h
    obtain ⟨⟨⟨h0, h1⟩, h2⟩, h3⟩ := h
    refine hx.1.1.1 _ ?_
    unfold bsS
    rw [bsF_bit, Nat.zero_testBit, Bool.false_or, List.any_eq_true]
    have hlt : cnS b item < 18446744073709551616 := Nat.lt_of_lt_of_le (cnS_lt hv hi) (Nat.le_trans (Nat.pow_le_pow_right (by decide) (show item + 1 ≤ 60 by have := hv.ni; omega)) (by decide))
    refine ⟨s.2.1.toNat, (mem_bl _ hlt _).2 h2, ?_⟩
    rw [mk_bit, List.contains_iff_mem]
    exact List.mem_map_of_mem (List.contains_iff_mem.1 h3)
  · simp only [Bool.and_eq_true, decide_eq_true_eq] at h
    obtain ⟨⟨⟨⟨_, h0⟩, h1⟩, h2⟩, h3⟩ := h
    have hlt : s.2.2.toNat < b.rus.length := by omega
    rw [List.getElem?_eq_getElem hlt, Option.getD_some] at h2 h3
    have := hx.1.2 b.rus[s.2.2.toNat] (List.getElem_mem hlt) (allB_sub hK h3) rfl
    rw [h2] at this
    exact this
theorem Prf.sub {b : Bk} (hv : VBk b) {item x : Nat} (hit : item < b.its.length) {l : List St} (h : Prf b item l) (hx : Lbl b item x) : ∀ i, i ≤ l.length → Sub (kS (l.take i)) x
  | 0, _ => fun q hq => by simp [kS] at hq
  | i + 1, hi => fun q hq => by
    have ih := h.sub hv hit hx i (by omega)
    rw [kS_take (by omega), Nat.testBit_or, Bool.or_eq_true] at hq
    rcases hq with hq | hq
    · exact ih q hq
    · rw [Nat.testBit_two_pow, decide_eq_true_eq] at hq
      subst hq
      exact rg_label hv hit hx ih (h i (by omega))
theorem Prf.all {b : Bk} (hv : VBk b) {item x : Nat} (hit : item < b.its.length) {l : List St} (h : Prf b item l) (hx : Lbl b item x) : Sub (kS l) x := by
  have := h.sub hv hit hx l.length (Nat.le_refl _)
  rwa [List.take_length] at this

/-- What adding a step leaves. -/
def addS (prop : Nat) (l : List St) (s : St) : List St := if (kS l).testBit prop || (kS l).testBit s.1.toNat then l else l ++ [s]
structure Gr (b : Bk) (item prop : Nat) (l : List St) : Prop where
  prf : Prf b item l
  len : l.length = cntB (kS l) b.p.toNat
  last : (kS l).testBit prop = true → ∃ s, l.getLast? = some s ∧ s.1.toNat = prop
theorem Gr.nil (b : Bk) (item prop : Nat) : Gr b item prop [] := by
  refine ⟨Prf.nil b item, ?_, fun h => by simp [kS] at h⟩
  have : ∀ n, cntB 0 n = 0 := fun n => by
    induction n with
    | zero => rfl
    | succ n ih => unfold cntB; rw [ih]; simp
  exact (this _).symm
theorem Gr.add {b : Bk} {item prop : Nat} {l : List St} {s : St} (h : Gr b item prop l) (hs : rgR b item s (kS l) = true) : Gr b item prop (addS prop l s) := by
  have hp := rg_prop hs
  unfold addS
  split
  · exact h
  · rename_i hc
    rw [Bool.or_eq_true, not_or, Bool.not_eq_true, Bool.not_eq_true] at hc
    refine ⟨h.prf.snoc hs, ?_, fun hb => ⟨s, by simp, ?_⟩⟩
    · rw [kS_snoc, cntB_or hc.2 _ (by omega), List.length_append, h.len]; rfl
    · rw [kS_snoc, Nat.testBit_or, hc.1, Bool.false_or, Nat.testBit_two_pow, decide_eq_true_eq] at hb
      exact hb
/-- What is known of M, unless the property is. -/
def Cov (prop : Nat) (l : List St) (M : Nat) : Prop := (kS l).testBit prop = true ∨ Sub M (kS l)
theorem addS_sub (prop : Nat) (l : List St) (s : St) : Sub (kS l) (kS (addS prop l s)) := fun q hq => by
  unfold addS
  split
  · exact hq
  · rw [kS_snoc, Nat.testBit_or, hq]; rfl
theorem addS_has {prop : Nat} {l : List St} {s : St} (h : (kS l).testBit prop = false) : (kS (addS prop l s)).testBit s.1.toNat = true := by
  unfold addS
  split
  · rename_i hc
    rw [h, Bool.false_or] at hc
    exact hc
  · rw [kS_snoc, Nat.testBit_or]; simp
theorem Cov.start (prop : Nat) (l : List St) : Cov prop l 0 := .inr fun q hq => by simp at hq
theorem Cov.add {prop M : Nat} {l : List St} {s : St} (h : Cov prop l M) : Cov prop (addS prop l s) (M ||| 2 ^ s.1.toNat) := by
  by_cases hb : (kS l).testBit prop = true
  · exact .inl (addS_sub prop l s _ hb)
  · rw [Bool.not_eq_true] at hb
    rcases h with h | h
    · rw [hb] at h; cases h
    · refine .inr fun q hq => ?_
      rw [Nat.testBit_or, Bool.or_eq_true] at hq
      rcases hq with hq | hq
      · exact addS_sub prop l s _ (h q hq)
      · rw [Nat.testBit_two_pow, decide_eq_true_eq] at hq
        subst hq
        exact addS_has hb
/-- After j rounds over the rules, and i rules of the next one. -/
def Cov2 (b : Bk) (item prop j i : Nat) (l : List St) : Prop :=
  (kS l).testBit prop = true ∨ (Sub (bsS b item) (kS l) ∧ (Shut b.rus allW (kS l) ∨ j + 1 ≤ cntB (kS l) b.p.toNat ∨ (j ≤ cntB (kS l) b.p.toNat ∧ Off b.rus allW (kS l) i)))
theorem Cov2.start {b : Bk} {item prop : Nat} {l : List St} (h : Cov prop l (bsS b item)) : Cov2 b item prop 0 0 l := by
  rcases h with h | h
  · exact .inl h
  · exact .inr ⟨h, .inr (.inr ⟨Nat.zero_le _, fun j _ hj => by omega⟩)⟩
theorem Cov2.next {b : Bk} {item prop j : Nat} {l : List St} (h : Cov2 b item prop j b.rus.length l) : Cov2 b item prop (j + 1) 0 l := by
  rcases h with h | ⟨h, h1 | h1 | ⟨_, h1⟩⟩
  · exact .inl h
  · exact .inr ⟨h, .inl h1⟩
  · exact .inr ⟨h, .inr (.inr ⟨h1, fun j _ hj => by omega⟩)⟩
  · exact .inr ⟨h, .inl h1.all⟩
theorem Cov2.skip {b : Bk} {item prop j i : Nat} {l : List St} (h : Cov2 b item prop j i l) (hi : i < b.rus.length) (ha : allB (kS l) (natL b.rus[i].1) = false) : Cov2 b item prop j (i + 1) l := by
  rcases h with h | ⟨h, h1 | h1 | ⟨h2, h1⟩⟩
  · exact .inl h
  · exact .inr ⟨h, .inl h1⟩
  · exact .inr ⟨h, .inr (.inl h1)⟩
  · exact .inr ⟨h, .inr (.inr ⟨h2, h1.succ fun _ ht _ => by rw [ha] at ht; cases ht⟩)⟩
theorem Cov2.step {b : Bk} {item prop j i : Nat} {l : List St} {s : St} (h : Cov2 b item prop j i l) (hi : i < b.rus.length) (hs : s.1.toNat = b.rus[i].2.toNat) (hp : s.1.toNat < b.p.toNat) (ha : allB (kS l) (natL b.rus[i].1) = true) : Cov2 b item prop j (i + 1) (addS prop l s) := by
  by_cases hb : (kS l).testBit prop = true
  · exact .inl (addS_sub prop l s _ hb)
  · rw [Bool.not_eq_true] at hb
    rcases h with h | ⟨h, h1⟩
    · rw [hb] at h; cases h
    · by_cases hk : (kS l).testBit s.1.toNat = true
      · have e : addS prop l s = l := by unfold addS; rw [hk, Bool.or_true, if_pos rfl]
        rw [e]
        rcases h1 with h1 | h1 | ⟨h2, h1⟩
        · exact .inr ⟨h, .inl h1⟩
        · exact .inr ⟨h, .inr (.inl h1)⟩
        · exact .inr ⟨h, .inr (.inr ⟨h2, h1.succ fun _ _ _ => by rw [← hs]; exact hk⟩)⟩
      · rw [Bool.not_eq_true] at hk
        have e : addS prop l s = l ++ [s] := by unfold addS; rw [hk, hb]; rfl
        have hc := cntB_or hk b.p.toNat hp
        refine .inr ⟨fun q hq => addS_sub prop l s _ (h q hq), ?_⟩
        rw [e, kS_snoc]
        rcases h1 with h1 | h1 | ⟨h2, h1⟩
        · have := h1 b.rus[i] (List.getElem_mem hi) ha rfl
          rw [← hs, hk] at this; cases this
        · exact .inr (.inl (by omega))
        · exact .inr (.inl (by omega))
/-- At the end the property is known exactly if it is in the label. -/
theorem Cov2.done {b : Bk} {item prop x : Nat} {l : List St} (h : Cov2 b item prop b.p.toNat 0 l) (hg : Gr b item prop l) (hv : VBk b) (hit : item < b.its.length) (hx : Lbl b item x) (hp : prop < b.p.toNat) : (kS l).testBit prop = x.testBit prop := by
  rw [Bool.eq_iff_iff]
  refine ⟨hg.prf.all hv hit hx prop, fun hq => ?_⟩
  rcases h with h | ⟨h, h1 | h1 | ⟨h2, _⟩⟩
  · exact h
  · exact hx.1.1.2 _ h h1 prop hq
  · have := cntB_le (kS l) b.p.toNat; omega
  · exact cntB_full _ h2 prop hp
end Go.Proofs.YtgoojcjfhghmgaaDoor

/- What is said of a list of steps; plain. -/
namespace Go.Proofs.YtgoojcjfhghmgaaDoor
open Go.RowKit

def prfB (b : Bk) (item : Nat) (l : List St) : Bool := (List.range l.length).all fun i => rgR b item (l[i]?.getD (0, 0, 0)) (kS (l.take i))
theorem prfB_iff {b : Bk} {item : Nat} {l : List St} : prfB b item l = true ↔ Prf b item l := by
  unfold prfB Prf
  rw [List.all_eq_true]
  refine ⟨fun h i hi => ?_, fun h i hi => ?_⟩
  · have := h i (List.mem_range.2 hi)
    rwa [List.getElem?_eq_getElem hi, Option.getD_some] at this
  · have hi' := List.mem_range.1 hi
    rw [List.getElem?_eq_getElem hi', Option.getD_some]
    exact h i hi'
/-- The property of the last step. -/
def lastP (l : List St) : Int := (l.getLast?.map (·.1)).getD (-1)
theorem lastP_snoc (l : List St) (s : St) : lastP (l ++ [s]) = s.1 := by simp [lastP]
theorem lastP_take {l : List St} {i : Nat} (hi : i < l.length) : lastP (l.take (i + 1)) = l[i].1 := by
  rw [List.take_succ_eq_append_getElem hi, lastP_snoc]
theorem lastP_at {l : List St} {i : Nat} (hi : i + 1 = l.length) : lastP l = (l[i]'(by omega)).1 := by
  have := lastP_take (l := l) (i := i) (by omega)
  rwa [hi, List.take_length] at this
/-- What CheckProof returns. -/
def cpR (b : Bk) (item prop : Int) (l : List St) : Int :=
  if akR b item prop = 0 then (if 40 < l.length then 4 else if prfB b item.toNat l = true ∧ lastP l = prop then 0 else 8) else akR b item prop
theorem cp_ak {b : Bk} {item prop : Int} {l : List St} (h : akR b item prop ≠ 0) : cpR b item prop l = akR b item prop := if_neg h
theorem cp_long {b : Bk} {item prop : Int} {l : List St} (h : akR b item prop = 0) (hl : 40 < l.length) : cpR b item prop l = 4 := by
  rw [cpR, if_pos h, if_pos hl]
theorem cp_bad {b : Bk} {item prop : Int} {l : List St} (h : akR b item prop = 0) (hl : l.length ≤ 40) {k : Nat} (hk : k < l.length) (hb : rgR b item.toNat l[k] (kS (l.take k)) = false) : cpR b item prop l = 8 := by
  rw [cpR, if_pos h, if_neg (by omega), if_neg]
  rintro ⟨hp, _⟩
  have := prfB_iff.1 hp k hk
  rw [hb] at this
  cases this
theorem cp_good {b : Bk} {item prop : Int} {l : List St} (h : akR b item prop = 0) (hl : l.length ≤ 40) (hp : Prf b item.toNat l) (hq : lastP l = prop) : cpR b item prop l = 0 := by
  rw [cpR, if_pos h, if_neg (by omega), if_pos ⟨prfB_iff.2 hp, hq⟩]
theorem cp_other {b : Bk} {item prop : Int} {l : List St} (h : akR b item prop = 0) (hl : l.length ≤ 40) (hq : lastP l ≠ prop) : cpR b item prop l = 8 := by
  rw [cpR, if_pos h, if_neg (by omega), if_neg fun h => hq h.2]
theorem cp_zero {b : Bk} {item prop : Int} {l : List St} (h : cpR b item prop l = 0) : akR b item prop = 0 ∧ Prf b item.toNat l ∧ lastP l = prop := by
  unfold cpR at h
  split at h
  · rename_i h0
    split at h
    · cases h
    · split at h
      · rename_i h1
        exact ⟨h0, prfB_iff.1 h1.1, h1.2⟩
      · cases h
  · rename_i h0
    exact absurd h h0
theorem kS_mem {l : List St} {s : St} (h : s ∈ l) : (kS l).testBit s.1.toNat = true := by
  have key : ∀ (l : List St) (m : Nat), ((l.foldl (fun m s => m ||| 2 ^ s.1.toNat) m).testBit s.1.toNat = true) ↔ (m.testBit s.1.toNat = true ∨ ∃ t ∈ l, t.1.toNat = s.1.toNat) := fun l => by
    induction l with
    | nil => intro m; simp
    | cons a l ih =>
      intro m
      rw [List.foldl_cons, ih, Nat.testBit_or, Bool.or_eq_true, Nat.testBit_two_pow, decide_eq_true_eq]
      simp only [List.mem_cons, exists_eq_or_imp]
      rw [or_assoc]
  exact (key l 0).2 (.inr ⟨s, h, rfl⟩)
theorem lastP_mem {l : List St} {p : Int} (h : lastP l = p) (h0 : 0 ≤ p) : ∃ s ∈ l, s.1 = p := by
  unfold lastP at h
  cases hl : l.getLast? with
  | none => rw [hl] at h; simp at h; omega
  | some s =>
    rw [hl] at h
    exact ⟨s, List.mem_of_getLast? hl, by simpa using h⟩
/-- The property of an accepted proof is in the label. -/
theorem proof_label {b : Bk} {item prop : Int} {l : List St} (h : cpR b item prop l = 0) : nmR b item = 0 ∧ ∀ L, LbL b item L → L.contains prop = true := by
  obtain ⟨h1, h2, h3⟩ := cp_zero h
  obtain ⟨h0, hp0, hp1⟩ := ak_zero h1
  obtain ⟨hv0, hi0, hi1⟩ := nm_zero h0
  have hv := vl_zero hv0
  refine ⟨h0, fun L hL => ?_⟩
  rw [LbL, if_pos h0] at hL
  obtain ⟨x, hx, rfl⟩ := hL
  obtain ⟨s, hs, rfl⟩ := lastP_mem h3 hp0
  have := h2.all hv (by omega) hx _ (kS_mem hs)
  rw [List.contains_iff_mem]
  refine List.mem_map.2 ⟨s.1.toNat, ?_, by simpa using Int.toNat_of_nonneg hp0⟩
  rw [mem_bl x (p64 hx.2 (by have := hv.p1; omega))]
  exact this
theorem kS_lt {b : Bk} {item : Nat} {l : List St} (h : Prf b item l) : ∀ i, i ≤ l.length → kS (l.take i) < 2 ^ b.p.toNat
  | 0, _ => by simp [kS]; exact Nat.two_pow_pos _
  | i + 1, hi => by
    rw [kS_take (by omega)]
    refine Nat.or_lt_two_pow (kS_lt h i (by omega)) (Nat.pow_lt_pow_right (by decide) ?_)
    have := rg_prop (h i (by omega))
    omega
theorem kS_lt' {b : Bk} {item : Nat} {l : List St} (h : Prf b item l) : kS l < 2 ^ b.p.toNat := by
  have := kS_lt h l.length (Nat.le_refl _)
  rwa [List.take_length] at this
theorem Prf.take_succ {b : Bk} {item i : Nat} {l : List St} (hi : i < l.length) (h : Prf b item (l.take i)) (hs : rgR b item l[i] (kS (l.take i)) = true) : Prf b item (l.take (i + 1)) := by
  rw [List.take_succ_eq_append_getElem hi]
  exact h.snoc hs
end Go.Proofs.YtgoojcjfhghmgaaDoor
