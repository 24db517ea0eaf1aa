/- CopyInts, CopyRules. -/
import Derived.Test.YtgoojcjfhghmgaaDoorDisZb
import Derived.Test.YtgoojcjfhghmgaaDoorLists
import Derived.Deep.RegionHeld3
namespace Go.Proofs.YtgoojcjfhghmgaaDoor
open Go.RowKit

theorem LstN.own {g : Option Nat} {w : World} {vs : List Value} {os : List (List Int)} {base e c n : Nat} {A : Option Addr} {o : List Int} (h : LstN g w vs os) (hn : o.length = n) (hown : w.ownsRow base e 1 (.slice A n c) n (o.map (Value.int .i64))) (hg : ∀ k, g = some k → k < base) :
    LstN g w (vs ++ [.slice A n c]) (os ++ [o]) := by
  subst hn
  obtain ⟨h1, h2, h3⟩ := own_caps hown
  refine h.snoc (IntsAt.of_own hown) (fun a ha => ?_) h1 h2
  obtain ⟨h4, h5, h6⟩ := h3 a ha
  exact ⟨h5, fun he => by have := hg _ he.symm; omega, h6⟩
theorem lst_step {W w7 wr : World} {g g' : Option Nat} {us : List Value} {os : List (List Int)} {A : Option Addr} {c n e : Nat} {o : List Int} (hg : W.grownBy w7 g) (hat : ∀ k, g' = some k → g = some k ∨ k = W.heap.size) (hW : Below wr.heap.size wr W)
    (hown : W.ownsRow wr.heap.size e 1 (.slice A n c) n (o.map (Value.int .i64))) (hL : LstN g wr us os) (hlt : ∀ k, g = some k → k < wr.heap.size) (ho : o.length = n) :
    LstN g' w7 (us ++ [.slice A n c]) (os ++ [o]) :=
  LstN.grown (LstN.own (hL.below hW) ho hown hlt) hg hat
def flatV (ps : List (Value × Value)) : List Value := ps.flatMap fun p => [p.1, p.2]
theorem flatV_snoc (ps : List (Value × Value)) (a b : Value) : flatV (ps ++ [(a, b)]) = flatV ps ++ [a, b] := by simp [flatV]
theorem flatV_length (ps : List (Value × Value)) : (flatV ps).length = ps.length * 2 := by
  induction ps with
  | nil => rfl
  | cons p ps ih => simp only [flatV, List.flatMap_cons, List.length_append, List.length_cons, List.length_nil] at ih ⊢; omega
theorem flatV_get : ∀ (ps : List (Value × Value)) (k : Nat) (hk : k < ps.length), (flatV ps)[k * 2]? = some ps[k].1 ∧ (flatV ps)[k * 2 + 1]? = some ps[k].2
  | p :: ps, 0, _ => by simp [flatV]
  | p :: ps, k + 1, hk => by
    have := flatV_get ps k (by simpa using hk)
    have e : flatV (p :: ps) = p.1 :: p.2 :: flatV ps := by simp [flatV]
    rw [e, show (k + 1) * 2 = k * 2 + 1 + 1 by omega]
    simpa using this
theorem own_cell2 {w : World} {base e n c : Nat} {A : Option Addr} {ps : List (Value × Value)} (h : w.ownsRow base e 2 (.slice A n c) n (flatV ps)) (hl : ps.length = n) {k : Nat} (hk : k < ps.length) :
    ∃ g, A = some ⟨g, 0, none⟩ ∧ g < w.heap.size ∧ w.cell? ⟨g, k * 2, none⟩ = some ps[k].1 ∧ w.cell? ⟨g, k * 2 + 1, none⟩ = some ps[k].2 := by
  rcases h.2 with ⟨e1, e2⟩ | ⟨g, cap, cur, e1, hb, _⟩
  · omega
  · injection e1 with e1 e3 e4
    subst e1 e4
    obtain ⟨f0, f1⟩ := flatV_get ps k hk
    have h0 := h.cells (g := g) rfl (k * 2) _ f0
    have h1 := h.cells (g := g) rfl (k * 2 + 1) _ f1
    rw [Addr.add_lit, Nat.zero_add] at h0 h1
    exact ⟨g, rfl, (h.lt g rfl).2, h0, h1⟩
theorem info42 : (Tryd.prog.info? 42).map (fun i => (i.zero, i.size, i.bytes)) = some (some (.agg #[.slice none 0 0, .int .i64 0]), 2, 32) := by kernel_rfl
theorem info84 : (Tryd.prog.info? 84).map (fun i => (i.zero, i.size, i.bytes)) = some (some (.agg #[.slice none 0 0, .slice none 0 0]), 2, 48) := by kernel_rfl

set_option maxRecDepth 100000 in
set_option maxHeartbeats 2000000 in
theorem CopyInts_ref (A : Option Addr) (c B : Nat) (l : List Int) (w : World) (hB : B ≤ w.heap.size) (h : IntsAt B w A l) (hm : l.length ≤ 1000) :
    Calls Tryd.prog 58 #[.slice A l.length c] w fun e w' => ∃ A' c', e = .returned (.slice A' l.length c') ∧ w'.ownsRow w.heap.size 3 1 (.slice A' l.length c') l.length (l.map (Value.int .i64)) ∧ Below w.heap.size w w' := by
  obtain ⟨j0, hj, hy0, hy1, hy2⟩ := info_parts info3
  have H := Lib.hid (h.below (Below.refl _ _) hB)
  clear h hB
  go_enter Tryd.func58, Tryd.ntmps58
  go_wp2_with fail
  go_loopw [3, 4] (fun out i wr => ∃ k : Nat, k ≤ l.length ∧ i = .int .i64 k ∧ wr.ownsRow w.heap.size 3 1 out k ((l.take k).map (Value.int .i64)) ∧ Below w.heap.size w wr) (fun _ i _ => l.length - (intOf i).toNat)
  case atStart => exact ⟨0, Nat.zero_le _, rfl, World.ownsRow_nil _ _ _ _, Below.refl _ _⟩
  case round =>
    obtain ⟨k, hk, rfl, hown, hb⟩ := hrel
    by_cases hlt : k < l.length
    · obtain ⟨b, off, rfl, hbB, q0⟩ := H.out.at hlt
      have q1 := (hb.cell (p := ⟨b, off + k, none⟩) hbB).trans q0
      have HO := Lib.hid hown
      have Hb := Lib.hid hb
      have Hs := Lib.hid (show (l.take (k + 1)).map (Value.int .i64) = (l.take k).map (Value.int .i64) ++ [.int .i64 l[k]] by rw [List.take_succ_eq_append_getElem hlt, List.map_append]; rfl)
      clear q0 hown hb
      generalize l[k] = y at q1 Hs
      go_wp2_with (at_builtin; refine wpList_append_own _ rfl _ _ 32 rfl w.heap.size 3 j0 _ 1 8 Tryd.underlying32 hj hy0 hy1 hy2 rfl (by decide) _ _ _ rfl (HO.out.alloc _) ⟨wr.heap.size, 0, none⟩ 1 1 _ rfl rfl (cell_one_new _ _ _) (by simp [Value.oneCell']) (by simp only [maxLen]; omega) (by omega) (Hb.out.alloc Hb.out.size _).size ?_; intro v' w7 hown7 hg7 _)
      have b7 : Below w.heap.size w w7 := (Hb.out.alloc Hb.out.size _).grown hg7 (Hb.out.alloc Hb.out.size _).size (fun x hx => (HO.out.lt x hx).1)
      go_roundw
      case rel => exact ⟨k + 1, by omega, by go_num, by rw [Hs.out]; exact hown7, b7⟩
      case measure => simp [intOf]; omega
    · obtain rfl : k = l.length := by omega
      rw [List.take_length] at hown
      obtain ⟨A5, c5, rfl⟩ := own_form hown
      go_wp2_with fail
      go_ret
      exact ⟨A5, c5, rfl, hown, hb⟩

/-- The slices among the values lie in blocks from lo on. -/
def LoV (lo : Nat) (vs : List Value) : Prop := ∀ v ∈ vs, ∀ a n c, v = .slice (some a) n c → lo ≤ a.block
theorem LoV.nil (lo : Nat) : LoV lo [] := fun v h => by simp at h
theorem LoV.snoc {lo n c : Nat} {vs : List Value} {A : Option Addr} (h : LoV lo vs) (ha : ∀ a, A = some a → lo ≤ a.block) : LoV lo (vs ++ [.slice A n c]) := by
  intro v hv a m k e
  rcases List.mem_append.1 hv with hv | hv
  · exact h v hv a m k e
  · rw [List.mem_singleton] at hv
    rw [hv] at e
    injection e with e1
    exact ha a e1
/-- Rules in blocks from lo on. -/
def FarR (lo : Nat) (w : World) (A : Option Addr) (l : List Ru) : Prop :=
  ∀ k (hk : k < l.length), ∃ b off A1 c1, A = some ⟨b, off, none⟩ ∧ lo ≤ b ∧ b < w.heap.size ∧ w.cell? ⟨b, off + k * 2, none⟩ = some (.slice A1 l[k].1.length c1) ∧ w.cell? ⟨b, off + k * 2 + 1, none⟩ = some (.int .i64 l[k].2) ∧ IntsAt w.heap.size w A1 l[k].1 ∧ ∀ a, A1 = some a → lo ≤ a.block
theorem FarR.at {lo : Nat} {w : World} {A : Option Addr} {l : List Ru} (h : FarR lo w A l) : RusAt w.heap.size w A l := fun k hk => by
  obtain ⟨b, off, A1, c1, e, _, h1, h2, h3, h4, _⟩ := h k hk
  exact ⟨b, off, A1, c1, e, h1, h2, h3, h4⟩
theorem FarR.of_own {w : World} {base c lo : Nat} {A : Option Addr} {l : List Ru} {ps : List (Value × Value)} {g : Option Nat} (hl : ps.length = l.length) (h : w.ownsRow base 42 2 (.slice A l.length c) l.length (flatV ps)) (h1 : LstN g w (ps.map (·.1)) (l.map (·.1))) (h2 : ps.map (·.2) = l.map fun x => .int .i64 x.2) (hlo : lo ≤ base) (h3 : LoV lo (ps.map (·.1))) : FarR lo w A l := by
  intro k hk
  have hkp : k < ps.length := by omega
  obtain ⟨g, rfl, hg, q0, q1⟩ := own_cell2 h hl hkp
  have hbg := (h.lt g rfl).1
  obtain ⟨A1, c1, e1, i1, _⟩ := h1.2 k (by simpa using hk)
  simp only [List.getElem_map] at e1 i1
  have e1' : ps[k].1 = .slice A1 l[k].1.length c1 := by
    rw [List.getElem?_map, List.getElem?_eq_getElem hkp] at e1
    simpa using e1
  have e2 : ps[k].2 = .int .i64 l[k].2 := by
    have h3 : (ps.map (·.2))[k]? = (l.map fun x => Value.int .i64 x.2)[k]? := by rw [h2]
    rw [List.getElem?_map, List.getElem?_map, List.getElem?_eq_getElem hkp, List.getElem?_eq_getElem hk] at h3
    simpa using h3
  refine ⟨g, 0, A1, c1, rfl, Nat.le_trans hlo hbg, hg, ?_, ?_, i1, fun a ha => ?_⟩
  · rw [Nat.zero_add, q0, e1']
  · rw [Nat.zero_add, q1, e2]
  · subst ha
    exact h3 ps[k].1 (List.mem_map.2 ⟨ps[k], List.getElem_mem hkp, rfl⟩) a _ _ e1'
theorem RusAt.of_own {w : World} {base c : Nat} {A : Option Addr} {l : List Ru} {ps : List (Value × Value)} {g : Option Nat} (hl : ps.length = l.length) (h : w.ownsRow base 42 2 (.slice A l.length c) l.length (flatV ps)) (h1 : LstN g w (ps.map (·.1)) (l.map (·.1))) (h2 : ps.map (·.2) = l.map fun x => .int .i64 x.2) : RusAt w.heap.size w A l := by
  intro k hk
  have hkp : k < ps.length := by omega
  obtain ⟨g, rfl, hg, q0, q1⟩ := own_cell2 h hl hkp
  obtain ⟨A1, c1, e1, i1, _⟩ := h1.2 k (by simpa using hk)
  simp only [List.getElem_map] at e1 i1
  have e1' : ps[k].1 = .slice A1 l[k].1.length c1 := by
    rw [List.getElem?_map, List.getElem?_eq_getElem hkp] at e1
    simpa using e1
  have e2 : ps[k].2 = .int .i64 l[k].2 := by
    have h3 : (ps.map (·.2))[k]? = (l.map fun x => Value.int .i64 x.2)[k]? := by rw [h2]
    rw [List.getElem?_map, List.getElem?_map, List.getElem?_eq_getElem hkp, List.getElem?_eq_getElem hk] at h3
    simpa using h3
  refine ⟨g, 0, A1, c1, rfl, hg, ?_, ?_, i1⟩
  · rw [Nat.zero_add, q0, e1']
  · rw [Nat.zero_add, q1, e2]

set_option maxRecDepth 100000 in
set_option maxHeartbeats 4000000 in
theorem CopyRules_ref (A : Option Addr) (c B : Nat) (l : List Ru) (w : World) (hB : B ≤ w.heap.size) (h : RusAt B w A l) (hs : l.length ≤ 60) (hl : ∀ x ∈ l, x.1.length ≤ 40) :
    Calls Tryd.prog 57 #[.slice A l.length c] w fun e w' => ∃ A' c', e = .returned (.slice A' l.length c') ∧ FarR w.heap.size w' A' l ∧ Below w.heap.size w w' := by
  obtain ⟨j0, hj, hy0, hy1, hy2⟩ := info_parts info42
  have H := Lib.hid (h.below (Below.refl _ _) hB)
  have Hl := Lib.hid hl
  clear h hB hl
  go_enter Tryd.func57, Tryd.ntmps57
  go_wp2_with fail
  go_loopw [3, 4] (fun out i wr => ∃ (k : Nat) (ps : List (Value × Value)), k ≤ l.length ∧ i = .int .i64 k ∧ ps.length = k ∧ wr.ownsRow w.heap.size 42 2 out k (flatV ps) ∧ LstN out.ownBlock wr (ps.map (·.1)) ((l.take k).map (·.1)) ∧ Aside (ps.map (·.2) = (l.take k).map fun x => .int .i64 x.2) ∧ Aside (LoV w.heap.size (ps.map (·.1))) ∧ Below w.heap.size w wr) (fun _ i _ => l.length - (intOf i).toNat)
  case atStart => exact ⟨0, [], Nat.zero_le _, rfl, rfl, World.ownsRow_nil _ _ _ _, LstN.nil _ _, rfl, LoV.nil _, Below.refl _ _⟩
  case round =>
    obtain ⟨k, ps, hk, rfl, hpl, hown, hL, hT, hV, hb⟩ := hrel
    by_cases hlt : k < l.length
    · obtain ⟨bb, off, A1, c1, rfl, hbB, e0, e1, i1⟩ := H.out k hlt
      have HO := Lib.hid hown
      have HL := Lib.hid hL
      have HT := Lib.hid hT.out
      have HV := Lib.hid hV.out
      have Hb := Lib.hid hb
      have h40 := Hl.out l[k] (List.getElem_mem hlt)
      have cc := Lib.hid (fun W (hW : Below wr.heap.size wr W) => CopyInts_ref A1 c1 w.heap.size l[k].1 W (Nat.le_trans hb.size hW.size) (i1.below (hb.trans (hW.mono hb.size)) (Nat.le_refl _)) (by omega))
      have Hs1 := Lib.hid (show (l.take (k + 1)).map (·.1) = (l.take k).map (·.1) ++ [l[k].1] by rw [List.take_succ_eq_append_getElem hlt, List.map_append]; rfl)
      have Hs2 := Lib.hid (show ((l.take (k + 1)).map fun x => Value.int .i64 x.2) = ((l.take k).map fun x => Value.int .i64 x.2) ++ [.int .i64 l[k].2] by rw [List.take_succ_eq_append_getElem hlt, List.map_append]; rfl)
      have d0 := (hb.cell (p := ⟨bb, off + k * 2, none⟩) hbB).trans e0
      have d1 := (hb.cell (p := ⟨bb, off + k * 2 + 1, none⟩) hbB).trans e1
      have Keep := Lib.hid (fun W (hW : Below w.heap.size w W) => show W.cell? ⟨bb, off + k * 2, none⟩ = some (.slice A1 l[k].1.length c1) ∧ W.cell? ⟨bb, off + k * 2 + 1, none⟩ = some (.int .i64 l[k].2) ∧ Below w.heap.size w W from
        ⟨(hW.cell (p := ⟨bb, off + k * 2, none⟩) hbB).trans e0, (hW.cell (p := ⟨bb, off + k * 2 + 1, none⟩) hbB).trans e1, hW⟩)
      have Hlen := Lib.hid (show ps.length = k from hpl)
      have hk60 : k ≤ 60 := by omega
      clear e0 e1 i1 hown hL hT hV hb hpl d0 d1
      generalize l[k].1 = o at cc Hs1 Keep h40
      generalize l[k].2 = t at Hs2 Keep
      have k0 : (0 : Int) ≤ (k : Int) := by omega
      have k1 : (k : Int) < (l.length : Int) := by omega
      have tok := Lib.hid (Nat.le_refl 0)
      obtain ⟨n, hn⟩ : ∃ n, n = o.length := ⟨_, rfl⟩
      rw [← hn] at cc Keep
      have Hn := Lib.hid hn
      clear hn
      obtain ⟨out, hout⟩ : ∃ o, o = u3 := ⟨_, rfl⟩
      subst hout
      go_wp2_with fail
      go_region_held3 (fun W => W.cell? ⟨bb, off + k * 2, none⟩ = some (.slice A1 n c1) ∧ W.cell? ⟨bb, off + k * 2 + 1, none⟩ = some (.int .i64 t) ∧ Below w.heap.size w W)
        ((refine Keep.out _ ?_; first | (refine Hb.out.trans (Below.mono ?_ Hb.out.size); (repeat (first | exact Below.refl _ _ | assumption | refine Below.drew ?_ | refine balloc ?_ _)); done) | (repeat (first | assumption | refine Below.drew ?_ | refine balloc ?_ _))))
        (first
          | (go_at_call 58; have tk := tok; clear tok; refine (cc.out _ (by repeat (first | exact Below.refl _ _ | assumption | refine Below.drew ?_ | refine balloc ?_ _))).mono ?_; rintro e w5 ⟨A5, c5, rfl, hown5, hd5⟩; have tok2 := tk; have hb5 : Below wr.heap.size wr w5 := Below.trans (by repeat (first | exact Below.refl _ _ | assumption | refine Below.drew ?_ | refine balloc ?_ _)) (hd5.mono (Below.size (w := wr) (B := wr.heap.size) (by repeat (first | exact Below.refl _ _ | assumption | refine Below.drew ?_ | refine balloc ?_ _)))); have ho5 := own_base hown5 (Below.size (w := wr) (B := wr.heap.size) (by repeat (first | exact Below.refl _ _ | assumption | refine Below.drew ?_ | refine balloc ?_ _))); have hlo5 := (own_caps ho5).2.2; clear hown5)
          | (have tk := tok2; clear tok2; refine step_app2 _ (by rfl) (.tmp 11) (.tmp 24) 23 (by rfl) w.heap.size 42 j0 _ 2 32 Tryd.underlying23 hj hy0 hy1 hy2 (by rfl) (by decide) out k (flatV ps) (by rfl)
              (own_below HO.out (by repeat (first | exact Below.refl _ _ | assumption | refine Below.drew ?_ | refine balloc ?_ _)))
              ⟨_, 0, none⟩ 1 1 [.slice A5 n c5, .int .i64 t] (by rfl) (by rfl)
              (news_blk (t := 42) (cs := #[.slice A5 n c5, .int .i64 t]) (by repeat (first | with_reducible exact blk_new' (by simp) | with_reducible refine Blk.drew ?_ | with_reducible refine Blk.alloc ?_ _)) _ rfl)
              (by simp [Value.oneCell']) (by omega) (by decide) (Nat.le_trans Hb.out.size (Below.size (w := wr) (B := wr.heap.size) (by repeat (first | exact Below.refl _ _ | assumption | refine Below.drew ?_ | refine balloc ?_ _)))) (k + 1) (by omega) (flatV (ps ++ [(.slice A5 n c5, .int .i64 t)])) (flatV_snoc _ _ _).symm ?_; intro A7 c7 w7 hown7 hg7 hlow7 hat7; have hb7 : Below w.heap.size w w7 := bgrown (Hb.out.trans (Below.mono (by repeat (first | exact Below.refl _ _ | assumption | refine Below.drew ?_ | refine balloc ?_ _)) Hb.out.size)) hg7 hlow7; have hL7 := lst_step (e := 3) (A := A5) (c := c5) (n := n) (o := o) hg7 hat7 (by repeat (first | exact Below.refl _ _ | assumption | refine Below.drew ?_ | refine balloc ?_ _)) (by repeat (first | assumption | refine World.ownsRow.drew ?_ | refine World.ownsRow.alloc ?_ _)) HL.out (fun k hk => (HO.out.lt k hk).2) Hn.out.symm))
      all_goals
        have HO7 := Lib.hid hown7
        have HL7 := Lib.hid (hL7)
        have HB7 := Lib.hid hb7
        have HV7 := Lib.hid (show LoV w.heap.size ((ps ++ [(Value.slice A5 n c5, Value.int .i64 t)]).map (·.1)) by rw [List.map_append]; exact HV.out.snoc fun a ha => Nat.le_trans Hb.out.size (hlo5 a ha).1)
        clear hown7 hL7 hb7 hlo5
        go_wp2_with fail
        go_roundw
        case rel =>
          refine ⟨k + 1, ps ++ [(.slice A5 n c5, .int .i64 t)], by omega, by go_num, by rw [List.length_append, Hlen.out]; rfl, HO7.out, ?_, ?_, ?_, HB7.out⟩
          · rw [Hs1.out, List.map_append]; exact HL7.out
          · rw [Hs2.out, List.map_append, HT.out]; rfl
          · exact HV7.out
        case measure => simp [intOf]; omega
    · obtain rfl : k = l.length := by omega
      rw [List.take_length] at hL
      have HT := Lib.hid hT.out
      rw [List.take_length] at HT
      obtain ⟨A5, c5, rfl⟩ := own_form hown
      have HR := Lib.hid (FarR.of_own hpl hown hL HT.out (Nat.le_refl _) hV.out)
      clear hown hL hT hV
      go_wp2_with fail
      go_ret
      exact ⟨A5, c5, rfl, HR.out, hb⟩
end Go.Proofs.YtgoojcjfhghmgaaDoor
