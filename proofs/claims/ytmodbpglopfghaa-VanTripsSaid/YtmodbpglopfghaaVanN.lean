/- Bound of the program; a copy of a table. -/
import Derived.Test.YtmodbpglopfghaaVanM
set_option linter.unusedSimpArgs false
set_option linter.unusedVariables false
namespace Go.Proofs.Ytmodbpglopfghaa
open Go.RowKit

/-- What Bound returns. -/
def BoundR (rows : List (List Int)) (p : List Int) (z : Int) : Prop := (WG rows p → BdIs rows.length (wy rows) p z ∧ -60000 ≤ z ∧ z ≤ 60000) ∧ (¬ WG rows p → z = 0)

set_option maxRecDepth 100000 in
set_option maxHeartbeats 1000000 in
theorem Bound_any (A A' : Option Addr) (c c' B : Nat) (rows : List (List Int)) (p : List Int) (w : World) (hB : B ≤ w.heap.size) (h : TblAt B w A rows) (h' : IntsAt B w A' p) (hl : ∀ r ∈ rows, r.length ≤ 30) (hm : p.length ≤ 1000) :
    Calls Try.prog 23 #[.slice A rows.length c, .slice A' p.length c'] w fun e w' => ∃ z, e = .returned (.tuple #[.int .i64 z, .int .i64 (wgR rows p)]) ∧ BoundR rows p z ∧ Below w.heap.size w w' := by
  have cv := Lib.hid (weighed_any A A' c c' B rows p w hB h h' hl hm)
  by_cases hv : WG rows p
  · rw [wg_ok hv] at cv ⊢
    obtain ⟨b, off, rfl, hwa⟩ := WaAt.of_tbl h hv.vw
    have cb := bound_any b off rows.length c c' B (wy rows) A' p w hB hwa hv.vw.bd h' hv.ok hv.len hv.n3 hv.vw.n1
    rw [← hv.len] at cb
    have cb := Lib.hid cb
    have HV := Lib.hid hv
    have hlen := hv.len
    rw [← hlen] at cv ⊢
    have HL := Lib.hid hlen
    clear h h' hl hv hwa hlen
    go_enter Try.func23, Try.ntmps23
    go_wp2_with (first | (go_at_call 58; refine cv.out.mono ?_; rintro e w1 ⟨rfl, rfl⟩) | (go_at_call 59; refine cb.out.mono ?_; rintro e w1 ⟨z, rfl, hs, hz0, hz1, hb⟩))
    go_ret2
    exact ⟨z, rfl, ⟨fun _ => ⟨by rw [← HL.out]; exact hs, hz0, hz1⟩, fun h => absurd HV.out h⟩, hb⟩
  · have hne : (wgR rows p != 0) = true := by simpa using fun e => hv (wg_zero e)
    have hne2 : (wgR rows p == 0) = false := by simpa using fun e => hv (wg_zero e)
    have HV := Lib.hid hv
    generalize wgR rows p = e0 at cv hne hne2 ⊢
    clear h h' hl hv
    go_enter Try.func23, Try.ntmps23
    go_wp2_with (go_at_call 58; refine cv.out.mono ?_; rintro e w1 ⟨rfl, rfl⟩)
    go_ret2
    exact ⟨0, rfl, ⟨fun h => absurd h HV.out, fun _ => rfl⟩, Below.refl _ _⟩

/-- Rows of a call's own, none in block gx, no two in one block. -/
def RowsOwn (base : Nat) (gx : Option Nat) (w : World) (vs : List Value) (rows : List (List Int)) : Prop :=
  vs.length = rows.length ∧ (∀ i (h : i < rows.length), ∃ A c, vs[i]? = some (.slice A rows[i].length c) ∧ w.ownsRow base 3 1 (.slice A rows[i].length c) rows[i].length (rows[i].map (Value.int .i64)) ∧ (∀ k, (Value.slice A rows[i].length c).ownBlock = some k → gx ≠ some k)) ∧
  ∀ (i k : Nat) (v v' : Value), i < k → vs[i]? = some v → vs[k]? = some v' → ∀ b, v.ownBlock = some b → v'.ownBlock ≠ some b
namespace RowsOwn
variable {base : Nat} {gx gx' : Option Nat} {w w' : World} {vs : List Value} {rows : List (List Int)}
theorem nil (base : Nat) (gx : Option Nat) (w : World) : RowsOwn base gx w [] [] := ⟨rfl, fun i h => by simp at h, fun i k v v' _ h => by simp at h⟩
theorem below (h : RowsOwn base gx w vs rows) (hb : Below w.heap.size w w') : RowsOwn base gx w' vs rows := by
  refine ⟨h.1, fun i hi => ?_, h.2.2⟩
  obtain ⟨A, c, h1, h2, h3⟩ := h.2.1 i hi
  exact ⟨A, c, h1, own_below h2 hb, h3⟩
theorem grown (h : RowsOwn base gx w vs rows) (hg : w.grownBy w' gx) (hat : ∀ k, gx' = some k → gx = some k ∨ k = w.heap.size) : RowsOwn base gx' w' vs rows := by
  refine ⟨h.1, fun i hi => ?_, h.2.2⟩
  obtain ⟨A, c, h1, h2, h3⟩ := h.2.1 i hi
  refine ⟨A, c, h1, ?_, fun k hk e => ?_⟩
  · by_cases hn : (Value.slice A rows[i].length c).ownBlock = none
    · refine ⟨h2.1, ?_⟩
      rcases h2.2 with hz | ⟨g, cap, cur, hv, _⟩
      · exact .inl hz
      · rw [hv] at hn; cases hn
    · obtain ⟨k, hk⟩ := Option.ne_none_iff_exists'.1 hn
      exact h2.kept hg (.inr (fun e => h3 k hk (by rw [← hk, e])))
  · rcases hat k e with h4 | h4
    · exact h3 k hk h4
    · have := (h2.lt k hk).2; omega
theorem snoc {A : Option Addr} {c n : Nat} {o : List Int} (h : RowsOwn base gx w vs rows) (lo : Nat) (hlo : base ≤ lo) (hn : o.length = n) (hown : w.ownsRow lo 3 1 (.slice A n c) n (o.map (Value.int .i64)))
    (hgx : ∀ k, gx = some k → k < lo) (hvs : ∀ (i : Nat) (v : Value), vs[i]? = some v → ∀ b, v.ownBlock = some b → b < lo) : RowsOwn base gx w (vs ++ [.slice A n c]) (rows ++ [o]) := by
  subst hn
  have hl := h.1
  refine ⟨by simp [hl], fun i hi => ?_, fun i k v v' hik hv hv' b hb => ?_⟩
  · simp only [List.length_append, List.length_cons, List.length_nil, Nat.zero_add] at hi
    by_cases hlt : i < rows.length
    · obtain ⟨A', c', r⟩ := h.2.1 i hlt
      rw [List.getElem_append_left hlt, List.getElem?_append_left (by rw [hl]; exact hlt)]
      exact ⟨A', c', r⟩
    · obtain rfl : i = rows.length := by omega
      refine ⟨A, c, ?_, ?_, fun k hk e => ?_⟩
      · rw [List.getElem?_append_right (by rw [hl]; exact Nat.le_refl _), hl]; simp
      · simpa using own_base hown hlo
      · have h1 := hgx k e
        have h2 := (hown.lt k (by simpa [Value.ownBlock] using hk)).1
        omega
  · have hklt : k < (vs ++ [Value.slice A o.length c]).length := by
      rcases Nat.lt_or_ge k (vs ++ [Value.slice A o.length c]).length with h | h
      · exact h
      · rw [List.getElem?_eq_none h] at hv'; cases hv'
    simp only [List.length_append, List.length_cons, List.length_nil, Nat.zero_add] at hklt
    rw [List.getElem?_append_left (by omega)] at hv
    by_cases hk : k < vs.length
    · rw [List.getElem?_append_left hk] at hv'
      exact h.2.2 i k v v' hik hv hv' b hb
    · obtain rfl : k = vs.length := by omega
      rw [List.getElem?_append_right (Nat.le_refl _)] at hv'
      simp at hv'
      subst hv'
      intro e
      have h1 := (hown.lt b e).1
      have h2 := hvs i v hv b hb
      omega
theorem lt (h : RowsOwn base gx w vs rows) {i : Nat} {v : Value} (hv : vs[i]? = some v) {b : Nat} (hb : v.ownBlock = some b) : b < w.heap.size := by
  have hi : i < rows.length := by
    rcases Nat.lt_or_ge i vs.length with h' | h'
    · rw [← h.1]; exact h'
    · rw [List.getElem?_eq_none h'] at hv; cases hv
  obtain ⟨A, c, h1, h2, _⟩ := h.2.1 i hi
  rw [h1] at hv
  injection hv with hv
  subst hv
  exact (h2.lt b hb).2
end RowsOwn
theorem ints_nn {B : Nat} {w : World} {A : Option Addr} {l : List Int} (h : IntsAt B w A l) : A = none → l.length = 0 := h.none_nil

set_option maxRecDepth 100000 in
set_option maxHeartbeats 1000000 in
theorem Copy_ref (A : Option Addr) (c B : Nat) (rows : List (List Int)) (w : World) (hB : B ≤ w.heap.size) (h : TblAt B w A rows) (hm : rows.length ≤ 1000) (hl : ∀ r ∈ rows, r.length ≤ 1000) :
    Calls Try.prog 45 #[.slice A rows.length c] w fun e w' => ∃ A' c' vs, e = .returned (.slice A' rows.length c') ∧ w'.ownsRow w.heap.size 28 1 (.slice A' rows.length c') rows.length vs ∧ RowsOwn w.heap.size (Value.slice A' rows.length c').ownBlock w' vs rows ∧ Below w.heap.size w w' := by
  obtain ⟨i0, hi, hz0, hz1, hz2⟩ := info_parts info28
  obtain ⟨j0, hj, hy0, hy1, hy2⟩ := info_parts info3
  have H := Lib.hid (show TblAt w.heap.size w A rows from fun k hk => by
    obtain ⟨b, off, A1, c1, e, h1, h2, h3⟩ := h k hk
    exact ⟨b, off, A1, c1, e, by omega, h2, h3.below (Below.refl _ _) hB⟩)
  have Hl := Lib.hid hl
  clear h hl hB
  go_enter Try.func45, Try.ntmps45
  go_wp2_with fail
  go_loopw [3, 4] (fun out vi wr => ∃ (i : Nat) (vs : List Value), i ≤ rows.length ∧ vi = .int .i64 i ∧ wr.ownsRow w.heap.size 28 1 out i vs ∧ RowsOwn w.heap.size out.ownBlock wr vs (rows.take i) ∧ Below w.heap.size w wr) (fun _ vi _ => rows.length - (intOf vi).toNat)
  case atStart => exact ⟨0, [], Nat.zero_le _, rfl, World.ownsRow_nil _ _ _ _, RowsOwn.nil _ _ _, Below.refl _ _⟩
  case round =>
    obtain ⟨i, vs, hi2, rfl, hown, hR, hbr⟩ := hrel
    obtain ⟨A0, c0, rfl⟩ := own_form hown
    by_cases hlt : i < rows.length
    · obtain ⟨b, off, A1, c1, rfl, hb1, e0, i1⟩ := H.out i hlt
      have d0 := (hbr.cell (p := ⟨b, off + i, none⟩) hb1).trans e0
      have I1 := Lib.hid (i1.below hbr (Nat.le_refl _))
      have hrl := Hl.out rows[i] (List.getElem_mem hlt)
      have Htk := Lib.hid (show rows.take i ++ [rows[i]] = rows.take (i + 1) from (List.take_succ_eq_append_getElem hlt).symm)
      have hO1 : (wr.alloc (.cells #[] 3)).ownsRow wr.heap.size 3 1 (.slice (some ⟨wr.heap.size, 0, none⟩) 0 0) 0 [] := own_new 1 (Nat.le_refl _)
      have hb1' : Below wr.heap.size wr (wr.alloc (.cells #[] 3)) := (Below.refl _ _).alloc (Nat.le_refl _) _
      have HO1 := Lib.hid hO1
      have HB1 := Lib.hid hb1'
      have HI1 := Lib.hid (i1.below (hbr.trans (hb1'.mono hbr.size)) (Nat.le_refl w.heap.size))
      have HO := Lib.hid hown
      have HR := Lib.hid hR
      have Hbr := Lib.hid hbr
      generalize hR1 : rows[i] = o at d0 Htk HI1 hrl
      clear hown hR hbr hO1 hb1' i1 I1 e0
      have hbw : b < wr.heap.size := Nat.lt_of_lt_of_le hb1 Hbr.out.size
      have tok := Lib.hid (Nat.le_refl 0)
      go_wp2_with (first
        | (at_builtin; have tk := tok; clear tok; refine wpList_app _ rfl _ _ 28 rfl wr.heap.size 3 j0 _ 1 8 Try.underlying28 hj hy0 hy1 hy2 rfl (by decide) _ 0 _ rfl HO1.out A1 o.length c1 (o.map (Value.int .i64)) rfl (by rw [List.length_map, Nat.mul_one]) HI1.out.none_nil (IntsAt.news HI1.out) (ints_one _) (by omega) (by decide) HB1.out.size o.length (by omega) (o.map (Value.int .i64)) rfl ?_; intro A4 c4 w4 hown4 hg4 hlow4; have tok2 := tk; have HB4 := Lib.hid (HB1.out.grown hg4 HB1.out.size hlow4); have HO4 := Lib.hid hown4)
        | (at_builtin; have tk := tok2; clear tok2; refine wpList_app2' rfl _ _ 22 rfl w.heap.size 28 i0 _ 1 24 Try.underlying22 hi hz0 hz1 hz2 rfl (by decide) _ i vs rfl (own_below HO.out (balloc HB4.out _)) w4.heap.size (.slice A4 o.length c4) rfl rfl (by exact cell_one_new _ _ _ 0 _ rfl) rfl (by omega) (by decide) (Nat.le_trans (Nat.le_trans Hbr.out.size HB4.out.size) (by simp)) ?_; intro A6 c6 w6 hown6 hg6 hlow6 hat6))
      have hb6 : Below w.heap.size w w6 := (Hbr.out.trans ((balloc HB4.out (.cells #[.slice A4 o.length c4] 28)).mono Hbr.out.size)).grown hg6 (Nat.le_trans (Nat.le_trans Hbr.out.size HB4.out.size) (by simp)) hlow6
      have hR4 := (HR.out.below (balloc HB4.out (.cells #[.slice A4 o.length c4] 28))).snoc (o := o) wr.heap.size Hbr.out.size rfl (HO4.out.alloc _) (fun k hk => (HO.out.lt k hk).2) (fun i' v' hv' b' hb' => HR.out.lt hv' hb')
      have hR6 := hR4.grown hg6 hat6
      rw [Htk.out] at hR6
      go_roundw
      case rel => exact ⟨i + 1, _, by omega, by go_num, hown6, hR6, hb6⟩
      case measure => simp [intOf]; omega
    · obtain rfl : i = rows.length := by omega
      rw [List.take_length] at hR
      go_wp2_with fail
      go_ret
      exact ⟨A0, c0, vs, rfl, hown, hR, hbr⟩
end Go.Proofs.Ytmodbpglopfghaa
