/- The reference's smallest tree. -/
import Derived.Test.YtmodbpglopfghaaVanI
set_option linter.unusedSimpArgs false
set_option linter.unusedVariables false
namespace Go.Proofs.Ytmodbpglopfghaa
open Go.RowKit

/-- Block g's first n cells tell which places are in. -/
def BI (g n : Nat) (I : List Nat) (W : World) : Prop := ∃ cs : Array Value, Blk W g 4 cs ∧ n ≤ cs.size ∧ ∀ i, i < n → cs[i]? = some (.bool (decide (i ∈ I)))
namespace BI
variable {g n : Nat} {I : List Nat} {W W' : World}
theorem lt (h : BI g n I W) : g < W.heap.size := by obtain ⟨cs, h1, _⟩ := h; exact h1.lt
theorem cell (h : BI g n I W) {d : Nat} (hd : d < n) : W.cell? ⟨g, d, none⟩ = some (.bool (decide (d ∈ I))) := by
  obtain ⟨cs, h1, _, h3⟩ := h
  rw [h1.cell, h3 d hd]
theorem frozen (h : BI g n I W) (d : Nat) : W.frozen? ⟨g, d, none⟩ = false := by obtain ⟨cs, h1, _⟩ := h; exact h1.frozen d
theorem drewN (h : BI g n I W) (m : Nat) : BI g n I (W.drewN m) := by
  obtain ⟨cs, h1, h2, h3⟩ := h
  exact ⟨cs, h1.drewN m, h2, h3⟩
theorem put (h : BI g n I W) (q : Nat) : BI g n (I ++ [q]) (W.setCell ⟨g, q, none⟩ (.bool true)) := by
  obtain ⟨cs, h1, h2, h3⟩ := h
  refine ⟨_, h1.put q _, by simpa using h2, fun e he => ?_⟩
  rw [Array.getElem?_setIfInBounds]
  by_cases hed : q = e
  · subst hed
    rw [if_pos rfl, if_pos (by omega)]; simp
  · rw [if_neg hed, h3 e he]
    have : ¬ e = q := fun h => hed h.symm
    simp [this]
end BI
theorem info4 : (Try.prog.info? 4).map (fun i => (i.zero, i.size, i.bytes)) = some (some (.bool false), 1, 1) := by kernel_rfl
/-- make([]bool, n). -/
theorem make_bools (n : Nat) (hn : n ≤ 1000000) : ∃ cs : Array Value, cs.size = n ∧ (∀ d, d < n → cs[d]? = some (.bool false)) ∧ ∀ w : World, (Instr.makeSlice 106 (.int .i64 (n : Int)) (.int .i64 (n : Int))).run Try.prog w = .ok (.slice (some ⟨w.heap.size, 0, none⟩) n n) (w.alloc (.cells cs 4)) := by
  obtain ⟨i0, hi, hz0, hz1, hz2⟩ := info_parts info4
  refine ⟨madeCells (Value.bool false).cells (n * i0.size), ?_, fun d hd => ?_, fun w => ?_⟩
  · rw [size_madeCells, hz1, Nat.mul_one]
  · rw [hz1]; simp [madeCells, Value.cells, hd, Nat.mod_one]
  · have hr := run_make (P := Try.prog) w 106 4 i0 _ Try.underlying106 hi hz0 .i64 .i64 n n (by omega) (by omega) (by rw [hz2]; omega) (by omega)
    simp only [Int.toNat_natCast] at hr
    exact hr
theorem BI.made {n : Nat} {cs : Array Value} (w : World) (hs : cs.size = n) (hz : ∀ d, d < n → cs[d]? = some (.bool false)) : BI w.heap.size n [] (w.alloc (.cells cs 4)) :=
  ⟨cs, Blk.new w 4 cs, by omega, fun i hi => by rw [hz i hi]; rfl⟩
theorem below_put {B : Nat} {w W : World} (h : Below B w W) {g : Nat} (hg : B ≤ g) (i : Nat) (u : Value) : Below B w (W.setCell ⟨g, i, none⟩ u) :=
  h.trans (Below.setCell (Below.refl _ _) hg u)

/-- The least way from a place that is in to one that is not, of those that were looked at. -/
def LeastG (f : Nat → Nat → Int) (n a : Nat) (I : List Nat) (i k : Nat) (best at_ : Int) : Prop :=
  (at_ = -1 ∧ best = 0 ∧ ∀ i' k', a ≤ i' → a ≤ k' → k' < n → (i' < i ∨ i' = i ∧ k' < k) → ¬ (i' ∈ I ∧ k' ∉ I)) ∨
  ∃ s t : Nat, at_ = (t : Int) ∧ s ∈ I ∧ t ∉ I ∧ a ≤ t ∧ t < n ∧ best = f s t ∧ ∀ i' k', a ≤ i' → a ≤ k' → k' < n → (i' < i ∨ i' = i ∧ k' < k) → i' ∈ I → k' ∉ I → best ≤ f i' k'
section
variable {f : Nat → Nat → Int} {n a : Nat} {I : List Nat} {i k : Nat} {best at_ : Int}
theorem LeastG.start (f : Nat → Nat → Int) (n a : Nat) (I : List Nat) : LeastG f n a I a a 0 (-1) := .inl ⟨rfl, rfl, fun i' k' h1 h2 _ h => by omega⟩
theorem LeastG.cong {i2 k2 : Nat} (h : LeastG f n a I i k best at_) (hc : ∀ i' k', a ≤ i' → a ≤ k' → k' < n → (i' < i2 ∨ i' = i2 ∧ k' < k2) → (i' < i ∨ i' = i ∧ k' < k)) : LeastG f n a I i2 k2 best at_ := by
  rcases h with ⟨h1, h2, h3⟩ | ⟨s, t, h1, h2, h3, h4, h5, h6, h7⟩
  · exact .inl ⟨h1, h2, fun i' k' g1 g2 g3 g4 => h3 i' k' g1 g2 g3 (hc i' k' g1 g2 g3 g4)⟩
  · exact .inr ⟨s, t, h1, h2, h3, h4, h5, h6, fun i' k' g1 g2 g3 g4 => h7 i' k' g1 g2 g3 (hc i' k' g1 g2 g3 g4)⟩
theorem LeastG.next (h : LeastG f n a I i n best at_) : LeastG f n a I (i + 1) a best at_ := h.cong fun i' k' h1 h2 h3 h4 => by omega
/-- No such way. -/
theorem LeastG.skip (h : LeastG f n a I i k best at_) (hn : ¬ (i ∈ I ∧ k ∉ I)) : LeastG f n a I i (k + 1) best at_ := by
  rcases h with ⟨h1, h2, h3⟩ | ⟨s, t, h1, h2, h3, h4, h5, h6, h7⟩
  · refine .inl ⟨h1, h2, fun i' k' g1 g2 g3 g4 => ?_⟩
    by_cases e : i' = i ∧ k' = k
    · obtain ⟨rfl, rfl⟩ := e; exact hn
    · exact h3 i' k' g1 g2 g3 (by omega)
  · refine .inr ⟨s, t, h1, h2, h3, h4, h5, h6, fun i' k' g1 g2 g3 g4 g5 g6 => ?_⟩
    by_cases e : i' = i ∧ k' = k
    · obtain ⟨rfl, rfl⟩ := e; exact absurd ⟨g5, g6⟩ hn
    · exact h7 i' k' g1 g2 g3 (by omega) g5 g6
theorem LeastG.take (h : LeastG f n a I i k best at_) (h1 : i ∈ I) (h2 : k ∉ I) (h3 : a ≤ k) (h4 : k < n) (hc : at_ < 0 ∨ f i k < best) : LeastG f n a I i (k + 1) (f i k) (k : Int) := by
  refine .inr ⟨i, k, rfl, h1, h2, h3, h4, rfl, fun i' k' g1 g2 g3 g4 g5 g6 => ?_⟩
  by_cases e : i' = i ∧ k' = k
  · obtain ⟨rfl, rfl⟩ := e; exact Int.le_refl _
  · rcases h with ⟨q1, q2, q3⟩ | ⟨s, t, q1, q2, q3, q4, q5, q6, q7⟩
    · exact absurd ⟨g5, g6⟩ (q3 i' k' g1 g2 g3 (by omega))
    · have := q7 i' k' g1 g2 g3 (by omega) g5 g6
      omega
theorem LeastG.leave (h : LeastG f n a I i k best at_) (h0 : 0 ≤ at_) (hc : best ≤ f i k) : LeastG f n a I i (k + 1) best at_ := by
  rcases h with ⟨q1, _⟩ | ⟨s, t, q1, q2, q3, q4, q5, q6, q7⟩
  · omega
  · refine .inr ⟨s, t, q1, q2, q3, q4, q5, q6, fun i' k' g1 g2 g3 g4 g5 g6 => ?_⟩
    by_cases e : i' = i ∧ k' = k
    · obtain ⟨rfl, rfl⟩ := e; exact hc
    · exact q7 i' k' g1 g2 g3 (by omega) g5 g6
end
theorem sub_len : ∀ (I P : List Nat), I.Nodup → (∀ x ∈ I, x ∈ P) → I.length ≤ P.length
  | [], _, _, _ => Nat.zero_le _
  | x :: I, P, hn, h => by
    have hx := h x (by simp)
    have := sub_len I (P.erase x) (List.nodup_cons.1 hn).2 fun y hy => by
      rw [List.mem_erase_of_ne (fun e => (List.nodup_cons.1 hn).1 (by rw [← e]; exact hy))]
      exact h y (by simp [hy])
    rw [List.length_erase_of_mem hx] at this
    have := List.length_pos_of_mem hx
    rw [List.length_cons]; omega
/-- The places from a on, before n. -/
def frm (a n : Nat) : List Nat := List.range' a (n - a)
theorem mem_frm {a n x : Nat} : x ∈ frm a n ↔ a ≤ x ∧ x < n := by unfold frm; rw [List.mem_range'_1]; omega
theorem frm_length (a n : Nat) : (frm a n).length = n - a := by simp [frm]
/-- A growth from place a. -/
structure GrwI (f : Nat → Nat → Int) (a n : Nat) (lo hi : Int) (I : List Nat) (S : Int) : Prop where
  gw : Gw f (fun x => x ∈ frm a n) a I S
  nd : I.Nodup
  sub : ∀ x ∈ I, x ∈ frm a n
  ne : a ∈ I
  bd : lo * ((I.length : Int) - 1) ≤ S ∧ S ≤ hi * ((I.length : Int) - 1)
theorem GrwI.start (f : Nat → Nat → Int) {a n : Nat} (lo hi : Int) (h : a < n) : GrwI f a n lo hi [a] 0 :=
  ⟨Gw.start _ _ _, by simp, fun x hx => by rw [List.mem_singleton] at hx; rw [mem_frm]; omega, by simp, by simp⟩
section
variable {f : Nat → Nat → Int} {n a : Nat} {I : List Nat} {lo hi S best at_ : Int}
theorem GrwI.step (h : GrwI f a n lo hi I S) (hb : ∀ i k, i ∈ frm a n → k ∈ frm a n → lo ≤ f i k ∧ f i k ≤ hi) (hI : I.length < n - a) (hl : LeastG f n a I n a best at_) :
    ∃ t : Nat, at_ = (t : Int) ∧ t < n ∧ GrwI f a n lo hi (I ++ [t]) (S + best) := by
  rcases hl with ⟨_, _, h3⟩ | ⟨s, t, h1, h2, h3, h4, h5, h6, h7⟩
  · exfalso
    have : ∃ x, x ∈ frm a n ∧ x ∉ I := Classical.byContradiction fun hc => by
      have hs : ∀ x ∈ frm a n, x ∈ I := fun x hx => Classical.byContradiction fun hx' => hc ⟨x, hx, hx'⟩
      have := sub_len (frm a n) I (List.nodup_range') hs
      rw [frm_length] at this
      omega
    obtain ⟨x, hx, hxI⟩ := this
    have ha := mem_frm.1 (h.sub a h.ne)
    have hx' := mem_frm.1 hx
    exact h3 a x (Nat.le_refl _) hx'.1 hx'.2 (.inl ha.2) ⟨h.ne, hxI⟩
  · have ht : t ∈ frm a n := mem_frm.2 ⟨h4, h5⟩
    refine ⟨t, h1, h5, ?_, ?_, ?_, ?_, ?_⟩
    · subst h6
      refine h.gw.step h2 (h.sub s h2) ht h3 fun i k hi hk hk' => ?_
      have hi' := mem_frm.1 (h.sub i hi)
      have hk2 := mem_frm.1 hk
      exact h7 i k hi'.1 hk2.1 hk2.2 (.inl hi'.2) hi hk'
    · exact List.nodup_append.2 ⟨h.nd, by simp, fun x hx y hy => by rw [List.mem_singleton] at hy; subst hy; exact fun e => h3 (e ▸ hx)⟩
    · intro x hx
      rcases List.mem_append.1 hx with hx | hx
      · exact h.sub x hx
      · rw [List.mem_singleton] at hx; subst hx; exact ht
    · exact List.mem_append.2 (.inl h.ne)
    · obtain ⟨b1, b2⟩ := h.bd
      have hb' := hb s t (h.sub s h2) ht
      rw [← h6] at hb'
      rw [List.length_append, List.length_singleton]
      have e : ((I.length + 1 : Nat) : Int) - 1 = ((I.length : Int) - 1) + 1 := by omega
      rw [e, Int.mul_add, Int.mul_add]
      omega
theorem GrwI.tree (h : GrwI f a n lo hi I S) (hI : I.length = n - a) : IsTree f (fun x => x ∈ frm a n) (n - a) S := by
  rw [← hI]
  refine h.gw.done (h.sub a h.ne) fun x hx => Classical.byContradiction fun hc => ?_
  have := sub_len (x :: I) (frm a n) (List.nodup_cons.2 ⟨hc, h.nd⟩) fun y hy => by
    rcases List.mem_cons.1 hy with rfl | hy
    · exact hx
    · exact h.sub y hy
  rw [frm_length, List.length_cons] at this
  omega
end
theorem GrwI.ne0 {f : Nat → Nat → Int} {n a : Nat} {I : List Nat} {lo hi S : Int} (h : GrwI f a n lo hi I S) : 1 ≤ I.length := List.length_pos_of_mem h.ne

set_option maxRecDepth 100000 in
set_option maxHeartbeats 1000000 in
theorem grown_ref (b off n c a B : Nat) (f : Nat → Nat → Int) (w : World) (lo hi : Int) (hlo : -3000 ≤ lo) (hlo0 : lo ≤ 0) (hhi : hi ≤ 3000) (hhi0 : 0 ≤ hi) (hB : B ≤ w.heap.size) (h : WaAt B w b off n f) (hn7 : n ≤ 7) (ha : a < n)
    (hb : ∀ i k, i ∈ frm a n → k ∈ frm a n → lo ≤ f i k ∧ f i k ≤ hi) :
    Calls Try.prog 56 #[.slice (some ⟨b, off, none⟩) n c, .int .i64 (a : Int)] w fun e w' => ∃ z, e = .returned (.int .i64 z) ∧ IsTree f (fun x => x ∈ frm a n) (n - a) z ∧ -18000 ≤ z ∧ z ≤ 18000 ∧ Below w.heap.size w w' := by
  obtain ⟨cs, hcs, hcz, hmk⟩ := make_bools n (by omega)
  have H := Lib.hid (h.below (Below.refl _ _) hB)
  have Hb := Lib.hid hb
  have HB1 := Lib.hid (show BI w.heap.size n [a] (w.alloc (.cells (cs.setIfInBounds a (.bool true)) 4)) from ⟨_, Blk.new w 4 _, by simp; omega, fun e he => by
    rw [Array.getElem?_setIfInBounds]
    by_cases hed : a = e
    · subst hed
      rw [if_pos rfl, if_pos (by omega)]; simp
    · rw [if_neg hed, hcz e he]
      have : ¬ e = a := fun h => hed h.symm
      simp [this]⟩)
  have Hw := Lib.hid ((Below.refl w.heap.size w).alloc (Nat.le_refl _) (.cells (cs.setIfInBounds a (.bool true)) 4))
  have hfr := (BI.made w hcs hcz).frozen a
  have hce := (BI.made w hcs hcz).cell ha
  have haI : (a : Int) < (n : Int) := by omega
  have ha0 : (0 : Int) ≤ (a : Int) := by omega
  have HG := Lib.hid (GrwI.start f lo hi ha)
  have hwa : IntKind.i64.wrap ((a : Int) + 1) = (a : Int) + 1 := IntWalk.i64_in _ (by omega)
  clear h hb hcs hcz
  go_enter Try.func56, Try.ntmps56
  go_wp2_with fail
  go_loopw [7, 8] (fun vs vt wr => ∃ (I : List Nat) (S : Int), vt = .int .i64 ((a : Int) + I.length) ∧ a + I.length ≤ n ∧ vs = .int .i64 S ∧ BI w.heap.size n I wr ∧ Aside (GrwI f a n lo hi I S) ∧ Below w.heap.size w wr) (fun _ vt _ => n - (intOf vt).toNat)
  case atStart => exact ⟨[a], 0, rfl, by simp; omega, rfl, HB1.out, HG.out, Hw.out⟩
  case round =>
    obtain ⟨I, S, rfl, hIn, rfl, hBI, hGr, hbr⟩ := hrel
    have HGr := Lib.hid hGr.out
    have HBI := Lib.hid hBI
    have HBr := Lib.hid hbr
    have HWr := Lib.hid (H.out.below hbr (Nat.le_refl _))
    clear HG HB1 Hw hGr hbr hBI hfr hce
    have hI0 := HGr.out.ne0
    have hSb := mul_bd hlo hlo0 hhi hhi0 hI0 (by omega) HGr.out.bd.1 HGr.out.bd.2
    obtain ⟨stp, hstp⟩ : ∃ stp : Nat, stp = a + I.length := ⟨_, rfl⟩
    have hs1 : (a : Int) + (I.length : Int) = (stp : Int) := by omega
    rw [hs1]
    have Hstp := Lib.hid hstp
    have Hs1 := Lib.hid hs1
    by_cases hlt : stp < n
    · have hltI : (stp : Int) < (n : Int) := by omega
      have hwst : IntKind.i64.wrap ((stp : Int) + 1) = (stp : Int) + 1 := IntWalk.i64_in _ (by omega)
      clear hs1 hstp
      go_wp2_with fail
      go_loop [9, 10, 11] (fun vb va vi => ∃ (i : Nat) (best at_ : Int), a ≤ i ∧ i ≤ n ∧ vi = .int .i64 i ∧ vb = .int .i64 best ∧ va = .int .i64 at_ ∧ Aside (LeastG f n a I i a best at_)) (fun _ _ vi => n - (intOf vi).toNat)
      case atStart => exact ⟨a, 0, -1, Nat.le_refl _, by omega, rfl, rfl, rfl, LeastG.start f n a I⟩
      case round =>
        obtain ⟨i, best, at_, hi1, hi2, rfl, rfl, rfl, hL⟩ := hrel
        have HL := Lib.hid hL.out
        clear hL
        by_cases hilt : i < n
        · have hiI : (i : Int) < (n : Int) := by omega
          go_wp2_with fail
          go_loop [9, 10, 12] (fun vb va vk => ∃ (k : Nat) (best at_ : Int), a ≤ k ∧ k ≤ n ∧ vk = .int .i64 k ∧ vb = .int .i64 best ∧ va = .int .i64 at_ ∧ Aside (LeastG f n a I i k best at_)) (fun _ _ vk => n - (intOf vk).toNat)
          case atStart => exact ⟨a, best, at_, Nat.le_refl _, by omega, rfl, rfl, rfl, HL.out⟩
          case round =>
            clear HL
            obtain ⟨k, best, at_, hk1, hk2, rfl, rfl, rfl, hL⟩ := hrel
            have HL := Lib.hid hL.out
            clear hL
            by_cases hklt : k < n
            · have hkI : (k : Int) < (n : Int) := by omega
              have y0 := HBI.out.cell hilt
              have y1 := HBI.out.cell hklt
              have i0 : (0 : Int) ≤ (i : Int) := by omega
              have k0 : (0 : Int) ≤ (k : Int) := by omega
              have Hskip := Lib.hid (fun hc => HL.out.skip hc)
              have Htake := Lib.hid (fun h1 h2 hc => HL.out.take h1 h2 hk1 hklt hc)
              have Hleave := Lib.hid (fun h1 h2 => HL.out.leave h1 h2)
              obtain ⟨b2, o2, c2, hb2, e1, f1⟩ := HWr.out.2 i hilt
              have e2 := f1 k hklt
              generalize f i k = d at e2 Htake Hleave
              clear f1
              by_cases hiIn : i ∈ I
              · rw [show decide (i ∈ I) = true from decide_eq_true hiIn] at y0
                by_cases hkIn : k ∈ I
                · rw [show decide (k ∈ I) = true from decide_eq_true hkIn] at y1
                  have HL2 := Lib.hid (Hskip.out (fun hc => hc.2 hkIn))
                  clear hiIn hkIn
                  go_wp2_with fail
                  go_round
                  case rel => exact ⟨k + 1, best, at_, by omega, by omega, by go_num, rfl, rfl, HL2.out⟩
                  case measure => simp [intOf]; omega
                · rw [show decide (k ∈ I) = false from decide_eq_false hkIn] at y1
                  have Htk := Lib.hid (Htake.out hiIn hkIn)
                  clear hiIn hkIn
                  by_cases ha : at_ < 0
                  · have hd1 : decide (at_ < 0) = true := by simpa using ha
                    have HL2 := Lib.hid (Htk.out (.inl ha))
                    clear ha
                    go_wp2_with fail
                    go_round
                    case rel => exact ⟨k + 1, d, k, by omega, by omega, by go_num, rfl, rfl, HL2.out⟩
                    case measure => simp [intOf]; omega
                  · have hd1 : decide (at_ < 0) = false := by simpa using ha
                    by_cases hlt2 : d < best
                    · have hd2 : decide (d < best) = true := by simpa using hlt2
                      have HL2 := Lib.hid (Htk.out (.inr hlt2))
                      clear ha
                      go_wp2_with fail
                      go_round
                      case rel => exact ⟨k + 1, d, k, by omega, by omega, by go_num, rfl, rfl, HL2.out⟩
                      case measure => simp [intOf]; omega
                    · have hd2 : decide (d < best) = false := by simpa using hlt2
                      have HL2 := Lib.hid (Hleave.out (by omega) (by omega))
                      clear ha hlt2
                      go_wp2_with fail
                      go_round
                      case rel => exact ⟨k + 1, best, at_, by omega, by omega, by go_num, rfl, rfl, HL2.out⟩
                      case measure => simp [intOf]; omega
              · rw [show decide (i ∈ I) = false from decide_eq_false hiIn] at y0
                have HL2 := Lib.hid (Hskip.out (fun hc => hiIn hc.1))
                clear hiIn
                go_wp2_with fail
                go_round
                case rel => exact ⟨k + 1, best, at_, by omega, by omega, by go_num, rfl, rfl, HL2.out⟩
                case measure => simp [intOf]; omega
            · obtain rfl : k = n := by omega
              have HL2 := Lib.hid HL.out.next
              go_wp2_with fail
              go_round
              case rel => exact ⟨i + 1, best, at_, by omega, by omega, by go_num, rfl, rfl, HL2.out⟩
              case measure => simp [intOf]; omega
        · obtain rfl : i = n := by omega
          obtain ⟨t, rfl, htn, hG2⟩ := HGr.out.step Hb.out (by have := Hstp.out; omega) HL.out
          have HG2 := Lib.hid hG2
          clear hG2 HL
          have hb2 := HG2.out.bd
          have hSb2 := mul_bd hlo hlo0 hhi hhi0 (m := (I ++ [t]).length) (by simp) (by have := Hstp.out; simp; omega) hb2.1 hb2.2
          have hwr : IntKind.i64.wrap (S + best) = S + best := IntWalk.i64_in _ (by omega)
          have y0 := HBI.out.cell htn
          have y1 := HBI.out.frozen t
          have htI : (t : Int) < (i : Int) := by omega
          have HB2 := Lib.hid (HBI.out.put t)
          have HBr2 := Lib.hid (below_put HBr.out (Nat.le_refl _) t (.bool true))
          clear hb2 hSb2
          go_wp2_with fail
          go_roundw
          case rel => exact ⟨I ++ [t], S + best, by have := Hs1.out; simp; omega, by have := Hstp.out; simp; omega, rfl, HB2.out, HG2.out, HBr2.out⟩
          case measure => simp [intOf]; omega
    · have hsn : stp = n := by omega
      have HT := Lib.hid (HGr.out.tree (by have := Hstp.out; omega))
      clear hs1 hstp
      subst hsn
      go_wp2_with fail
      go_ret
      exact ⟨S, rfl, HT.out, hSb.1, hSb.2, HBr.out⟩
end Go.Proofs.Ytmodbpglopfghaa
