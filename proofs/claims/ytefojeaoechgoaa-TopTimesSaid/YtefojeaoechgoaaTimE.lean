/- days: what is known of a child, day by day. -/
import Derived.Test.YtefojeaoechgoaaTimD
namespace Go.Proofs.Ytefojeaoechgoaa
open Go.RowKit

/-- Block g holds a meal for each day. -/
def DB (g : Nat) (fn : Nat → Int) (W : World) : Prop := ∃ cs : Array Value, Blk W g 3 cs ∧ cs.size = 1000 ∧ ∀ d, d < 1000 → cs[d]? = some (.int .i64 (fn d))
namespace DB
variable {g : Nat} {fn fn' : Nat → Int} {W W' : World}
theorem congr (h : DB g fn W) (e : ∀ d, d < 1000 → fn d = fn' d) : DB g fn' W := by
  obtain ⟨cs, h1, h2, h3⟩ := h
  exact ⟨cs, h1, h2, fun d hd => by rw [h3 d hd, e d hd]⟩
theorem lt (h : DB g fn W) : g < W.heap.size := by obtain ⟨cs, h1, _⟩ := h; exact h1.lt
theorem cell (h : DB g fn W) {d : Nat} (hd : d < 1000) : W.cell? ⟨g, d, none⟩ = some (.int .i64 (fn d)) := by
  obtain ⟨cs, h1, _, h3⟩ := h
  rw [h1.cell, h3 d hd]
theorem frozen (h : DB g fn W) (d : Nat) : W.frozen? ⟨g, d, none⟩ = false := by obtain ⟨cs, h1, _⟩ := h; exact h1.frozen d
theorem below (h : DB g fn W) (hb : Below W.heap.size W W') : DB g fn W' := by
  obtain ⟨cs, h1, h2, h3⟩ := h
  exact ⟨cs, h1.below hb h1.lt, h2, h3⟩
theorem alloc (h : DB g fn W) (o : Obj) : DB g fn (W.alloc o) := by
  obtain ⟨cs, h1, h2, h3⟩ := h
  exact ⟨cs, h1.alloc o, h2, h3⟩
theorem put (h : DB g fn W) {d : Nat} (hd : d < 1000) (v : Int) : DB g (fun e => if e = d then v else fn e) (W.setCell ⟨g, d, none⟩ (.int .i64 v)) := by
  obtain ⟨cs, h1, h2, h3⟩ := h
  refine ⟨_, h1.put d _, by simpa using h2, fun e he => ?_⟩
  rw [Array.getElem?_setIfInBounds]
  by_cases hed : d = e
  · subst hed; simp [h2, hd]
  · rw [if_neg hed, h3 e he]
    simp [Ne.symm hed]
end DB
theorem info3 : (Try.prog.info? 3).map (fun i => (i.zero, i.size, i.bytes)) = some (some (.int .i64 0), 1, 8) := by kernel_rfl
/-- make([]int, 1000). -/
theorem make_days : ∃ cs : Array Value, cs.size = 1000 ∧ (∀ d, d < 1000 → cs[d]? = some (.int .i64 0)) ∧ ∀ w : World, (Instr.makeSlice 52 (.int .i64 1000) (.int .i64 1000)).run Try.prog w = .ok (.slice (some ⟨w.heap.size, 0, none⟩) 1000 1000) (w.alloc (.cells cs 3)) := by
  obtain ⟨i0, hi, hz0, hz1, hz2⟩ := info_parts info3
  refine ⟨madeCells (Value.int .i64 0).cells (1000 * i0.size), ?_, fun d hd => ?_, fun w => ?_⟩
  · rw [size_madeCells, hz1]
  · rw [hz1]; simp [madeCells, Value.cells, hd, Nat.mod_one]
  · have hr := run_make (P := Try.prog) w 52 3 i0 _ Try.underlying52 hi hz0 .i64 .i64 1000 1000 (by decide) (by decide) (by rw [hz2]; decide) (by decide)
    exact hr
theorem take_meal {u : List Fc} {k : Nat} (hk : k < u.length) (ch d : Int) : mealOf (u.take (k + 1)) ch d = if cov u[k] ch d then u[k].m else mealOf (u.take k) ch d := by
  rw [List.take_succ_eq_append_getElem hk, mealOf_snoc]

set_option maxRecDepth 100000 in
set_option maxHeartbeats 1000000 in
theorem days_any (A : Option Addr) (c B : Nat) (l : List Fc) (at_ ch : Int) (w : World) (hB : B ≤ w.heap.size) (h : FactsAt B w A l) (hok : Ok l) (hc : l.length ≤ c) (hc2 : c ≤ maxLen) :
    Calls Try.prog 21 #[.slice A l.length c, .int .i64 at_, .int .i64 ch] w fun e w' => e = .returned (.slice (some ⟨w.heap.size, 0, none⟩) 1000 1000) ∧ DB w.heap.size (fun d => mealOf (unt l at_) ch d) w' ∧ Below w.heap.size w w' := by
  have h60 := hok.1
  have hI := RecAt.below h (Below.refl _ _) hB
  have cu := Lib.hid (fun W (hW : Below w.heap.size w W) => until_any A c w.heap.size l at_ W hW.size (RecAt.below hI hW (Nat.le_refl _)) hok hc hc2)
  have hn := cnt_le l at_
  have hU := unt_at hI at_
  have hul := unt_length l at_
  have hoku : Ok (unt l at_) := hok.take _
  generalize cnt l at_ = n at cu hn hul
  generalize unt l at_ = u at hU hul hoku ⊢
  subst hul
  clear h hI hok
  obtain ⟨cs0, hs0, hz0, mk⟩ := make_days
  have hw0 : Below w.heap.size w (w.alloc (.cells cs0 3)) := (Below.refl _ _).alloc (Nat.le_refl _) _
  have hD0 : DB w.heap.size (fun d => mealOf (u.take 0) ch d) (w.alloc (.cells cs0 3)) := ⟨cs0, Blk.new _ _ _, hs0, fun d hd => by rw [hz0 d hd]; rfl⟩
  have HD0 := Lib.hid hD0
  clear hD0 hz0 hs0
  go_enter Try.func21, Try.ntmps21
  go_wp2_with (go_at_call 19; refine (cu.out _ hw0).mono ?_; rintro e w1 ⟨rfl, hd⟩; have hb1 := hw0.trans (hd.mono hw0.size); have HD1 := HD0.out.below hd)
  clear cu mk
  go_loopw [16] (fun i wr => ∃ k : Nat, k ≤ u.length ∧ i = .int .i64 k ∧ DB w.heap.size (fun d => mealOf (u.take k) ch d) wr ∧ Below w.heap.size w wr) (fun i _ => u.length - (intOf i).toNat)
  case atStart => exact ⟨0, Nat.zero_le _, rfl, HD1, hb1⟩
  case round =>
    obtain ⟨k, hk, rfl, hD, hb⟩ := hrel
    obtain ⟨wo, rfl⟩ : ∃ wo : World, wo = wr := ⟨_, rfl⟩
    by_cases hlt : k < u.length
    · obtain ⟨b, off, rfl, hbB, c0, c1, c2, c3, c4⟩ := hU.at hlt
      have d0 := (hb.cell (p := ⟨b, off + k * 5, none⟩) (by simp; omega)).trans c0
      have d1 := (hb.cell (p := ⟨b, off + k * 5 + 1, none⟩) (by simp; omega)).trans c1
      have d2 := (hb.cell (p := ⟨b, off + k * 5 + 2, none⟩) (by simp; omega)).trans c2
      have d3 := (hb.cell (p := ⟨b, off + k * 5 + 3, none⟩) (by simp; omega)).trans c3
      have d4 := (hb.cell (p := ⟨b, off + k * 5 + 4, none⟩) (by simp; omega)).trans c4
      have hto := okF_iff (hoku.ok hlt)
      have Ht := Lib.hid (fun d => take_meal hlt ch d)
      have HD := Lib.hid hD
      have HK := Lib.hid (Blk.new wo 24 #[.int .i64 u[k].a, .int .i64 u[k].c, .int .i64 u[k].f, .int .i64 u[k].t, .int .i64 u[k].m])
      clear c0 c1 c2 c3 c4 hD
      by_cases hcc : u[k].c = ch
      · have hcb : (u[k].c == ch) = true := by simpa using hcc
        have Hcc := Lib.hid hcc
        clear hcc
        go_wp2_with fail
        go_loopw [10] (fun dd wr => ∃ e : Nat, u[k].f ≤ (e : Int) ∧ (e : Int) ≤ u[k].t ∧ dd = .int .i64 e ∧ DB w.heap.size (fun d => if u[k].f ≤ (d : Int) ∧ (d : Int) < (e : Int) then u[k].m else mealOf (u.take k) ch d) wr ∧ Blk wr wo.heap.size 24 #[.int .i64 u[k].a, .int .i64 u[k].c, .int .i64 u[k].f, .int .i64 u[k].t, .int .i64 u[k].m] ∧ Below w.heap.size w wr) (fun dd _ => (u[k].t - intOf dd).toNat)
        case atStart => exact ⟨u[k].f.toNat, by omega, by omega, by rw [Int.toNat_of_nonneg (by omega)], (HD.out.alloc _).congr (fun d _ => by rw [if_neg (by omega)]), HK.out, hb.alloc hb.size _⟩
        case round =>
          obtain ⟨e, he1, he2, rfl, hD2, hblk, hb2⟩ := hrel
          obtain ⟨y0, y1, y2, y3, y4, _⟩ := blk5 hblk
          by_cases hlt2 : (e : Int) < u[k].t
          · have he3 : e < 1000 := by omega
            have q0 := hD2.cell he3
            have q1 := hD2.frozen e
            have HD2 := Lib.hid (hD2.put he3 u[k].m)
            have HK2 := Lib.hid hblk
            have hne : wo.heap.size ≠ w.heap.size := by have := HD.out.lt; omega
            clear hD2 hblk
            go_wp2_with fail
            go_roundw
            case rel =>
              refine ⟨e + 1, by omega, by omega, by go_num, HD2.out.congr (fun d hd => ?_), HK2.out.far hne _, hb2.trans ((((Only.refl _ _).put _ _)).below (Nat.le_refl _) hb2.size)⟩
              by_cases hde : d = e
              · subst hde; rw [if_pos rfl, if_pos (by omega)]
              · rw [if_neg hde]
                by_cases hin : u[k].f ≤ (d : Int) ∧ (d : Int) < (e : Int)
                · rw [if_pos hin, if_pos (by omega)]
                · rw [if_neg hin, if_neg (by omega)]
            case measure => simp [intOf]; omega
          · obtain hee : (e : Int) = u[k].t := by omega
            have HD2 := Lib.hid hD2
            have He := Lib.hid hee
            clear hD2 hee
            go_wp2_with fail
            go_roundw
            case rel =>
              refine ⟨k + 1, by omega, by go_num, HD2.out.congr (fun d hd => ?_), hb2⟩
              have h1 := He.out
              rw [Ht.out]
              by_cases hin : u[k].f ≤ (d : Int) ∧ (d : Int) < (e : Int)
              · rw [if_pos hin, if_pos (by simp only [cov, decide_eq_true_eq]; exact ⟨Hcc.out, hin.1, by omega⟩)]
              · rw [if_neg hin, if_neg (by simp only [cov, decide_eq_true_eq]; omega)]
            case measure => simp [intOf]; omega
      · have hcb : (u[k].c == ch) = false := by simpa using hcc
        have Hcc := Lib.hid hcc
        clear hcc
        go_wp2_with fail
        go_roundw
        case rel => exact ⟨k + 1, by omega, by go_num, (HD.out.alloc _).congr (fun d _ => by rw [Ht.out, if_neg (by simp [cov, Hcc.out])]), hb.alloc hb.size _⟩
        case measure => simp [intOf]; omega
    · obtain rfl : k = u.length := by omega
      rw [List.take_length] at hD
      go_wp2_with fail
      go_ret
      exact ⟨rfl, hD, hb⟩
end Go.Proofs.Ytefojeaoechgoaa
