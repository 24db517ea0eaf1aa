/- VanLengths: the call returns true. -/
import Derived.Test.YtmodbpglopfghaaVanAb
import Derived.Test.YtmodbpglopfghaaVanT
set_option linter.unusedSimpArgs false
set_option linter.unusedVariables false
namespace Go.Proofs.Ytmodbpglopfghaa
open Go.RowKit

theorem tu_rev (n : Nat) (t : List Int) : tuR n t.reverse = tuR n t := by
  unfold tuR
  have h1 : (∀ x ∈ t.reverse, 1 ≤ x ∧ x < (n : Int)) ↔ ∀ x ∈ t, 1 ≤ x ∧ x < (n : Int) := by simp
  have h2 : t.reverse.Nodup ↔ t.Nodup := (List.reverse_perm t).nodup_iff
  by_cases h : ∀ x ∈ t, 1 ≤ x ∧ x < (n : Int)
  · rw [if_pos h, if_pos (h1.2 h)]
    by_cases h' : t.Nodup
    · rw [if_pos h', if_pos (h2.2 h')]
    · rw [if_neg h', if_neg (fun e => h' (h2.1 e))]
  · rw [if_neg h, if_neg (fun e => h (h1.1 e))]
theorem td_rev (rows : List (List Int)) (t : List Int) : tdR rows t.reverse = tdR rows t := by
  by_cases hv : VW rows
  · rw [td_vw _ hv, td_vw _ hv, tu_rev]
  · rw [td_bad _ hv, td_bad _ hv]
theorem pl_len {n : Nat} {f : Nat → Nat → Int} (hs : ∀ i k, i < n → k < n → f i k = f k i) (hn : 1 ≤ n) : ∀ (r : List Nat) (l : Nat), (∀ x ∈ l :: r, x < n) → pl f (l :: r) = lenF f l r
  | [], l, h => hs 0 l hn (h l (by simp))
  | b :: r, l, h => by
    have := pl_len hs hn r b fun x hx => h x (List.mem_cons_of_mem _ hx)
    show pl f (b :: r) + f b l = f l b + lenF f b r
    rw [this, hs b l (h b (by simp)) (h l (by simp))]; omega
theorem len_reverse {n : Nat} {f : Nat → Nat → Int} (hs : ∀ i k, i < n → k < n → f i k = f k i) (hn : 1 ≤ n) (t : List Nat) (h : ∀ x ∈ t, x < n) : lenF f 0 t.reverse = lenF f 0 t := by
  cases t with
  | nil => rfl
  | cons l r =>
    rw [len_rev', pl_len hs hn r l h]
    show lenF f l r + f l 0 = f 0 l + lenF f l r
    rw [hs l 0 (h l (by simp)) hn]; omega
theorem ln_rev (rows : List (List Int)) (t : List Int) : lnR rows t.reverse = lnR rows t := by
  unfold lnR
  rw [td_rev]
  by_cases h0 : tdR rows t = 0
  · rw [if_pos h0, if_pos h0]
    obtain ⟨hv, hu⟩ := td_zero h0
    have e : toN t.reverse = (toN t).reverse := by simp [toN]
    rw [e]
    exact len_reverse hv.sym hv.n0 _ fun x hx => ((tu_stp hu).2.2 x hx).2
  · rw [if_neg h0, if_neg h0]
theorem rev_take {t : List Int} {q : Nat} (hq : q < t.length) : t.reverse.take (t.length - q) = t.reverse.take (t.length - (q + 1)) ++ [t[q]] := by
  have h1 : t.length - q = (t.length - (q + 1)) + 1 := by omega
  rw [h1, List.take_succ_eq_append_getElem (by simp; omega)]
  congr 2
  rw [List.getElem_reverse]
  congr 1
  omega

set_option maxRecDepth 100000 in
set_option maxHeartbeats 1000000 in
theorem lengths_law (A A' : Option Addr) (c c' : Nat) (rows : List (List Int)) (p : List Int) (w : World) (h : TblAt w.heap.size w A rows) (h' : IntsAt w.heap.size w A' p) (hcap : p.length ≤ c') :
    Calls Try.prog 7 #[.slice A rows.length c, .slice A' p.length c'] w fun e w' => e = .returned (.bool true) ∧ Below w.heap.size w w' := by
  have cl := Lib.hid (Large_any A c w.heap.size rows w h)
  have cg := Lib.hid (long_any A' p.length c' w)
  have hB0 := Below.refl w.heap.size w
  rcases lg2 (lgW rows) (decide (60 < (p.length : Int))) with hlg | ⟨hlg, hlo⟩ | ⟨hlg, hlo⟩
  · rw [hlg] at cl
    clear h h' hlg
    go_enter Try.func7, Try.ntmps7
    go_wp2_with (first | (go_at_call 17; refine cl.out.mono ?_; rintro e w1 ⟨rfl, hw1⟩; obtain rfl := hw1.symm; clear hw1) | (go_at_call 18; refine (known_any _).mono ?_; rintro e w5 ⟨rfl, hb5⟩))
    go_ret
    exact ⟨rfl, hb5⟩
  · rw [hlg] at cl
    rw [hlo] at cg
    clear h h' hlg hlo
    go_enter Try.func7, Try.ntmps7
    go_wp2_with (first | (go_at_call 17; refine cl.out.mono ?_; rintro e w1 ⟨rfl, hw1⟩; obtain rfl := hw1.symm; clear hw1) | (go_at_call 22; refine cg.out.mono ?_; rintro e w1 ⟨rfl, rfl⟩) | (go_at_call 18; refine (known_any _).mono ?_; rintro e w5 ⟨rfl, hb5⟩))
    go_ret
    exact ⟨rfl, hb5⟩
  · rw [hlg] at cl
    rw [hlo] at cg
    have hl := lgW_small hlg
    have hm : p.length ≤ 60 := by simp at hlo; omega
    have ca := Lib.hid (fun W (hW : Below w.heap.size w W) (A2 : Option Addr) (c2 : Nat) (t : List Int) (hI : IntsAt W.heap.size W A2 t) (ht : t.length ≤ 60) (hc : t.length ≤ c2) => Length_any A A2 c c2 W.heap.size rows t W (h.below hW hW.size) hl.2 hI (by omega) hc)
    have cr := Lib.hid (fun W (hW : Below w.heap.size w W) => Length_ref A A' c c' w.heap.size rows p W hW.size (h.below hW (Nat.le_refl _)) hl (h'.below hW (Nat.le_refl _)) (by omega))
    have cva := Lib.hid (fun W (hW : Below w.heap.size w W) => Validate_any A c w.heap.size rows W (h.below hW (Nat.le_refl _)) hl.2)
    have cvr := Lib.hid (fun W (hW : Below w.heap.size w W) => Validate_ref A c w.heap.size rows W hW.size (h.below hW (Nat.le_refl _)) hl)
    have H' := Lib.hid h'
    have HT := Lib.hid (td_rev rows p)
    have HN := Lib.hid (ln_rev rows p)
    obtain ⟨j0, hj, hy0, hy1, hy2⟩ := info_parts info3
    have ca0 := Lib.hid (ca.out w hB0 A' c' p h' hm hcap)
    clear h h' hlg hl hlo
    have tok := Lib.hid (Nat.le_refl 0)
    generalize hE : tdR rows p = E at ca0 cr HT
    generalize hL : lnR rows p = L at ca0 cr HN
    generalize hV : vwR rows = V at cva cvr
    clear hE hL hV
    go_enter Try.func7, Try.ntmps7
    go_wp2_with (first
      | (go_at_call 17; refine cl.out.mono ?_; rintro e w1 ⟨rfl, hw1⟩; obtain rfl := hw1.symm; clear hw1)
      | (go_at_call 22; refine cg.out.mono ?_; rintro e w1 ⟨rfl, rfl⟩)
      | (go_at_call 29; have tk := tok; clear tok; refine ca0.out.mono ?_; rintro e w1 ⟨rfl, rfl⟩)
      | (go_at_call 28; refine (cr.out _ hB0).mono ?_; rintro e w2 ⟨rfl, hb2⟩; have hB2 := hB0.trans (hb2.mono hB0.size))
      | (go_at_call 30; refine (cva.out _ hB2).mono ?_; rintro e w3 ⟨rfl, hw1⟩; obtain rfl := hw1.symm; clear hw1)
      | (go_at_call 31; refine (cvr.out _ hB2).mono ?_; rintro e w4 ⟨rfl, hb4⟩; have hB4 := hB2.trans (hb4.mono hB2.size)))
    have HB4 := Lib.hid hB4
    have hwl : IntKind.i64.wrap ((p.length : Int) - 1) = (p.length : Int) - 1 := IntWalk.i64_in _ (by omega)
    clear hB4 hB2 hb4 hb2
    go_wp2_with fail
    obtain ⟨ws, rfl⟩ : ∃ ws : World, ws = w4 := ⟨_, rfl⟩
    go_loopw [9, 10] (fun vo vi wr => ∃ m : Nat, m ≤ p.length ∧ vi = .int .i64 ((m : Int) - 1) ∧ wr.ownsRow ws.heap.size 3 1 vo (p.length - m) ((p.reverse.take (p.length - m)).map (Value.int .i64)) ∧ Below ws.heap.size ws wr) (fun _ vi _ => (intOf vi + 1).toNat)
    case atStart => exact ⟨p.length, Nat.le_refl _, rfl, by rw [Nat.sub_self]; exact World.ownsRow_nil _ _ _ _, Below.refl _ _⟩
    case round =>
      obtain ⟨m, hmp, rfl, hown, hbr⟩ := hrel
      have HO := Lib.hid hown
      have HBr := Lib.hid hbr
      clear hown hbr
      cases m with
      | zero =>
        have hz : ((0 : Nat) : Int) - 1 = -1 := rfl
        rw [hz]
        have hO := HO.out
        rw [Nat.sub_zero, List.take_of_length_le (by simp)] at hO
        obtain ⟨A3, c3, rfl⟩ := own_form hO
        have hc3 := (own_caps hO).1
        have hI3 : IntsAt wr.heap.size wr A3 p.reverse := IntsAt.of_own (by rw [List.length_reverse]; exact hO)
        have hBr := HB4.out.trans (HBr.out.mono HB4.out.size)
        have ca3 := ca.out wr hBr A3 c3 p.reverse hI3 (by rw [List.length_reverse]; exact hm) (by rw [List.length_reverse]; exact hc3)
        rw [HT.out, HN.out, List.length_reverse] at ca3
        have CA3 := Lib.hid ca3
        have HBr2 := Lib.hid hBr
        clear hO hI3 ca3 hBr hc3
        go_wp2_with (first
          | (go_at_call 29; refine CA3.out.mono ?_; rintro e w6 ⟨rfl, rfl⟩)
          | (go_at_call 18; refine (known_any _).mono ?_; rintro e w7 ⟨rfl, hb7⟩))
        go_ret
        exact ⟨rfl, HBr2.out.trans (hb7.mono HBr2.out.size)⟩
      | succ q =>
        have hz : ((q + 1 : Nat) : Int) - 1 = (q : Int) := by omega
        rw [hz]
        obtain ⟨b1, o1, rfl, hb1, y0⟩ := (H'.out.below (HB4.out.trans (HBr.out.mono HB4.out.size)) (Nat.le_refl _)).at (k := q) (by omega)
        have hr := rev_take (t := p) (q := q) (by omega)
        have HR := Lib.hid (show (p.reverse.take (p.length - q)).map (Value.int .i64) = (p.reverse.take (p.length - (q + 1))).map (Value.int .i64) ++ [.int .i64 p[q]] by rw [hr]; simp)
        have hl1 : p.length - q = (p.length - (q + 1)) + 1 := by omega
        have HL1 := Lib.hid hl1
        generalize p[q] = x at y0 HR
        have hqI : (q : Int) < (p.length : Int) := by omega
        have hwq : IntKind.i64.wrap ((q : Int) - 1) = (q : Int) - 1 := IntWalk.i64_in _ (by omega)
        clear hr hl1 hz
        go_wp2_with (at_builtin; refine wpList_append_own _ rfl _ _ 28 rfl ws.heap.size 3 j0 _ 1 8 Try.underlying28 hj hy0 hy1 hy2 rfl (by decide) _ _ _ rfl (HO.out.alloc _) ⟨wr.heap.size, 0, none⟩ 1 1 _ rfl rfl (cell_one_new _ _ _) (by simp [Value.oneCell']) (by simp only [maxLen]; omega) (by omega) (HBr.out.alloc HBr.out.size _).size ?_; intro v' w7 hown7 hg7 _)
        have b7 : Below ws.heap.size ws w7 := (HBr.out.alloc HBr.out.size _).grown hg7 (HBr.out.alloc HBr.out.size _).size (fun x hx => (HO.out.lt x hx).1)
        go_roundw
        case rel => exact ⟨q, by omega, rfl, by rw [HL1.out] at HR ⊢; rw [HR.out]; exact hown7, b7⟩
        case measure => simp [intOf]
end Go.Proofs.Ytmodbpglopfghaa
