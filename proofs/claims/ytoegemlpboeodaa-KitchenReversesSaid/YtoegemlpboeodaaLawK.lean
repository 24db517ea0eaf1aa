/- KitchenReverses: the call returns true. -/
import Derived.Test.YtoegemlpboeodaaKitM
import Derived.Test.YtoegemlpboeodaaApp3
namespace Go.Proofs.Ytoegemlpboeodaa
open Go.RowKit

theorem rev_succ {o : List Int} {j m : Nat} (hm : m < o.length) (hj : m + 1 + j = o.length) : (o.reverse.take (j + 1)).map (Value.int .i64) = (o.reverse.take j).map (Value.int .i64) ++ [.int .i64 o[m]] := by
  rw [List.take_succ_eq_append_getElem (by simp; omega), List.map_append, List.getElem_reverse]
  simp only [List.map_cons, List.map_nil]
  congr 3
  have : o.length - 1 - j = m := by omega
  simp only [this]

set_option maxRecDepth 100000 in
set_option maxHeartbeats 1000000 in
theorem rev_long (A A' : Option Addr) (c c' n m : Nat) (w : World) (hm : n ≤ maxLen) (hm' : m ≤ maxLen) (hlong : longB n m = true) :
    Calls Try.prog 14 #[.slice A n c, .slice A' m c'] w fun e w' => e = .returned (.bool true) ∧ Below w.heap.size w w' := by
  have cl := Lib.hid (long_any A A' c c' n m w hm hm')
  rw [hlong] at cl
  clear hlong
  go_enter Try.func14, Try.ntmps14
  go_wp2_with (first | (go_at_call 24; refine cl.out.mono ?_; rintro e w1 ⟨rfl, rfl⟩) | (go_at_call 18; refine (known_any _).mono ?_; rintro e w5 ⟨rfl, hb5⟩))
  go_ret
  exact ⟨rfl, hb5⟩

set_option maxRecDepth 100000 in
set_option maxHeartbeats 1000000 in
theorem rev_bad (A A' : Option Addr) (c c' : Nat) (l : List Bt) (o : List Int) (w : World) (h : PairsAt w.heap.size w A l) (hm : l.length ≤ 100) (hm' : o.length ≤ 100) (hv : ¬ valB l = 0) :
    Calls Try.prog 14 #[.slice A l.length c, .slice A' o.length c'] w fun e w' => e = .returned (.bool true) ∧ Below w.heap.size w w' := by
  have cl := Lib.hid (long_any A A' c c' l.length o.length w (by simp only [maxLen]; omega) (by simp only [maxLen]; omega))
  rw [show longB l.length o.length = false by simp [longB]; omega] at cl
  have c47 := Lib.hid (fun A9 c9 W hW => Reverse_bad A9 c9 (World.heap W).size l W (Nat.le_refl _) hW (by omega) hv)
  have c48 := Lib.hid (fun W (hW : Below w.heap.size w W) => Reverse_ref_bad A c w.heap.size l W (h.below (B' := w.heap.size) hW (Nat.le_refl _)) (by omega) hv)
  have c49 := Lib.hid (fun A9 c9 W (hW : Below w.heap.size w W) hI => same_eq A9 A c9 c (World.heap W).size l W hI (h.below (B' := (World.heap W).size) hW hW.size) (by omega))
  have n49 := Lib.hid (fun W => same_eq none none 0 0 0 [] W (ElsAt.nil _ _ _ _ _) (ElsAt.nil _ _ _ _ _) (by simp))
  have hne : (valB l == 0) = false := by simpa using hv
  have hne2 : (valB l != 0) = true := by simpa using hv
  generalize valB l = v at c47 c48 hne hne2 hv
  have H := Lib.hid h
  obtain ⟨i0, hi, hz0, hz1, hz2⟩ := info_parts info30
  clear h
  simp only [List.length_nil] at n49
  go_enter Try.func14, Try.ntmps14
  go_wp2_with (first
    | (go_at_call 24; refine cl.out.mono ?_; rintro e w1 ⟨rfl, rfl⟩)
    | (at_builtin; refine wpList_app _ rfl (.tmp 24) (.tmp 25) 33 rfl w.heap.size 30 i0 _ 2 16 Try.underlying33 hi hz0 hz1 hz2 rfl (by decide) (.slice (some ⟨_, 0, none⟩) 0 0) 0 [] rfl (own_new 2 (Nat.le_refl _)) A l.length c (flat2 l) rfl (flat2_length l) H.out.none_nil (PairsAt.news (H.out.below ((Below.refl _ _).alloc (Nat.le_refl _) _) (Nat.le_refl _))) (flat2_one l) (by omega) (by decide) (by simp) l.length (by omega) (flat2 l) rfl ?_; intro A4 c4 w4 hown4 hg4 hlow4; have hb4 : Below w.heap.size w w4 := bgrown ((Below.refl _ _).alloc (Nat.le_refl _) _) hg4 hlow4; have HP := Lib.hid (PairsAt.of_own hown4))
    | (go_at_call 47; refine (c47.out _ _ _ HP.out).mono ?_; rintro e w5 ⟨rfl, hd⟩; have hb5 := hb4.trans (hd.mono hb4.size); have HP5 := Lib.hid (HP.out.below hd hd.size); clear hd)
    | (go_at_call 48; refine (c48.out _ hb5).mono ?_; rintro e w6 ⟨rfl, rfl⟩; have tok := HP)
    | (go_at_call 49; have tk := tok; clear tok; refine (n49.out _).mono ?_; rintro e w7 ⟨rfl, hd⟩; have hb7 := hb5.trans (hd.mono hb5.size); have HP7 := Lib.hid (HP5.out.below hd hd.size); clear hd)
    | (go_at_call 49; refine (c49.out _ _ _ hb7 HP7.out).mono ?_; rintro e w8 ⟨rfl, hd⟩; have hb8 := hb7.trans (hd.mono hb7.size); clear hd)
    | (go_at_call 18; refine (known_any _).mono ?_; rintro e w9 ⟨rfl, hb9⟩))
  go_ret
  exact ⟨rfl, hb8.trans (hb9.mono hb8.size)⟩
set_option maxRecDepth 100000 in
set_option maxHeartbeats 1000000 in
theorem rev_good (A A' : Option Addr) (c c' : Nat) (l : List Bt) (o : List Int) (w : World) (h : PairsAt w.heap.size w A l) (h' : IntsAt w.heap.size w A' o) (hm' : o.length ≤ 100) (hv : valB l = 0) :
    Calls Try.prog 14 #[.slice A l.length c, .slice A' o.length c'] w fun e w' => e = .returned (.bool true) ∧ Below w.heap.size w w' := by
  have h7 := (valB_zero hv).1
  have cl := Lib.hid (long_any A A' c c' l.length o.length w (by simp only [maxLen]; omega) (by simp only [maxLen]; omega))
  rw [show longB l.length o.length = false by simp [longB]; omega] at cl
  have c47 := Lib.hid (fun A9 c9 W hW => Reverse_any A9 c9 (World.heap W).size l W (Nat.le_refl _) hW hv)
  have c48 := Lib.hid (fun W (hW : Below w.heap.size w W) => Reverse_ref A c w.heap.size l W hW.size (h.below (B' := w.heap.size) hW (Nat.le_refl _)) hv)
  have c49 := Lib.hid (fun A9 c9 W (hW : Below w.heap.size w W) hI => same_eq A9 A c9 c (World.heap W).size l W hI (h.below (B' := (World.heap W).size) hW hW.size) (by omega))
  have r49 : ∀ A9 A8 c9 c8 (W : World), PairsAt W.heap.size W A9 (rvB l) → PairsAt W.heap.size W A8 (rvB l) → Calls Try.prog 49 #[.slice A9 l.length c9, .slice A8 l.length c8] W fun e w' => e = .returned (.bool true) ∧ Below W.heap.size W w' := fun A9 A8 c9 c8 W h1 h2 => by
    have := same_eq A9 A8 c9 c8 _ (rvB l) W h1 h2 (by rw [rvB_length]; omega)
    rw [rvB_length] at this
    exact this
  have n49 := Lib.hid r49
  have c44 := Lib.hid (fun W hW => Least_any A c w.heap.size l W (Below.size hW) (h.below (B' := w.heap.size) hW (Nat.le_refl _)) (by omega))
  have r44 : ∀ A9 c9 (W : World), PairsAt W.heap.size W A9 (rvB l) → Calls Try.prog 44 #[.slice A9 l.length c9] W fun e w' => e = .returned (.tuple #[.int .i64 (leastR l), .int .i64 (valB l)]) ∧ Below W.heap.size W w' := fun A9 c9 W h1 => by
    have := Least_any A9 c9 _ (rvB l) W (Nat.le_refl _) h1 (by rw [rvB_length]; omega)
    rw [rvB_length, leastR_rv, valB_rv] at this
    exact this
  have d44 := Lib.hid r44
  have c27 := Lib.hid (fun W hW => Time_any A A' c c' w.heap.size l o W (Below.size hW) (h.below (B' := w.heap.size) hW (Nat.le_refl _)) (h'.below (B' := w.heap.size) hW (Nat.le_refl _)) (by omega) (by omega))
  have r27 : ∀ A9 A8 c9 c8 (W : World), PairsAt W.heap.size W A9 (rvB l) → IntsAt W.heap.size W A8 o.reverse → Calls Try.prog 27 #[.slice A9 l.length c9, .slice A8 o.length c8] W fun e w' => e = .returned (.tuple #[.int .i64 (timeR l o), .int .i64 (exB l o)]) ∧ Below W.heap.size W w' := fun A9 A8 c9 c8 W h1 h2 => by
    have := Time_any A9 A8 c9 c8 _ (rvB l) o.reverse W (Nat.le_refl _) h1 h2 (by rw [rvB_length]; omega) (by rw [List.length_reverse]; omega)
    rw [rvB_length, List.length_reverse, timeR_rv, exB_rv] at this
    exact this
  have d27 := Lib.hid r27
  rw [hv] at c44 d44
  have H := Lib.hid h
  have H' := Lib.hid h'
  obtain ⟨i0, hi, hz0, hz1, hz2⟩ := info_parts info30
  obtain ⟨j0, hj, hy0, hy1, hy2⟩ := info_parts info3
  generalize leastR l = ln at c44 d44
  generalize timeR l o = tn at c27 d27
  generalize exB l o = en at c27 d27
  clear h h' hv r49 r44 r27
  go_enter Try.func14, Try.ntmps14
  go_wp2_with (first
    | (go_at_call 24; refine cl.out.mono ?_; rintro e w1 ⟨rfl, rfl⟩)
    | (at_builtin; refine wpList_app _ rfl (.tmp 24) (.tmp 25) 33 rfl w.heap.size 30 i0 _ 2 16 Try.underlying33 hi hz0 hz1 hz2 rfl (by decide) (.slice (some ⟨_, 0, none⟩) 0 0) 0 [] rfl (own_new 2 (Nat.le_refl _)) A l.length c (flat2 l) rfl (flat2_length l) H.out.none_nil (PairsAt.news (H.out.below ((Below.refl _ _).alloc (Nat.le_refl _) _) (Nat.le_refl _))) (flat2_one l) (by omega) (by decide) (by simp) l.length (by omega) (flat2 l) rfl ?_; intro A4 c4 w4 hown4 hg4 hlow4; have hb4 : Below w.heap.size w w4 := bgrown ((Below.refl _ _).alloc (Nat.le_refl _) _) hg4 hlow4; have HP := Lib.hid (PairsAt.of_own hown4))
    | (go_at_call 47; refine (c47.out _ _ _ HP.out).mono ?_; rintro e w5 ⟨C5, d5, rfl, hR5, hd⟩; have hb5 := hb4.trans (hd.mono hb4.size); have HP5 := Lib.hid (HP.out.below hd hd.size); clear hd)
    | (go_at_call 48; refine (c48.out _ hb5).mono ?_; rintro e w6 ⟨C6, d6, rfl, hR6, hd⟩; have hb6 := hb5.trans (hd.mono hb5.size); have HP6 := Lib.hid (And.intro (HP5.out.below hd hd.size) (And.intro (hR5.below hd hd.size) hR6)); have tok := HP; clear hd hR5 hR6)
    | (go_at_call 49; have tk := tok; clear tok; refine (n49.out _ _ _ _ _ HP6.out.2.1 HP6.out.2.2).mono ?_; rintro e w7 ⟨rfl, hd⟩; have hb7 := hb6.trans (hd.mono hb6.size); have HP7 := Lib.hid (And.intro (HP6.out.1.below hd hd.size) (HP6.out.2.1.below hd hd.size)); clear hd)
    | (go_at_call 49; refine (c49.out _ _ _ hb7 HP7.out.1).mono ?_; rintro e w8 ⟨rfl, hd⟩; have hb8 := hb7.trans (hd.mono hb7.size); have HP8 := Lib.hid (HP7.out.2.below hd hd.size); clear hd; have tok2 := HP)
    | (go_at_call 44; have tk2 := tok2; clear tok2; refine (c44.out _ hb8).mono ?_; rintro e w9 ⟨rfl, hd⟩; have hb9 := hb8.trans (hd.mono hb8.size); have HP9 := Lib.hid (HP8.out.below hd hd.size); clear hd)
    | (go_at_call 44; refine (d44.out _ _ _ HP9.out).mono ?_; rintro e w10 ⟨rfl, hd⟩; have hb10 := hb9.trans (hd.mono hb9.size); have HP10 := Lib.hid (HP9.out.below hd hd.size); clear hd))
  go_loopw [14, 15] (fun out i wr => ∃ k j : Nat, k + j = o.length ∧ i = .int .i64 ((k : Int) - 1) ∧ wr.ownsRow w10.heap.size 3 1 out j ((o.reverse.take j).map (Value.int .i64)) ∧ Below w10.heap.size w10 wr) (fun _ i _ => (intOf i + 1).toNat)
  case atStart => exact ⟨o.length, 0, by omega, rfl, World.ownsRow_nil _ _ _ _, Below.refl _ _⟩
  case round =>
    obtain ⟨k, j, hkj, rfl, hown, hb⟩ := hrel
    cases k with
    | succ m =>
      have hlt : m < o.length := by omega
      obtain ⟨b, off, rfl, hbB, c1⟩ := H'.out.at hlt
      have d1 := (hb.cell (p := ⟨b, off + m, none⟩) (by have := hb10.size; simp; omega)).trans ((hb10.cell (p := ⟨b, off + m, none⟩) hbB).trans c1)
      have hru := Lib.hid (rev_succ hlt hkj)
      have e1 : ((m + 1 : Nat) : Int) - 1 = (m : Int) := by omega
      rw [e1]
      have HO := Lib.hid hown
      have HK := Lib.hid hkj
      have hj100 : j ≤ 100 := by omega
      clear c1 hown e1 hkj
      go_wp2_with (at_builtin; refine wpList_append_own _ rfl _ _ 34 rfl w10.heap.size 3 j0 _ 1 8 Try.underlying34 hj hy0 hy1 hy2 rfl (by decide) _ _ _ rfl (HO.out.alloc _) ⟨wr.heap.size, 0, none⟩ 1 1 _ rfl rfl (cell_one_new _ _ _) (by simp [Value.oneCell']) (by simp only [maxLen]; omega) (by omega) (by have := hb.size; simp; omega) ?_; intro v' w11 hown11 hg11 _)
      have b11 : Below w10.heap.size w10 w11 := (hb.alloc hb.size _).grown hg11 (by have := hb.size; simp; omega) (fun x hx => (HO.out.lt x hx).1)
      go_roundw
      case rel => exact ⟨m, j + 1, by have := HK.out; omega, by go_num, by rw [hru.out]; exact hown11, b11⟩
      case measure => simp [intOf]
    | zero =>
      obtain rfl : j = o.length := by omega
      have hI : ∃ A9 c9, _ ∧ IntsAt _ _ A9 o.reverse := IntsAt.of_own' (zs := o.reverse) (by rw [← List.length_reverse, List.take_length] at hown; exact hown)
      obtain ⟨A9, c9, rfl, hI⟩ := hI
      rw [List.length_reverse]
      have hb11 := hb10.trans (hb.mono hb10.size)
      have HP11 := Lib.hid (And.intro (HP10.out.below hb hb.size) hI)
      clear hown hb hI
      have tok3 := HP
      go_wp2_with (first
        | (go_at_call 27; have tk3 := tok3; clear tok3; refine (c27.out _ hb11).mono ?_; rintro e w12 ⟨rfl, hd⟩; have hb12 := hb11.trans (hd.mono hb11.size); have HP12 := Lib.hid (And.intro (HP11.out.1.below hd hd.size) (HP11.out.2.below hd hd.size)); clear hd)
        | (go_at_call 27; refine (d27.out _ _ _ _ _ HP12.out.1 HP12.out.2).mono ?_; rintro e w13 ⟨rfl, hd⟩; have hb13 := hb12.trans (hd.mono hb12.size); clear hd)
        | (go_at_call 18; refine (known_any _).mono ?_; rintro e w14 ⟨rfl, hb14⟩))
      go_ret
      exact ⟨rfl, hb13.trans (hb14.mono hb13.size)⟩

theorem reverses_law (A A' : Option Addr) (c c' : Nat) (l : List Bt) (o : List Int) (w : World) (h : PairsAt w.heap.size w A l) (h' : IntsAt w.heap.size w A' o) (hm : l.length ≤ maxLen) (hm' : o.length ≤ maxLen) :
    Calls Try.prog 14 #[.slice A l.length c, .slice A' o.length c'] w fun e w' => e = .returned (.bool true) ∧ Below w.heap.size w w' := by
  by_cases hlong : longB l.length o.length = true
  · exact rev_long A A' c c' _ _ w hm hm' hlong
  · have hs : l.length ≤ 100 ∧ o.length ≤ 100 := by simp [longB] at hlong; omega
    by_cases hv : valB l = 0
    · exact rev_good A A' c c' l o w h h' hs.2 hv
    · exact rev_bad A A' c c' l o w h hs.1 hs.2 hv
end Go.Proofs.Ytoegemlpboeodaa
