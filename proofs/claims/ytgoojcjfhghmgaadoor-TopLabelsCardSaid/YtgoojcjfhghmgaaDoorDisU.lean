/- Dishes, Children. -/
import Derived.Test.YtgoojcjfhghmgaaDoorDisT
namespace Go.Proofs.YtgoojcjfhghmgaaDoor
open Go.RowKit

def dsE (l : List Int) (d ch : Int) : Int := if vtR l d = 0 then (if ch < 0 ∨ (2 : Int) ^ l.length ≤ ch then 1 else 0) else vtR l d
def dsV (l : List Int) (d ch : Int) : Int := if dsE l d ch = 0 then comS (natL l) d.toNat ch.toNat else 0
def cdE (l : List Int) (d m : Int) : Int := if vtR l d = 0 then (if m < 0 ∨ (2 : Int) ^ d.toNat ≤ m then 1 else 0) else vtR l d
def cdV (l : List Int) (d m : Int) : Int := if cdE l d m = 0 then eaS (natL l) d.toNat m.toNat else 0

theorem pow_cast (n : Nat) : ((2 ^ n : Nat) : Int) = (2 : Int) ^ n := by simp
set_option maxRecDepth 100000 in
set_option maxHeartbeats 2000000 in
theorem Dishes_any (A : Option Addr) (c B : Nat) (l : List Int) (d ch : Int) (w : World) (hB : B ≤ w.heap.size) (h : IntsAt B w A l) (hm : l.length ≤ 60) (hT : Tab w) :
    Calls Tryd.prog 35 #[.slice A l.length c, .int .i64 d, .int .i64 ch] w fun e w' => e = .returned (.tuple #[.int .i64 (dsV l d ch), .int .i64 (dsE l d ch)]) ∧ Below w.heap.size w w' := by
  have cv := Lib.hid (vt_any A c B l d w hB h (by omega))
  have HE := Lib.hid (show dsE l d ch = if vtR l d = 0 then (if ch < 0 ∨ (2 : Int) ^ l.length ≤ ch then 1 else 0) else vtR l d from rfl)
  have HV := Lib.hid (show dsV l d ch = if dsE l d ch = 0 then ((comS (natL l) d.toNat ch.toNat : Nat) : Int) else 0 from rfl)
  by_cases h0 : vtR l d = 0
  · obtain ⟨h1, h2, h3, h4, h5⟩ := vt_zero h0
    have hp := pow_wrap (show l.length < 63 by omega)
    rw [h0] at cv
    have HE1 := Lib.hid (show dsE l d ch = if ch < 0 ∨ (2 : Int) ^ l.length ≤ ch then 1 else 0 by rw [HE.out, if_pos h0])
    by_cases c1 : ch < 0
    · have hE : dsE l d ch = 1 := by rw [HE1.out, if_pos (.inl c1)]
      have hV : dsV l d ch = 0 := by rw [HV.out, hE]; rfl
      rw [hE, hV]
      clear h hT h0 h4 h5 hE hV
      go_enter Tryd.func35, Tryd.ntmps35
      go_wp2_with (go_at_call 39; refine cv.out.mono ?_; rintro e w1 ⟨rfl, hd⟩)
      go_ret2
      exact ⟨rfl, hd⟩
    · by_cases c2 : (2 : Int) ^ l.length ≤ ch
      · have hE : dsE l d ch = 1 := by rw [HE1.out, if_pos (.inr c2)]
        have hV : dsV l d ch = 0 := by rw [HV.out, hE]; rfl
        rw [hE, hV]
        clear h hT h0 h4 h5 hE hV
        go_enter Tryd.func35, Tryd.ntmps35
        go_wp2_with (go_at_call 39; refine cv.out.mono ?_; rintro e w1 ⟨rfl, hd⟩)
        go_ret2
        exact ⟨rfl, hd⟩
      · have hE : dsE l d ch = 0 := by rw [HE1.out, if_neg (by omega)]
        have hV : dsV l d ch = comS (natL l) d.toNat ch.toNat := by rw [HV.out, if_pos hE]
        rw [hE, hV]
        have ce := Lib.hid (fun W (hW : Below w.heap.size w W) => eaten_any A c w.heap.size (natL l) d.toNat ch.toNat W hW.size (by rw [h4]; exact (h.below (Below.refl _ _) hB).below hW (Nat.le_refl _)) (by rw [natL_length]; omega) (fun x hx => lt256 (h5 x hx) (by omega)) (by omega) (by rw [natL_length]; have := pow_cast l.length; omega) (hT.below hW hT.2))
        rw [natL_length, Int.toNat_of_nonneg h1, Int.toNat_of_nonneg (show 0 ≤ ch by omega)] at ce
        generalize comS (natL l) d.toNat ch.toNat = Z at ce ⊢
        clear h hT h0 h4 h5 hE hV
        go_enter Tryd.func35, Tryd.ntmps35
        go_wp2_with (first | (go_at_call 39; refine cv.out.mono ?_; rintro e w1 ⟨rfl, hd⟩) | (go_at_call 79; refine (ce.out _ hd).mono ?_; rintro e w2 ⟨rfl, hd2⟩))
        go_ret2
        exact ⟨rfl, hd.trans (hd2.mono hd.size)⟩
  · have hE : dsE l d ch = vtR l d := by rw [HE.out, if_neg h0]
    have hV : dsV l d ch = 0 := by rw [HV.out, hE, if_neg h0]
    rw [hE, hV]
    have he2 : (vtR l d != 0) = true := by simpa using h0
    clear h hT HE HV hE hV
    generalize vtR l d = e0 at *
    go_enter Tryd.func35, Tryd.ntmps35
    go_wp2_with (go_at_call 39; refine cv.out.mono ?_; rintro e w1 ⟨rfl, hd⟩)
    go_ret2
    exact ⟨rfl, hd⟩
set_option maxRecDepth 100000 in
set_option maxHeartbeats 2000000 in
theorem Dishes_ref (A : Option Addr) (c B : Nat) (l : List Int) (d ch : Int) (w : World) (hB : B ≤ w.heap.size) (h : IntsAt B w A l) (hm : l.length ≤ 60) :
    Calls Tryd.prog 36 #[.slice A l.length c, .int .i64 d, .int .i64 ch] w fun e w' => e = .returned (.tuple #[.int .i64 (dsV l d ch), .int .i64 (dsE l d ch)]) ∧ Below w.heap.size w w' := by
  have cv := Lib.hid (vt_ref A c B l d w h (by omega))
  have HE := Lib.hid (show dsE l d ch = if vtR l d = 0 then (if ch < 0 ∨ (2 : Int) ^ l.length ≤ ch then 1 else 0) else vtR l d from rfl)
  have HV := Lib.hid (show dsV l d ch = if dsE l d ch = 0 then ((comS (natL l) d.toNat ch.toNat : Nat) : Int) else 0 from rfl)
  by_cases h0 : vtR l d = 0
  · obtain ⟨h1, h2, h3, h4, h5⟩ := vt_zero h0
    have hp := pow_wrap (show l.length < 63 by omega)
    rw [h0] at cv
    have HE1 := Lib.hid (show dsE l d ch = if ch < 0 ∨ (2 : Int) ^ l.length ≤ ch then 1 else 0 by rw [HE.out, if_pos h0])
    by_cases c1 : ch < 0
    · have hE : dsE l d ch = 1 := by rw [HE1.out, if_pos (.inl c1)]
      have hV : dsV l d ch = 0 := by rw [HV.out, hE]; rfl
      rw [hE, hV]
      clear h h0 h4 h5 hE hV
      go_enter Tryd.func36, Tryd.ntmps36
      go_wp2_with (go_at_call 40; refine cv.out.mono ?_; rintro e w1 ⟨rfl, hd⟩)
      go_ret2
      exact ⟨rfl, hd⟩
    · by_cases c2 : (2 : Int) ^ l.length ≤ ch
      · have hE : dsE l d ch = 1 := by rw [HE1.out, if_pos (.inr c2)]
        have hV : dsV l d ch = 0 := by rw [HV.out, hE]; rfl
        rw [hE, hV]
        clear h h0 h4 h5 hE hV
        go_enter Tryd.func36, Tryd.ntmps36
        go_wp2_with (go_at_call 40; refine cv.out.mono ?_; rintro e w1 ⟨rfl, hd⟩)
        go_ret2
        exact ⟨rfl, hd⟩
      · have hE : dsE l d ch = 0 := by rw [HE1.out, if_neg (by omega)]
        have hV : dsV l d ch = comS (natL l) d.toNat ch.toNat := by rw [HV.out, if_pos hE]
        rw [hE, hV]
        have ce := Lib.hid (fun W (hW : Below w.heap.size w W) => common_ref A c w.heap.size (natL l) d.toNat ch.toNat W (by rw [h4]; exact (h.below (Below.refl _ _) hB).below hW (Nat.le_refl _)) (by rw [natL_length]; omega) (fun x hx => lt256 (h5 x hx) (by omega)) (by omega) (by rw [natL_length]; have := pow_cast l.length; omega))
        rw [natL_length, Int.toNat_of_nonneg h1, Int.toNat_of_nonneg (show 0 ≤ ch by omega)] at ce
        generalize comS (natL l) d.toNat ch.toNat = Z at ce ⊢
        clear h h0 h4 h5 hE hV
        go_enter Tryd.func36, Tryd.ntmps36
        go_wp2_with (first | (go_at_call 40; refine cv.out.mono ?_; rintro e w1 ⟨rfl, hd⟩) | (go_at_call 80; refine (ce.out _ hd).mono ?_; rintro e w2 ⟨rfl, rfl⟩))
        go_ret2
        exact ⟨rfl, hd⟩
  · have hE : dsE l d ch = vtR l d := by rw [HE.out, if_neg h0]
    have hV : dsV l d ch = 0 := by rw [HV.out, hE, if_neg h0]
    rw [hE, hV]
    have he2 : (vtR l d != 0) = true := by simpa using h0
    clear h HE HV hE hV
    generalize vtR l d = e0 at *
    go_enter Tryd.func36, Tryd.ntmps36
    go_wp2_with (go_at_call 40; refine cv.out.mono ?_; rintro e w1 ⟨rfl, hd⟩)
    go_ret2
    exact ⟨rfl, hd⟩
set_option maxRecDepth 100000 in
set_option maxHeartbeats 2000000 in
theorem Children_any (A : Option Addr) (c B : Nat) (l : List Int) (d ch : Int) (w : World) (hB : B ≤ w.heap.size) (h : IntsAt B w A l) (hm : l.length ≤ 60) :
    Calls Tryd.prog 37 #[.slice A l.length c, .int .i64 d, .int .i64 ch] w fun e w' => e = .returned (.tuple #[.int .i64 (cdV l d ch), .int .i64 (cdE l d ch)]) ∧ Below w.heap.size w w' := by
  have cv := Lib.hid (vt_any A c B l d w hB h (by omega))
  have HE := Lib.hid (show cdE l d ch = if vtR l d = 0 then (if ch < 0 ∨ (2 : Int) ^ d.toNat ≤ ch then 1 else 0) else vtR l d from rfl)
  have HV := Lib.hid (show cdV l d ch = if cdE l d ch = 0 then ((eaS (natL l) d.toNat ch.toNat : Nat) : Int) else 0 from rfl)
  by_cases h0 : vtR l d = 0
  · obtain ⟨h1, h2, h3, h4, h5⟩ := vt_zero h0
    have hp := pow_wrap (show d.toNat < 63 by omega)
    rw [h0] at cv
    have HE1 := Lib.hid (show cdE l d ch = if ch < 0 ∨ (2 : Int) ^ d.toNat ≤ ch then 1 else 0 by rw [HE.out, if_pos h0])
    by_cases c1 : ch < 0
    · have hE : cdE l d ch = 1 := by rw [HE1.out, if_pos (.inl c1)]
      have hV : cdV l d ch = 0 := by rw [HV.out, hE]; rfl
      rw [hE, hV]
      clear h h0 h4 h5 hE hV
      go_enter Tryd.func37, Tryd.ntmps37
      go_wp2_with (go_at_call 39; refine cv.out.mono ?_; rintro e w1 ⟨rfl, hd⟩)
      go_ret2
      exact ⟨rfl, hd⟩
    · by_cases c2 : (2 : Int) ^ d.toNat ≤ ch
      · have hE : cdE l d ch = 1 := by rw [HE1.out, if_pos (.inr c2)]
        have hV : cdV l d ch = 0 := by rw [HV.out, hE]; rfl
        rw [hE, hV]
        clear h h0 h4 h5 hE hV
        go_enter Tryd.func37, Tryd.ntmps37
        go_wp2_with (go_at_call 39; refine cv.out.mono ?_; rintro e w1 ⟨rfl, hd⟩)
        go_ret2
        exact ⟨rfl, hd⟩
      · have hE : cdE l d ch = 0 := by rw [HE1.out, if_neg (by omega)]
        have hV : cdV l d ch = eaS (natL l) d.toNat ch.toNat := by rw [HV.out, if_pos hE]
        rw [hE, hV]
        have ce := Lib.hid (fun W (hW : Below w.heap.size w W) => eaters_any A c w.heap.size (natL l) d.toNat ch.toNat W (by rw [h4]; exact (h.below (Below.refl _ _) hB).below hW (Nat.le_refl _)) (by rw [natL_length]; omega) (fun x hx => lt256 (h5 x hx) (by omega)) (by omega) (by have := pow_cast d.toNat; omega))
        rw [natL_length, Int.toNat_of_nonneg (show 0 ≤ ch by omega)] at ce
        generalize eaS (natL l) d.toNat ch.toNat = Z at ce ⊢
        clear h h0 h4 h5 hE hV
        go_enter Tryd.func37, Tryd.ntmps37
        go_wp2_with (first | (go_at_call 39; refine cv.out.mono ?_; rintro e w1 ⟨rfl, hd⟩) | (go_at_call 81; refine (ce.out _ hd).mono ?_; rintro e w2 ⟨rfl, rfl⟩))
        go_ret2
        exact ⟨rfl, hd⟩
  · have hE : cdE l d ch = vtR l d := by rw [HE.out, if_neg h0]
    have hV : cdV l d ch = 0 := by rw [HV.out, hE, if_neg h0]
    rw [hE, hV]
    have he2 : (vtR l d != 0) = true := by simpa using h0
    clear h HE HV hE hV
    generalize vtR l d = e0 at *
    go_enter Tryd.func37, Tryd.ntmps37
    go_wp2_with (go_at_call 39; refine cv.out.mono ?_; rintro e w1 ⟨rfl, hd⟩)
    go_ret2
    exact ⟨rfl, hd⟩
set_option maxRecDepth 100000 in
set_option maxHeartbeats 2000000 in
theorem Children_ref (A : Option Addr) (c B : Nat) (l : List Int) (d ch : Int) (w : World) (hB : B ≤ w.heap.size) (h : IntsAt B w A l) (hm : l.length ≤ 60) :
    Calls Tryd.prog 38 #[.slice A l.length c, .int .i64 d, .int .i64 ch] w fun e w' => e = .returned (.tuple #[.int .i64 (cdV l d ch), .int .i64 (cdE l d ch)]) ∧ Below w.heap.size w w' := by
  have cv := Lib.hid (vt_ref A c B l d w h (by omega))
  have HE := Lib.hid (show cdE l d ch = if vtR l d = 0 then (if ch < 0 ∨ (2 : Int) ^ d.toNat ≤ ch then 1 else 0) else vtR l d from rfl)
  have HV := Lib.hid (show cdV l d ch = if cdE l d ch = 0 then ((eaS (natL l) d.toNat ch.toNat : Nat) : Int) else 0 from rfl)
  by_cases h0 : vtR l d = 0
  · obtain ⟨h1, h2, h3, h4, h5⟩ := vt_zero h0
    have hp := pow_wrap (show d.toNat < 63 by omega)
    rw [h0] at cv
    have HE1 := Lib.hid (show cdE l d ch = if ch < 0 ∨ (2 : Int) ^ d.toNat ≤ ch then 1 else 0 by rw [HE.out, if_pos h0])
    by_cases c1 : ch < 0
    · have hE : cdE l d ch = 1 := by rw [HE1.out, if_pos (.inl c1)]
      have hV : cdV l d ch = 0 := by rw [HV.out, hE]; rfl
      rw [hE, hV]
      clear h h0 h4 h5 hE hV
      go_enter Tryd.func38, Tryd.ntmps38
      go_wp2_with (go_at_call 40; refine cv.out.mono ?_; rintro e w1 ⟨rfl, hd⟩)
      go_ret2
      exact ⟨rfl, hd⟩
    · by_cases c2 : (2 : Int) ^ d.toNat ≤ ch
      · have hE : cdE l d ch = 1 := by rw [HE1.out, if_pos (.inr c2)]
        have hV : cdV l d ch = 0 := by rw [HV.out, hE]; rfl
        rw [hE, hV]
        clear h h0 h4 h5 hE hV
        go_enter Tryd.func38, Tryd.ntmps38
        go_wp2_with (go_at_call 40; refine cv.out.mono ?_; rintro e w1 ⟨rfl, hd⟩)
        go_ret2
        exact ⟨rfl, hd⟩
      · have hE : cdE l d ch = 0 := by rw [HE1.out, if_neg (by omega)]
        have hV : cdV l d ch = eaS (natL l) d.toNat ch.toNat := by rw [HV.out, if_pos hE]
        rw [hE, hV]
        have ce := Lib.hid (fun W (hW : Below w.heap.size w W) => eaters_ref A c w.heap.size (natL l) d.toNat ch.toNat W (by rw [h4]; exact (h.below (Below.refl _ _) hB).below hW (Nat.le_refl _)) (by rw [natL_length]; omega) (fun x hx => lt256 (h5 x hx) (by omega)) (by omega) (by have := pow_cast d.toNat; omega))
        rw [natL_length, Int.toNat_of_nonneg h1, Int.toNat_of_nonneg (show 0 ≤ ch by omega)] at ce
        generalize eaS (natL l) d.toNat ch.toNat = Z at ce ⊢
        clear h h0 h4 h5 hE hV
        go_enter Tryd.func38, Tryd.ntmps38
        go_wp2_with (first | (go_at_call 40; refine cv.out.mono ?_; rintro e w1 ⟨rfl, hd⟩) | (go_at_call 82; refine (ce.out _ hd).mono ?_; rintro e w2 ⟨rfl, rfl⟩))
        go_ret2
        exact ⟨rfl, hd⟩
  · have hE : cdE l d ch = vtR l d := by rw [HE.out, if_neg h0]
    have hV : cdV l d ch = 0 := by rw [HV.out, hE, if_neg h0]
    rw [hE, hV]
    have he2 : (vtR l d != 0) = true := by simpa using h0
    clear h HE HV hE hV
    generalize vtR l d = e0 at *
    go_enter Tryd.func38, Tryd.ntmps38
    go_wp2_with (go_at_call 40; refine cv.out.mono ?_; rintro e w1 ⟨rfl, hd⟩)
    go_ret2
    exact ⟨rfl, hd⟩
end Go.Proofs.YtgoojcjfhghmgaaDoor
