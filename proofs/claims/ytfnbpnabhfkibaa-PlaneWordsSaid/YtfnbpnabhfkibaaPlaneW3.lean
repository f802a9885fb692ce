/- math.Mod by 2^24 at whole numbers below 2^53, and plane's part, low and Of: what they give. -/
import Derived.Test.YtfnbpnabhfkibaaPlaneW2
import Derived.Deep.LoopGhost
namespace Go.Proofs.Ytfnbpnabhfkibaa
set_option linter.unusedVariables false
set_option linter.unusedSimpArgs false
open Go.RowKit Ieee

theorem xor_top {b : Nat} (h : b < 2 ^ 63) : b ^^^ 2 ^ 63 = 2 ^ 63 + b := by
  have h1 : b ^^^ 2 ^ 63 = 2 ^ 63 ||| b := by
    apply Nat.eq_of_testBit_eq
    intro i
    rw [Nat.testBit_xor, Nat.testBit_or, Nat.testBit_two_pow]
    by_cases hi : 63 = i
    · subst hi; rw [Nat.testBit_lt_two_pow h]; rfl
    · simp [hi]
  rw [h1, nat_join 63 _ _ (by decide) h]

theorem rep_neg {b : Nat} {n : Int} (hr : Rep b n) (hn : n.natAbs < 2 ^ 53) : Rep (Op.negFloat .f64 b) (-n) := by
  have e : Op.negFloat .f64 b = b ^^^ 2 ^ 63 := rfl
  rw [e]
  unfold Rep at hr ⊢
  by_cases h0 : n = 0
  · rw [if_pos h0] at hr; rw [if_pos (by omega)]
    rcases hr with rfl | rfl
    · right; decide
    · left; decide
  · rw [if_neg h0] at hr; rw [if_neg (by omega)]
    have := rung_bd (n := n.natAbs) (by omega) hn
    by_cases hc : n < 0
    · rw [hr, show decide (n < 0) = true from by simpa using hc, show decide (-n < 0) = false from by simp; omega, Int.natAbs_neg]
      have h1 : double.word true (rung n.natAbs) = rung n.natAbs ^^^ 2 ^ 63 := by
        rw [xor_top (by omega)]; rfl
      rw [h1, Nat.xor_assoc, Nat.xor_self, Nat.xor_zero]; rfl
    · rw [hr, show decide (n < 0) = false from by simpa using hc, show decide (-n < 0) = true from by simp; omega, Int.natAbs_neg]
      show rung n.natAbs ^^^ 2 ^ 63 = _
      rw [xor_top (by omega)]; rfl

def RepRet (n : Int) (w : World) (e : Ending) (w' : World) : Prop := ∃ r, Rep r n ∧ e = .returned (.float .f64 r) ∧ w = w'

theorem top_facts {m : Nat} (h : 2 ^ 24 ≤ m) (hm : m < 2 ^ 53) : 24 ≤ m.log2 ∧ m.log2 ≤ 52 ∧ 2 ^ m.log2 ≤ m ∧ 0 < 2 ^ m.log2 ∧ (m - 2 ^ m.log2) % 16777216 = m % 16777216 := by
  have h0 : m ≠ 0 := by omega
  have h1 := log2_lo h0
  have h2 := log2_le hm
  have h3 : 24 ≤ m.log2 := (Nat.le_log2 h0).2 h
  refine ⟨h3, h2, h1, Nat.two_pow_pos _, ?_⟩
  have : 2 ^ m.log2 = 16777216 * 2 ^ (m.log2 - 24) := by
    rw [show (16777216 : Nat) = 2 ^ 24 from by decide, ← Nat.pow_add]; congr 1; omega
  generalize 2 ^ m.log2 = q at *
  generalize 2 ^ (m.log2 - 24) = q' at *
  omega

theorem big_rep : Rep 4715268809856909312 ((2 ^ 24 : Nat) : Int) := by rw [big_eq]; exact rep_of_pos (n := ((2 ^ 24 : Nat) : Int)) (by decide)
theorem zero_rep : Rep 0 0 := by unfold Rep; simp
theorem abs_big : absB 4715268809856909312 = 4715268809856909312 := by decide +kernel
theorem frB_big : frB (2 ^ 24) = 4602678819172646912 := by unfold frB; rw [Nat.log2_two_pow]

theorem cmp_of {x y : Nat} {a b : Int} (hx : Rep x a) (hy : Rep y b) (ha : a.natAbs < 2 ^ 53) (hb : b.natAbs < 2 ^ 53) (o : Ordering) :
    (FloatKind.f64.format.order x y == some o) = (compare a b == o) := by
  show (double.order x y == some o) = _
  rw [rep_order hx hy ha hb]; cases compare a b <;> cases o <;> rfl

theorem lt_of {x y : Nat} {a b : Int} (hx : Rep x a) (hy : Rep y b) (ha : a.natAbs < 2 ^ 53) (hb : b.natAbs < 2 ^ 53) :
    (FloatKind.f64.format.order x y == some .lt) = decide (a < b) := by
  rw [cmp_of hx hy ha hb]
  by_cases h : a < b
  · rw [Int.compare_eq_lt.2 h]; simp [h]
  · rw [decide_eq_false h, beq_eq_false_iff_ne]; intro hc; exact h (Int.compare_eq_lt.1 hc)
theorem gt_of {x y : Nat} {a b : Int} (hx : Rep x a) (hy : Rep y b) (ha : a.natAbs < 2 ^ 53) (hb : b.natAbs < 2 ^ 53) :
    (FloatKind.f64.format.order x y == some .gt) = decide (b < a) := by
  rw [cmp_of hx hy ha hb]
  by_cases h : b < a
  · rw [Int.compare_eq_gt.2 h]; simp [h]
  · rw [decide_eq_false h, beq_eq_false_iff_ne]; intro hc; exact h (Int.compare_eq_gt.1 hc)
theorem eq_of {x y : Nat} {a b : Int} (hx : Rep x a) (hy : Rep y b) (ha : a.natAbs < 2 ^ 53) (hb : b.natAbs < 2 ^ 53) :
    (FloatKind.f64.format.order x y == some .eq) = decide (a = b) := by
  rw [cmp_of hx hy ha hb]
  by_cases h : a = b
  · rw [Int.compare_eq_eq.2 h]; simp [h]
  · rw [decide_eq_false h, beq_eq_false_iff_ne]; intro hc; exact h (Int.compare_eq_eq.1 hc)

theorem geq_big {c m : Nat} (hc : Rep c m) (hm : m < 2 ^ 53) : (FloatKind.f64.format.order c 4715268809856909312 == some .gt || FloatKind.f64.format.order c 4715268809856909312 == some .eq) = decide (2 ^ 24 ≤ m) := by
  rw [gt_of hc big_rep (by omega) (by decide), eq_of hc big_rep (by omega) (by decide), ← Bool.decide_or, decide_eq_decide]
  omega

@[local go_sem] theorem unary_neg_float (b : Nat) : Op.unary .neg (.float .f64 b) = pure (.float .f64 (Op.negFloat .f64 b)) := rfl

/-- What holds of r at the loop's head. -/
def Left (n : Int) (k : Nat) (v : Value) : Prop := ∃ c m : Nat, v = .float .f64 c ∧ Rep c m ∧ m < 2 ^ 53 ∧ m % 16777216 = n.natAbs % 16777216 ∧ k = m

theorem tmod_of {n : Int} {m : Nat} (h : m % 16777216 = n.natAbs % 16777216) (hm : m < 16777216) : n.tmod 16777216 = if n < 0 then -(m : Int) else (m : Int) := by
  by_cases hc : n < 0
  · rw [if_pos hc]
    obtain ⟨a, rfl⟩ : ∃ a : Nat, n = -(a : Int) := ⟨n.natAbs, by omega⟩
    rw [Int.neg_tmod, Int.tmod_eq_emod_of_nonneg (by omega)]
    omega
  · rw [if_neg hc, Int.tmod_eq_emod_of_nonneg (by omega)]
    omega

set_option maxHeartbeats 400000 in
theorem Ldexp_at (k : Nat) (h24 : 24 ≤ k) (hk : k ≤ 52) (x : Int) (hx : x = (k : Int) - 24) (w : World) :
    Calls Try.prog 32 #[.float .f64 4715268809856909312, .int .i64 x] w fun e w' => e = .returned (.float .f64 (rung (2 ^ k))) ∧ w = w' := by
  subst hx; exact Ldexp_any k h24 hk w

set_option maxHeartbeats 1000000 in
theorem mod_any (b : Nat) (n : Int) (hr : Rep b n) (hn : n.natAbs < 2 ^ 53) (w : World) :
    Calls Try.prog 26 #[.float .f64 b, .float .f64 4715268809856909312] w (RepRet (n.tmod 16777216) w) := by
  have hz : (FloatKind.f64.format.order 4715268809856909312 0 == some .eq) = false := by rw [eq_of big_rep zero_rep (by decide) (by decide)]; decide
  have hA := abs_any 4715268809856909312 (by decide)
  rw [abs_big] at hA
  have hF := Frexp_any (2 ^ 24) (by decide) (by decide)
  rw [← big_eq, frB_big, Nat.log2_two_pow] at hF
  have hlt := lt_of hr zero_rep hn (by decide)
  have hI := isInf_any b n hr hn
  have hN1 := isNaN_any b n hr hn
  have hN2 := isNaN_any 4715268809856909312 _ big_rep (by decide)
  have htm := fun m => @tmod_of n m
  by_cases hneg : n < 0
  · rw [decide_eq_true hneg] at hlt
    have hrn := rep_neg hr hn
    have HR := Lib.hid hr
    have HN := Lib.hid hn
    have HT := Lib.hid htm
    clear hr hn htm
    go_enter Try.func26, Try.ntmps26
    go_wp2_with (first | (go_at_call 27; refine (hI _).mono ?_; rintro e w' ⟨rfl, rfl⟩) | (go_at_call 30; refine (hA _).mono ?_; rintro e w' ⟨rfl, rfl⟩) | (go_at_call 31; refine (hF _).mono ?_; rintro e w' ⟨rfl, rfl⟩) | (go_at_call 28; first | ((with_reducible refine (hN1 _).mono ?_); rintro e w' ⟨rfl, rfl⟩) | ((with_reducible refine (hN2 _).mono ?_); rintro e w' ⟨rfl, rfl⟩)))
    clear hA hF hI hN1 hN2 hz
    go_loopg [7, 8, 9] n.natAbs (fun k v _ _ wr => wr = w ∧ Left n k v)
    case atStart => exact ⟨rfl, _, n.natAbs, rfl, by rw [show ((n.natAbs : Nat) : Int) = -n from by omega]; exact hrn, HN.out, rfl, rfl⟩
    case round =>
      obtain ⟨rfl, c, m, rfl, hc, hm, hmod, rfl⟩ := hrel
      have hg := geq_big hc hm
      by_cases hbig : 2 ^ 24 ≤ gk
      · obtain rfl : c = rung gk := by have := rep_pos hc (by omega); simpa using this
        have hgt : (FloatKind.f64.format.order (rung gk) 4715268809856909312 == some .gt || FloatKind.f64.format.order (rung gk) 4715268809856909312 == some .eq) = true := by rw [hg]; simpa using hbig
        obtain ⟨t1, t2, t3, t4, t5⟩ := top_facts hbig hm
        have hfr : (FloatKind.f64.format.order (frB gk) 4602678819172646912 == some .lt) = false := frB_order (by omega) hm
        have hFr := Frexp_any gk (by omega) hm
        have hLd := fun x => Ldexp_at gk.log2 t1 t2 x
        have hsub := fun w => run_fl (sub_top hbig hm) w
        have HX : Hid (gk - 2 ^ gk.log2 < gk ∧ Left n (gk - 2 ^ gk.log2) (.float .f64 (numB (gk - 2 ^ gk.log2)))) := ⟨by omega, _, _, rfl, rep_numB _, by omega, by omega, rfl⟩
        clear hg hbig hc hm hmod t3 t4 t5
        go_wp2_with (first | (go_at_call 31; refine (hFr _).mono ?_; rintro e w' ⟨rfl, rfl⟩) | (go_at_call 32; refine (hLd _ (by omega) _).mono ?_; rintro e w' ⟨rfl, rfl⟩))
        go_roundg (gk - 2 ^ gk.log2)
        case measure => exact HX.out.1
        case rel => exact ⟨rfl, HX.out.2⟩
      · have hgt : (FloatKind.f64.format.order c 4715268809856909312 == some .gt || FloatKind.f64.format.order c 4715268809856909312 == some .eq) = false := by rw [hg]; simpa using hbig
        have HE : Hid (Rep (Op.negFloat .f64 c) (n.tmod 16777216)) := by
          rw [HT.out gk hmod (by omega), if_pos hneg]; exact rep_neg hc (by omega)
        clear hg hbig hc hm hmod
        go_wp2
        go_ret
        exact ⟨_, HE.out, rfl, rfl⟩
  · rw [decide_eq_false hneg] at hlt
    have HR := Lib.hid hr
    have HN := Lib.hid hn
    have HT := Lib.hid htm
    clear hr hn htm
    go_enter Try.func26, Try.ntmps26
    go_wp2_with (first | (go_at_call 27; refine (hI _).mono ?_; rintro e w' ⟨rfl, rfl⟩) | (go_at_call 30; refine (hA _).mono ?_; rintro e w' ⟨rfl, rfl⟩) | (go_at_call 31; refine (hF _).mono ?_; rintro e w' ⟨rfl, rfl⟩) | (go_at_call 28; first | ((with_reducible refine (hN1 _).mono ?_); rintro e w' ⟨rfl, rfl⟩) | ((with_reducible refine (hN2 _).mono ?_); rintro e w' ⟨rfl, rfl⟩)))
    clear hA hF hI hN1 hN2 hz
    go_loopg [7, 8, 9] n.natAbs (fun k v _ _ wr => wr = w ∧ Left n k v)
    case atStart => exact ⟨rfl, _, n.natAbs, rfl, by rw [show ((n.natAbs : Nat) : Int) = n from by omega]; exact HR.out, HN.out, rfl, rfl⟩
    case round =>
      obtain ⟨rfl, c, m, rfl, hc, hm, hmod, rfl⟩ := hrel
      have hg := geq_big hc hm
      by_cases hbig : 2 ^ 24 ≤ gk
      · obtain rfl : c = rung gk := by have := rep_pos hc (by omega); simpa using this
        have hgt : (FloatKind.f64.format.order (rung gk) 4715268809856909312 == some .gt || FloatKind.f64.format.order (rung gk) 4715268809856909312 == some .eq) = true := by rw [hg]; simpa using hbig
        obtain ⟨t1, t2, t3, t4, t5⟩ := top_facts hbig hm
        have hfr : (FloatKind.f64.format.order (frB gk) 4602678819172646912 == some .lt) = false := frB_order (by omega) hm
        have hFr := Frexp_any gk (by omega) hm
        have hLd := fun x => Ldexp_at gk.log2 t1 t2 x
        have hsub := fun w => run_fl (sub_top hbig hm) w
        have HX : Hid (gk - 2 ^ gk.log2 < gk ∧ Left n (gk - 2 ^ gk.log2) (.float .f64 (numB (gk - 2 ^ gk.log2)))) := ⟨by omega, _, _, rfl, rep_numB _, by omega, by omega, rfl⟩
        clear hg hbig hc hm hmod t3 t4 t5
        go_wp2_with (first | (go_at_call 31; refine (hFr _).mono ?_; rintro e w' ⟨rfl, rfl⟩) | (go_at_call 32; refine (hLd _ (by omega) _).mono ?_; rintro e w' ⟨rfl, rfl⟩))
        go_roundg (gk - 2 ^ gk.log2)
        case measure => exact HX.out.1
        case rel => exact ⟨rfl, HX.out.2⟩
      · have hgt : (FloatKind.f64.format.order c 4715268809856909312 == some .gt || FloatKind.f64.format.order c 4715268809856909312 == some .eq) = false := by rw [hg]; simpa using hbig
        have HE : Hid (Rep c (n.tmod 16777216)) := by
          rw [HT.out gk hmod (by omega), if_neg (by omega)]; exact hc
        clear hg hbig hc hm hmod
        go_wp2
        go_ret
        exact ⟨_, HE.out, rfl, rfl⟩

set_option maxHeartbeats 400000 in
theorem Mod_any (b : Nat) (n : Int) (hr : Rep b n) (hn : n.natAbs < 2 ^ 53) (w : World) :
    Calls Try.prog 24 #[.float .f64 b, .float .f64 4715268809856909312] w (RepRet (n.tmod 16777216) w) := by
  go_enter Try.func24, Try.ntmps24
  go_wp2_with (go_at_call 26; refine (mod_any b n hr hn _).mono ?_; rintro e w' ⟨r, hr', rfl, rfl⟩)
  go_ret
  exact ⟨_, hr', rfl, rfl⟩

/-- A whole number, as a part. -/
def part (n : Int) : Int := (n + 8388608) % 16777216 - 8388608

theorem part_bd (n : Int) : -8388608 ≤ part n ∧ part n < 8388608 := by unfold part; omega

theorem half_rep : Rep 4710765210229538816 ((2 ^ 23 : Nat) : Int) := by
  have := rep_of_pos (n := ((2 ^ 23 : Nat) : Int)) (by decide)
  rw [Int.natAbs_natCast, rung_pow 23 (by decide)] at this
  exact this
theorem nhalf_rep : Rep 13934137247084314624 (-((2 ^ 23 : Nat) : Int)) := by
  have h := rep_neg half_rep (by decide)
  have e : Op.negFloat .f64 4710765210229538816 = 13934137247084314624 := by decide +kernel
  rwa [e] at h

theorem tmod_bd (n : Int) : -16777216 < n.tmod 16777216 ∧ n.tmod 16777216 < 16777216 ∧ part n = if 8388608 ≤ n.tmod 16777216 then n.tmod 16777216 - 16777216 else if n.tmod 16777216 < -8388608 then n.tmod 16777216 + 16777216 else n.tmod 16777216 := by
  have h := Int.mul_tdiv_add_tmod n 16777216
  have h1 := Int.tmod_lt_of_pos n (show (0 : Int) < 16777216 by decide)
  have h2 : -16777216 < n.tmod 16777216 := by
    have := Int.lt_tmod_of_pos n (show (0 : Int) < 16777216 by decide)
    omega
  unfold part
  generalize n.tmod 16777216 = t at *
  refine ⟨h2, h1, ?_⟩
  split <;> (try split) <;> omega

/-- The double of a whole number; nought without a sign. -/
def fl (n : Int) : Nat := if n = 0 then 0 else double.word (decide (n < 0)) (rung n.natAbs)
theorem rep_fl (n : Int) : Rep (fl n) n := by
  unfold Rep fl
  by_cases h : n = 0
  · rw [if_pos h, if_pos h]; left; rfl
  · rw [if_neg h, if_neg h]
theorem fl_of {b : Nat} {n : Int} (h : Rep b n) (h0 : n ≠ 0) : b = fl n := by
  unfold Rep at h; unfold fl
  rw [if_neg h0] at h ⊢; exact h

/-- A number and nought is that number; nought has no sign then. -/
theorem add_zero_fl {b : Nat} {n : Int} (h : Rep b n) (hn : n.natAbs < 2 ^ 53) : floatBits .add .f64 b 0 = some (fl n) := by
  by_cases h0 : n = 0
  · subst h0
    unfold Rep at h
    rw [if_pos rfl] at h
    rcases h with rfl | rfl <;> decide +kernel
  · obtain ⟨r, e1, e2⟩ := rep_add h zero_rep hn (by decide) (by rw [Int.add_zero]; exact hn)
    rw [Int.add_zero] at e2
    rw [e1, fl_of e2 h0]

set_option maxHeartbeats 1000000 in
theorem part_any (b : Nat) (n : Int) (hr : Rep b n) (hn : n.natAbs < 2 ^ 53) (w : World) :
    Calls Try.prog 23 #[.float .f64 b] w fun e w' => e = .returned (.float .f64 (fl (part n))) ∧ w = w' := by
  obtain ⟨t1, t2, t3⟩ := tmod_bd n
  have hM := Mod_any b n hr hn
  clear hr hn
  generalize n.tmod 16777216 = t at *
  generalize part n = pn at *
  have HP := Lib.hid t3
  clear t3
  go_enter Try.func23, Try.ntmps23
  go_wp2_with fail
  refine (hM _).mono ?_
  rintro e w' ⟨r, hr, rfl, rfl⟩
  have hge : (FloatKind.f64.format.order r 4710765210229538816 == some .gt || FloatKind.f64.format.order r 4710765210229538816 == some .eq) = decide (8388608 ≤ t) := by
    rw [gt_of hr half_rep (by omega) (by decide), eq_of hr half_rep (by omega) (by decide), ← Bool.decide_or, decide_eq_decide]; omega
  have hlt : (FloatKind.f64.format.order r 13934137247084314624 == some .lt) = decide (t < -8388608) := by
    rw [lt_of hr nhalf_rep (by omega) (by decide), decide_eq_decide]; omega
  by_cases c1 : 8388608 ≤ t
  · rw [decide_eq_true c1] at hge
    obtain ⟨r', e1, e2⟩ := rep_sub hr big_rep (by omega) (by decide) (by omega)
    have hpn := HP.out
    rw [if_pos c1] at hpn
    have e3 := fl_of e2 (by omega)
    rw [show t - ((2 ^ 24 : Nat) : Int) = pn from by omega] at e3
    rw [e3] at e1
    have hs := run_fl e1
    clear e1 e2 e3 hpn hlt hr hM
    go_wp2
    go_ret
    exact ⟨rfl, rfl⟩
  · rw [decide_eq_false c1] at hge
    by_cases c2 : t < -8388608
    · rw [decide_eq_true c2] at hlt
      obtain ⟨r', e1, e2⟩ := rep_add hr big_rep (by omega) (by decide) (by omega)
      have hpn := HP.out
      rw [if_neg c1, if_pos c2] at hpn
      have e3 := fl_of e2 (by omega)
      rw [show t + ((2 ^ 24 : Nat) : Int) = pn from by omega] at e3
      rw [e3] at e1
      have hs := run_fl e1
      clear e1 e2 e3 hpn hr hM
      go_wp2
      go_ret
      exact ⟨rfl, rfl⟩
    · rw [decide_eq_false c2] at hlt
      have hpn := HP.out
      rw [if_neg c1, if_neg c2] at hpn
      have e1 := add_zero_fl hr (by omega)
      rw [← hpn] at e1
      have hs := run_fl e1
      clear e1 hpn hr hM
      go_wp2
      go_ret
      exact ⟨rfl, rfl⟩

theorem low_bits (n : Int) : bits .and .i64 n 16777215 = n % 16777216 := by
  show IntKind.i64.wrap ((BitVec.ofInt 64 n &&& BitVec.ofInt 64 16777215).toNat : Int) = _
  have e : (BitVec.ofInt 64 16777215).toNat = 2 ^ 24 - 1 := by decide
  rw [BitVec.toNat_and, e, Nat.and_two_pow_sub_one_eq_mod, BitVec.toNat_ofInt]
  have h1 : (n % ((2 ^ 64 : Nat) : Int)).toNat % 2 ^ 24 = (n % 16777216).toNat := by omega
  rw [h1]
  rw [IntWalk.i64_in _ (by omega)]; omega

set_option maxHeartbeats 1000000 in
theorem low_any (n : Int) (w : World) :
    Calls Try.prog 21 #[.int .i64 n] w fun e w' => e = .returned (.float .f64 (fl (part n))) ∧ w = w' := by
  have hl := low_bits n
  have hr := rep_int (n % 16777216) (by omega)
  have hp := fun w => part_any _ _ hr (by omega) w
  rw [show part (n % 16777216) = part n from by unfold part; omega] at hp
  clear hr
  go_enter Try.func21, Try.ntmps21
  go_wp2_with (go_at_call 23; refine (hp _).mono ?_; rintro e w' ⟨rfl, rfl⟩)
  go_ret
  exact ⟨rfl, rfl⟩

/-- A point. -/
def pt (a b : Int) : Value := .complex .f64 (fl a) (fl b)
theorem pt_eq (a b : Int) : Value.complex .f64 (fl a) (fl b) = pt a b := rfl

set_option maxHeartbeats 1000000 in
theorem of_any (n m : Int) (w : World) :
    Calls Try.prog 9 #[.int .i64 n, .int .i64 m] w fun e w' => e = .returned (pt (part n) (part m)) ∧ w = w' := by
  go_enter Try.func9, Try.ntmps9
  go_wp2_with (go_at_call 21; refine (low_any _ _).mono ?_; rintro e w' ⟨rfl, rfl⟩)
  go_ret
  exact ⟨rfl, rfl⟩
end Go.Proofs.Ytfnbpnabhfkibaa
