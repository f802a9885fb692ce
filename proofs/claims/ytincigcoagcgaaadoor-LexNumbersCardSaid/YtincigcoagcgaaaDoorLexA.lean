/- package lex's run: how many bytes from a place on are of some kind. -/
import Derived.Test.YtincigcoagcgaaaDoorRows
import Derived.Test.YtincigcoagcgaaaDoorLexSpec
import Derived.WalkKit
import Derived.WalkSpells
import Derived.WalkLawsBesides
import Derived.Lib.Hide
import Derived.Deep.LoopGhost
import Derived.Deep.QuietTactic
import Derived.BigQuiet
namespace Go.Proofs.YtincigcoagcgaaaDoor.Pr
set_option linter.unusedVariables false
set_option linter.unusedSimpArgs false
open Go.RowKit Go.Proofs.YtincigcoagcgaaaDoorW.PrintWords Go.Proofs.YtincigcoagcgaaaDoorW.PrintLast Go.Proofs.YtincigcoagcgaaaDoorW.PrintMore

theorem digit_any (c : Int) (w : World) : Calls Tryd.prog 17 #[.int .u8 c] w fun e w' => e = .returned (.bool (isDigit c)) ∧ w = w' := by
  unfold isDigit
  by_cases h1 : 48 ≤ c
  · have h2 : decide (48 ≤ c) = true := decide_eq_true h1
    go_enter Tryd.func17, Tryd.ntmps17
    go_wp2
    go_ret
    exact ⟨by first | rfl | (rw [h2]; rfl) | (simp [*]; done), rfl⟩
  · have h2 : decide (48 ≤ c) = false := decide_eq_false h1
    go_enter Tryd.func17, Tryd.ntmps17
    go_wp2
    go_ret
    exact ⟨by first | rfl | (rw [h2]; rfl) | (simp [*]; done), rfl⟩
theorem lower_any (c : Int) (w : World) : Calls Tryd.prog 18 #[.int .u8 c] w fun e w' => e = .returned (.bool (isLower c)) ∧ w = w' := by
  unfold isLower
  by_cases h1 : 97 ≤ c
  · have h2 : decide (97 ≤ c) = true := decide_eq_true h1
    go_enter Tryd.func18, Tryd.ntmps18
    go_wp2
    go_ret
    exact ⟨by first | rfl | (rw [h2]; rfl) | (simp [*]; done), rfl⟩
  · have h2 : decide (97 ≤ c) = false := decide_eq_false h1
    go_enter Tryd.func18, Tryd.ntmps18
    go_wp2
    go_ret
    exact ⟨by first | rfl | (rw [h2]; rfl) | (simp [*]; done), rfl⟩
theorem upper_any (c : Int) (w : World) : Calls Tryd.prog 20 #[.int .u8 c] w fun e w' => e = .returned (.bool (isUpper c)) ∧ w = w' := by
  unfold isUpper
  by_cases h1 : 65 ≤ c
  · have h2 : decide (65 ≤ c) = true := decide_eq_true h1
    go_enter Tryd.func20, Tryd.ntmps20
    go_wp2
    go_ret
    exact ⟨by first | rfl | (rw [h2]; rfl) | (simp [*]; done), rfl⟩
  · have h2 : decide (65 ≤ c) = false := decide_eq_false h1
    go_enter Tryd.func20, Tryd.ntmps20
    go_wp2
    go_ret
    exact ⟨by first | rfl | (rw [h2]; rfl) | (simp [*]; done), rfl⟩
theorem blank_any (c : Int) (w : World) : Calls Tryd.prog 14 #[.int .u8 c] w fun e w' => e = .returned (.bool (isBlank c)) ∧ w = w' := by
  unfold isBlank
  cases h1 : (c == 32) <;> cases h2 : (c == 10) <;> cases h3 : (c == 9)
  all_goals
    have n1 : (c != 32) = !(c == 32) := rfl
    clear n1
    go_enter Tryd.func14, Tryd.ntmps14
    go_wp2
    go_ret
    exact ⟨by first | rfl | simp [h1, h2, h3], rfl⟩
theorem note_any (c : Int) (w : World) : Calls Tryd.prog 16 #[.int .u8 c] w fun e w' => e = .returned (.bool (isNote c)) ∧ w = w' := by
  unfold isNote
  go_enter Tryd.func16, Tryd.ntmps16
  go_wp2
  go_ret
  exact ⟨rfl, rfl⟩
theorem within_any (c : Int) (w : World) : Calls Tryd.prog 19 #[.int .u8 c] w fun e w' => e = .returned (.bool (isWithin c)) ∧ w = w' := by
  unfold isWithin
  cases h1 : isLower c <;> cases h2 : isUpper c <;> cases h3 : isDigit c
  all_goals
    go_enter Tryd.func19, Tryd.ntmps19
    go_wp2_with (first | (go_at_call 18; refine (lower_any _ _).mono ?_; rintro e w' ⟨rfl, rfl⟩) | (go_at_call 20; refine (upper_any _ _).mono ?_; rintro e w' ⟨rfl, rfl⟩) | (go_at_call 17; refine (digit_any _ _).mono ?_; rintro e w' ⟨rfl, rfl⟩))
    go_ret
    exact ⟨by first | rfl | simp [h1, h2, h3], rfl⟩

theorem runDigit_any (A : Option Addr) (c : Nat) (xs : List Int) (w : World) (hr : Kd.C (Kd.int .u8) w A xs.length xs) (hm : xs.length ≤ 4096) (i : Nat) (hi : i ≤ xs.length) :
    Calls Tryd.prog 15 #[.slice A xs.length c, .int .i64 i, .func (.func 17) #[] #[]] w fun e w' => e = .returned (.int .i64 (lead isDigit (xs.drop i))) ∧ w = w' := by
  have HR := Lib.hid hr
  clear hr
  go_enter Tryd.func15, Tryd.ntmps15
  go_wp2_with fail
  go_loopg [7] (xs.length - i) (fun g v wr => wr = w ∧ ∃ k : Nat, i + k ≤ xs.length ∧ g = xs.length - (i + k) ∧ v = .int .i64 k ∧ lead isDigit (xs.drop i) = k + lead isDigit (xs.drop (i + k)))
  case atStart => exact ⟨rfl, 0, by omega, rfl, rfl, by simp⟩
  case round =>
    obtain ⟨rfl, k, hk, rfl, rfl, hl⟩ := hrel
    have hd := lead_drop isDigit xs (i + k) hk
    have HL := Lib.hid hl
    clear hl
    by_cases hlt : i + k < xs.length
    · rw [if_pos hlt] at hd
      obtain ⟨ad, rfl, hc⟩ := Kd.at_int HR.out ((i : Int) + k) (by omega) (by omega)
      rw [show ((i : Int) + (k : Int)).toNat = i + k from by omega] at hc
      have e0 : rd xs ((i + k : Nat) : Int) = rd xs ((i : Int) + k) := rfl
      rw [e0] at hd
      have hlt' : (i : Int) + (k : Int) < (xs.length : Int) := by omega
      have HD := Lib.hid hd
      have HK : Hid (i + k < xs.length) := hlt
      clear hd e0 hlt
      cases hp : isDigit (rd xs ((i : Int) + k)) with
      | true =>
        have hF1 := digit_any (rd xs ((i : Int) + k))
        rw [hp] at hF1
        have HP := Lib.hid hp
        clear hp
        go_wp2_with (go_at_call 17; refine (hF1 _).mono ?_; rintro e w' ⟨rfl, rfl⟩)
        go_roundg (xs.length - (i + (k + 1)))
        case measure => have := HK.out; omega
        case rel => exact ⟨rfl, k + 1, by have := HK.out; omega, rfl, by go_num, by rw [HL.out, HD.out, if_pos HP.out, show i + (k + 1) = i + k + 1 from rfl]; omega⟩
      | false =>
        have hF1 := digit_any (rd xs ((i : Int) + k))
        rw [hp] at hF1
        have HP := Lib.hid hp
        clear hp
        go_wp2_with (go_at_call 17; refine (hF1 _).mono ?_; rintro e w' ⟨rfl, rfl⟩)
        go_ret
        exact ⟨by rw [HL.out, HD.out, if_neg (by rw [HP.out]; decide)]; rfl, rfl⟩
    · rw [if_neg hlt] at hd
      have hlt' : ¬ (i : Int) + (k : Int) < (xs.length : Int) := by omega
      have HD := Lib.hid hd
      clear hd hlt
      go_wp2
      go_ret
      exact ⟨by rw [HL.out, HD.out]; rfl, rfl⟩
theorem runWithin_any (A : Option Addr) (c : Nat) (xs : List Int) (w : World) (hr : Kd.C (Kd.int .u8) w A xs.length xs) (hm : xs.length ≤ 4096) (i : Nat) (hi : i ≤ xs.length) :
    Calls Tryd.prog 15 #[.slice A xs.length c, .int .i64 i, .func (.func 19) #[] #[]] w fun e w' => e = .returned (.int .i64 (lead isWithin (xs.drop i))) ∧ w = w' := by
  have HR := Lib.hid hr
  clear hr
  go_enter Tryd.func15, Tryd.ntmps15
  go_wp2_with fail
  go_loopg [7] (xs.length - i) (fun g v wr => wr = w ∧ ∃ k : Nat, i + k ≤ xs.length ∧ g = xs.length - (i + k) ∧ v = .int .i64 k ∧ lead isWithin (xs.drop i) = k + lead isWithin (xs.drop (i + k)))
  case atStart => exact ⟨rfl, 0, by omega, rfl, rfl, by simp⟩
  case round =>
    obtain ⟨rfl, k, hk, rfl, rfl, hl⟩ := hrel
    have hd := lead_drop isWithin xs (i + k) hk
    have HL := Lib.hid hl
    clear hl
    by_cases hlt : i + k < xs.length
    · rw [if_pos hlt] at hd
      obtain ⟨ad, rfl, hc⟩ := Kd.at_int HR.out ((i : Int) + k) (by omega) (by omega)
      rw [show ((i : Int) + (k : Int)).toNat = i + k from by omega] at hc
      have e0 : rd xs ((i + k : Nat) : Int) = rd xs ((i : Int) + k) := rfl
      rw [e0] at hd
      have hlt' : (i : Int) + (k : Int) < (xs.length : Int) := by omega
      have HD := Lib.hid hd
      have HK : Hid (i + k < xs.length) := hlt
      clear hd e0 hlt
      cases hp : isWithin (rd xs ((i : Int) + k)) with
      | true =>
        have hF1 := within_any (rd xs ((i : Int) + k))
        rw [hp] at hF1
        have HP := Lib.hid hp
        clear hp
        go_wp2_with (go_at_call 19; refine (hF1 _).mono ?_; rintro e w' ⟨rfl, rfl⟩)
        go_roundg (xs.length - (i + (k + 1)))
        case measure => have := HK.out; omega
        case rel => exact ⟨rfl, k + 1, by have := HK.out; omega, rfl, by go_num, by rw [HL.out, HD.out, if_pos HP.out, show i + (k + 1) = i + k + 1 from rfl]; omega⟩
      | false =>
        have hF1 := within_any (rd xs ((i : Int) + k))
        rw [hp] at hF1
        have HP := Lib.hid hp
        clear hp
        go_wp2_with (go_at_call 19; refine (hF1 _).mono ?_; rintro e w' ⟨rfl, rfl⟩)
        go_ret
        exact ⟨by rw [HL.out, HD.out, if_neg (by rw [HP.out]; decide)]; rfl, rfl⟩
    · rw [if_neg hlt] at hd
      have hlt' : ¬ (i : Int) + (k : Int) < (xs.length : Int) := by omega
      have HD := Lib.hid hd
      clear hd hlt
      go_wp2
      go_ret
      exact ⟨by rw [HL.out, HD.out]; rfl, rfl⟩
theorem runNote_any (A : Option Addr) (c : Nat) (xs : List Int) (w : World) (hr : Kd.C (Kd.int .u8) w A xs.length xs) (hm : xs.length ≤ 4096) (i : Nat) (hi : i ≤ xs.length) :
    Calls Tryd.prog 15 #[.slice A xs.length c, .int .i64 i, .func (.func 16) #[] #[]] w fun e w' => e = .returned (.int .i64 (lead isNote (xs.drop i))) ∧ w = w' := by
  have HR := Lib.hid hr
  clear hr
  go_enter Tryd.func15, Tryd.ntmps15
  go_wp2_with fail
  go_loopg [7] (xs.length - i) (fun g v wr => wr = w ∧ ∃ k : Nat, i + k ≤ xs.length ∧ g = xs.length - (i + k) ∧ v = .int .i64 k ∧ lead isNote (xs.drop i) = k + lead isNote (xs.drop (i + k)))
  case atStart => exact ⟨rfl, 0, by omega, rfl, rfl, by simp⟩
  case round =>
    obtain ⟨rfl, k, hk, rfl, rfl, hl⟩ := hrel
    have hd := lead_drop isNote xs (i + k) hk
    have HL := Lib.hid hl
    clear hl
    by_cases hlt : i + k < xs.length
    · rw [if_pos hlt] at hd
      obtain ⟨ad, rfl, hc⟩ := Kd.at_int HR.out ((i : Int) + k) (by omega) (by omega)
      rw [show ((i : Int) + (k : Int)).toNat = i + k from by omega] at hc
      have e0 : rd xs ((i + k : Nat) : Int) = rd xs ((i : Int) + k) := rfl
      rw [e0] at hd
      have hlt' : (i : Int) + (k : Int) < (xs.length : Int) := by omega
      have HD := Lib.hid hd
      have HK : Hid (i + k < xs.length) := hlt
      clear hd e0 hlt
      cases hp : isNote (rd xs ((i : Int) + k)) with
      | true =>
        have hF1 := note_any (rd xs ((i : Int) + k))
        rw [hp] at hF1
        have HP := Lib.hid hp
        clear hp
        go_wp2_with (go_at_call 16; refine (hF1 _).mono ?_; rintro e w' ⟨rfl, rfl⟩)
        go_roundg (xs.length - (i + (k + 1)))
        case measure => have := HK.out; omega
        case rel => exact ⟨rfl, k + 1, by have := HK.out; omega, rfl, by go_num, by rw [HL.out, HD.out, if_pos HP.out, show i + (k + 1) = i + k + 1 from rfl]; omega⟩
      | false =>
        have hF1 := note_any (rd xs ((i : Int) + k))
        rw [hp] at hF1
        have HP := Lib.hid hp
        clear hp
        go_wp2_with (go_at_call 16; refine (hF1 _).mono ?_; rintro e w' ⟨rfl, rfl⟩)
        go_ret
        exact ⟨by rw [HL.out, HD.out, if_neg (by rw [HP.out]; decide)]; rfl, rfl⟩
    · rw [if_neg hlt] at hd
      have hlt' : ¬ (i : Int) + (k : Int) < (xs.length : Int) := by omega
      have HD := Lib.hid hd
      clear hd hlt
      go_wp2
      go_ret
      exact ⟨by rw [HL.out, HD.out]; rfl, rfl⟩
theorem runDigit_at (A : Option Addr) (c : Nat) (xs : List Int) (w : World) (hr : Kd.C (Kd.int .u8) w A xs.length xs) (hm : xs.length ≤ 4096) (i : Nat) (hi : i ≤ xs.length) (x : Int) (hx : x = (i : Int)) :
    Calls Tryd.prog 15 #[.slice A xs.length c, .int .i64 x, .func (.func 17) #[] #[]] w fun e w' => e = .returned (.int .i64 (lead isDigit (xs.drop i))) ∧ w = w' := by
  subst hx; exact runDigit_any A c xs w hr hm i hi
theorem runWithin_at (A : Option Addr) (c : Nat) (xs : List Int) (w : World) (hr : Kd.C (Kd.int .u8) w A xs.length xs) (hm : xs.length ≤ 4096) (i : Nat) (hi : i ≤ xs.length) (x : Int) (hx : x = (i : Int)) :
    Calls Tryd.prog 15 #[.slice A xs.length c, .int .i64 x, .func (.func 19) #[] #[]] w fun e w' => e = .returned (.int .i64 (lead isWithin (xs.drop i))) ∧ w = w' := by
  subst hx; exact runWithin_any A c xs w hr hm i hi
theorem runNote_at (A : Option Addr) (c : Nat) (xs : List Int) (w : World) (hr : Kd.C (Kd.int .u8) w A xs.length xs) (hm : xs.length ≤ 4096) (i : Nat) (hi : i ≤ xs.length) (x : Int) (hx : x = (i : Int)) :
    Calls Tryd.prog 15 #[.slice A xs.length c, .int .i64 x, .func (.func 16) #[] #[]] w fun e w' => e = .returned (.int .i64 (lead isNote (xs.drop i))) ∧ w = w' := by
  subst hx; exact runNote_any A c xs w hr hm i hi
end Go.Proofs.YtincigcoagcgaaaDoor.Pr
