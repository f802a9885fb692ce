/- package lex's Tokens: what it comes to. -/
import Derived.Test.YtincigcoagcgaaaDoorLexA
import Derived.Test.YtincigcoagcgaaaDoorScopes
import Derived.Test.YtincigcoagcgaaaDoorLexN
namespace Go.Proofs.YtincigcoagcgaaaDoor.Pr
set_option linter.unusedVariables false
set_option linter.unusedSimpArgs false
open Go.RowKit Go.Proofs.YtincigcoagcgaaaDoorW.PrintWords Go.Proofs.YtincigcoagcgaaaDoorW.PrintLast Go.Proofs.YtincigcoagcgaaaDoorW.PrintMore

/-- What holds wherever the run stands between two tokens. -/
structure Lexing (w0 : World) (xs : List Int) (res : List S33 × Int × Int) (vo : Value) (at_ : Nat) (toks : List S33) (w : World) : Prop where
  own : Kd.R k33 33 w w0.heap.size (fun _ => True) vo toks
  below : Below w0.heap.size w0 w
  le : at_ ≤ xs.length
  few : toks.length ≤ at_

set_option maxRecDepth 100000 in
def J0 (w0 : World) (A : Option Addr) (c : Nat) (xs : List Int) (res : List S33 × Int × Int) (m : Nat) (a : Act) (w : World) : Prop :=
  ∃ (vo : Value) (at_ : Nat) (toks : List S33), Lexing w0 xs res vo at_ toks w ∧ m = 3 * (xs.length - at_) + 2 ∧ (∃ k, xs.length - at_ < k ∧ lexGo k (xs.drop at_) at_ toks = res) ∧
    ∃ f : Nat → Value, a = { tmps := #[.slice A xs.length c, f 1, f 2, f 3, f 4, vo, .int .i64 (at_ : Int), f 7, f 8, f 9, f 10, f 11, f 12, f 13, f 14, f 15, f 16, f 17, f 18, f 19, f 20, f 21, f 22, f 23, f 24, f 25, f 26, f 27, f 28, f 29, f 30, f 31, f 32, f 33, f 34, f 35, f 36, f 37, f 38, f 39, f 40, f 41, f 42, f 43, f 44, f 45, f 46, f 47, f 48, f 49, f 50, f 51, f 52, f 53, f 54, f 55, f 56, f 57, f 58, f 59, f 60, f 61, f 62, f 63, f 64, f 65, f 66, f 67, f 68, f 69, f 70, f 71, f 72, f 73, f 74, f 75, f 76, f 77, f 78, f 79, f 80, f 81, f 82, f 83, f 84, f 85, f 86, f 87, f 88, f 89, f 90, f 91, f 92, f 93, f 94, f 95, f 96, f 97, f 98, f 99, f 100, f 101, f 102, f 103, f 104, f 105, f 106, f 107, f 108, f 109, f 110, f 111, f 112, f 113, f 114, f 115, f 116, f 117, f 118, f 119, f 120, f 121, f 122, f 123, f 124, f 125, f 126, f 127, f 128, f 129, f 130, f 131, f 132, f 133, f 134, f 135, f 136, f 137, f 138, f 139, f 140, f 141, f 142, f 143, f 144, f 145, f 146, f 147, f 148, f 149, f 150, f 151, f 152, f 153, f 154, f 155, f 156, f 157, f 158, f 159, f 160, f 161, f 162, f 163, f 164, f 165, f 166, f 167, f 168, f 169, f 170, f 171, f 172, f 173, f 174, f 175, f 176, f 177, f 178, f 179, f 180, f 181, f 182, f 183, f 184], defers := [] }
set_option maxRecDepth 100000 in
def J1 (w0 : World) (A : Option Addr) (c : Nat) (xs : List Int) (res : List S33 × Int × Int) (m : Nat) (a : Act) (w : World) : Prop :=
  ∃ (vo : Value) (at_ n : Nat) (toks : List S33), Lexing w0 xs res vo at_ toks w ∧ m = 3 * (xs.length - at_) + 1 ∧ 1 ≤ n ∧ at_ + n ≤ xs.length ∧ n = lead isDigit ((xs.drop at_).drop 1) + 1 ∧ (isDigit (rd xs at_) = true ∨ rd xs at_ = 45 ∧ 2 ≤ n) ∧
    (numBad (xs.drop at_) n = true → ([], (at_ : Int), 2) = res) ∧ (numBad (xs.drop at_) n = false → ∃ k, xs.length - (at_ + n) < k ∧ lexGo k (xs.drop (at_ + n)) ((at_ + n : Nat) : Int) (toks ++ [⟨2, at_, strOfNums ((xs.drop at_).take n), numVal ((xs.drop at_).take n)⟩]) = res) ∧
    ∃ f : Nat → Value, a = { tmps := #[.slice A xs.length c, f 1, f 2, f 3, f 4, vo, .int .i64 (at_ : Int), .int .i64 (n : Int), .int .i64 2, f 9, .int .u8 (rd xs at_), f 11, f 12, f 13, f 14, f 15, f 16, f 17, f 18, f 19, f 20, f 21, f 22, f 23, f 24, f 25, f 26, f 27, f 28, f 29, f 30, f 31, f 32, f 33, f 34, f 35, f 36, f 37, f 38, f 39, f 40, f 41, f 42, f 43, f 44, f 45, f 46, f 47, f 48, f 49, f 50, f 51, f 52, f 53, f 54, f 55, f 56, f 57, f 58, f 59, f 60, f 61, f 62, f 63, f 64, f 65, f 66, f 67, f 68, f 69, f 70, f 71, f 72, f 73, f 74, f 75, f 76, f 77, f 78, f 79, f 80, f 81, f 82, f 83, f 84, f 85, f 86, f 87, f 88, f 89, f 90, f 91, f 92, f 93, f 94, f 95, f 96, f 97, f 98, f 99, f 100, f 101, f 102, f 103, f 104, f 105, f 106, f 107, f 108, f 109, f 110, f 111, f 112, f 113, f 114, f 115, f 116, f 117, f 118, f 119, f 120, f 121, f 122, f 123, f 124, f 125, f 126, f 127, f 128, f 129, f 130, f 131, f 132, f 133, f 134, f 135, f 136, f 137, f 138, f 139, f 140, f 141, f 142, f 143, f 144, f 145, f 146, f 147, f 148, f 149, f 150, f 151, f 152, f 153, f 154, f 155, f 156, f 157, f 158, f 159, f 160, f 161, f 162, f 163, f 164, f 165, f 166, f 167, f 168, f 169, f 170, f 171, f 172, f 173, f 174, f 175, f 176, f 177, f 178, f 179, f 180, f 181, f 182, f 183, f 184], defers := [] }
set_option maxRecDepth 100000 in
def J2 (w0 : World) (A : Option Addr) (c : Nat) (xs : List Int) (res : List S33 × Int × Int) (m : Nat) (a : Act) (w : World) : Prop :=
  ∃ (vo : Value) (at_ n : Nat) (kd v : Int) (toks : List S33), Lexing w0 xs res vo at_ toks w ∧ m = 3 * (xs.length - at_) ∧ 1 ≤ n ∧ at_ + n ≤ xs.length ∧
    (∃ k, xs.length - (at_ + n) < k ∧ lexGo k (xs.drop (at_ + n)) ((at_ + n : Nat) : Int) (toks ++ [⟨kd, at_, strOfNums ((xs.drop at_).take n), v⟩]) = res) ∧
    ∃ f : Nat → Value, a = { tmps := #[.slice A xs.length c, f 1, f 2, f 3, f 4, vo, .int .i64 (at_ : Int), .int .i64 (n : Int), .int .i64 kd, .int .i64 v, f 10, f 11, f 12, f 13, f 14, f 15, f 16, f 17, f 18, f 19, f 20, f 21, f 22, f 23, f 24, f 25, f 26, f 27, f 28, f 29, f 30, f 31, f 32, f 33, f 34, f 35, f 36, f 37, f 38, f 39, f 40, f 41, f 42, f 43, f 44, f 45, f 46, f 47, f 48, f 49, f 50, f 51, f 52, f 53, f 54, f 55, f 56, f 57, f 58, f 59, f 60, f 61, f 62, f 63, f 64, f 65, f 66, f 67, f 68, f 69, f 70, f 71, f 72, f 73, f 74, f 75, f 76, f 77, f 78, f 79, f 80, f 81, f 82, f 83, f 84, f 85, f 86, f 87, f 88, f 89, f 90, f 91, f 92, f 93, f 94, f 95, f 96, f 97, f 98, f 99, f 100, f 101, f 102, f 103, f 104, f 105, f 106, f 107, f 108, f 109, f 110, f 111, f 112, f 113, f 114, f 115, f 116, f 117, f 118, f 119, f 120, f 121, f 122, f 123, f 124, f 125, f 126, f 127, f 128, f 129, f 130, f 131, f 132, f 133, f 134, f 135, f 136, f 137, f 138, f 139, f 140, f 141, f 142, f 143, f 144, f 145, f 146, f 147, f 148, f 149, f 150, f 151, f 152, f 153, f 154, f 155, f 156, f 157, f 158, f 159, f 160, f 161, f 162, f 163, f 164, f 165, f 166, f 167, f 168, f 169, f 170, f 171, f 172, f 173, f 174, f 175, f 176, f 177, f 178, f 179, f 180, f 181, f 182, f 183, f 184], defers := [] }

theorem bad_ends {w w1 : World} {r1 : List S33} {r2 r3 i j : Int} (h : ([], i, j) = (r1, r2, r3)) (hb : Below w.heap.size w w1) :
    ∃ v0_ : Value, Ending.returned (.tuple #[.slice none 0 0, .int .i64 i, .int .i64 j]) = .returned (.tuple #[v0_, .int .i64 r2, .int .i64 r3]) ∧ Kd.R k33 33 w1 w.heap.size (fun _ => True) v0_ r1 ∧ Below w.heap.size w w1 := by
  simp only [Prod.mk.injEq] at h
  obtain ⟨rfl, rfl, rfl⟩ := h
  exact ⟨_, rfl, Kd.R_nil _ _ _ _ _, hb⟩
theorem end_ends {w w1 : World} {r1 toks : List S33} {vo : Value} {r2 r3 i j : Int} (h : (toks, i, j) = (r1, r2, r3)) (ho : Kd.R k33 33 w1 w.heap.size (fun _ => True) vo toks) (hb : Below w.heap.size w w1) :
    ∃ v0_ : Value, Ending.returned (.tuple #[vo, .int .i64 i, .int .i64 j]) = .returned (.tuple #[v0_, .int .i64 r2, .int .i64 r3]) ∧ Kd.R k33 33 w1 w.heap.size (fun _ => True) v0_ r1 ∧ Below w.heap.size w w1 := by
  simp only [Prod.mk.injEq] at h
  obtain ⟨rfl, rfl, rfl⟩ := h
  exact ⟨_, rfl, ho, hb⟩

/-- What holds at the labels. -/
def JL (w0 : World) (A : Option Addr) (c : Nat) (xs : List Int) (res : List S33 × Int × Int) (l m : Nat) (a : Act) (w : World) : Prop :=
  (l = 0 ∧ J0 w0 A c xs res m a w) ∨ (l = 1 ∧ J1 w0 A c xs res m a w) ∨ (l = 2 ∧ J2 w0 A c xs res m a w)

set_option maxRecDepth 100000 in
theorem at0 {w0 w : World} {A : Option Addr} {c : Nat} {xs : List Int} {res : List S33 × Int × Int} {vo : Value} {at_ : Nat} {toks : List S33} {i : Int} {t : Array Value} (hL : Lexing w0 xs res vo at_ toks w)
    (hgo : ∃ k, xs.length - at_ < k ∧ lexGo k (xs.drop at_) at_ toks = res) (hi : i = at_) (ht : t = #[.slice A xs.length c, t.getD 1 undef, t.getD 2 undef, t.getD 3 undef, t.getD 4 undef, vo, .int .i64 i, t.getD 7 undef, t.getD 8 undef, t.getD 9 undef, t.getD 10 undef, t.getD 11 undef, t.getD 12 undef, t.getD 13 undef, t.getD 14 undef, t.getD 15 undef, t.getD 16 undef, t.getD 17 undef, t.getD 18 undef, t.getD 19 undef, t.getD 20 undef, t.getD 21 undef, t.getD 22 undef, t.getD 23 undef, t.getD 24 undef, t.getD 25 undef, t.getD 26 undef, t.getD 27 undef, t.getD 28 undef, t.getD 29 undef, t.getD 30 undef, t.getD 31 undef, t.getD 32 undef, t.getD 33 undef, t.getD 34 undef, t.getD 35 undef, t.getD 36 undef, t.getD 37 undef, t.getD 38 undef, t.getD 39 undef, t.getD 40 undef, t.getD 41 undef, t.getD 42 undef, t.getD 43 undef, t.getD 44 undef, t.getD 45 undef, t.getD 46 undef, t.getD 47 undef, t.getD 48 undef, t.getD 49 undef, t.getD 50 undef, t.getD 51 undef, t.getD 52 undef, t.getD 53 undef, t.getD 54 undef, t.getD 55 undef, t.getD 56 undef, t.getD 57 undef, t.getD 58 undef, t.getD 59 undef, t.getD 60 undef, t.getD 61 undef, t.getD 62 undef, t.getD 63 undef, t.getD 64 undef, t.getD 65 undef, t.getD 66 undef, t.getD 67 undef, t.getD 68 undef, t.getD 69 undef, t.getD 70 undef, t.getD 71 undef, t.getD 72 undef, t.getD 73 undef, t.getD 74 undef, t.getD 75 undef, t.getD 76 undef, t.getD 77 undef, t.getD 78 undef, t.getD 79 undef, t.getD 80 undef, t.getD 81 undef, t.getD 82 undef, t.getD 83 undef, t.getD 84 undef, t.getD 85 undef, t.getD 86 undef, t.getD 87 undef, t.getD 88 undef, t.getD 89 undef, t.getD 90 undef, t.getD 91 undef, t.getD 92 undef, t.getD 93 undef, t.getD 94 undef, t.getD 95 undef, t.getD 96 undef, t.getD 97 undef, t.getD 98 undef, t.getD 99 undef, t.getD 100 undef, t.getD 101 undef, t.getD 102 undef, t.getD 103 undef, t.getD 104 undef, t.getD 105 undef, t.getD 106 undef, t.getD 107 undef, t.getD 108 undef, t.getD 109 undef, t.getD 110 undef, t.getD 111 undef, t.getD 112 undef, t.getD 113 undef, t.getD 114 undef, t.getD 115 undef, t.getD 116 undef, t.getD 117 undef, t.getD 118 undef, t.getD 119 undef, t.getD 120 undef, t.getD 121 undef, t.getD 122 undef, t.getD 123 undef, t.getD 124 undef, t.getD 125 undef, t.getD 126 undef, t.getD 127 undef, t.getD 128 undef, t.getD 129 undef, t.getD 130 undef, t.getD 131 undef, t.getD 132 undef, t.getD 133 undef, t.getD 134 undef, t.getD 135 undef, t.getD 136 undef, t.getD 137 undef, t.getD 138 undef, t.getD 139 undef, t.getD 140 undef, t.getD 141 undef, t.getD 142 undef, t.getD 143 undef, t.getD 144 undef, t.getD 145 undef, t.getD 146 undef, t.getD 147 undef, t.getD 148 undef, t.getD 149 undef, t.getD 150 undef, t.getD 151 undef, t.getD 152 undef, t.getD 153 undef, t.getD 154 undef, t.getD 155 undef, t.getD 156 undef, t.getD 157 undef, t.getD 158 undef, t.getD 159 undef, t.getD 160 undef, t.getD 161 undef, t.getD 162 undef, t.getD 163 undef, t.getD 164 undef, t.getD 165 undef, t.getD 166 undef, t.getD 167 undef, t.getD 168 undef, t.getD 169 undef, t.getD 170 undef, t.getD 171 undef, t.getD 172 undef, t.getD 173 undef, t.getD 174 undef, t.getD 175 undef, t.getD 176 undef, t.getD 177 undef, t.getD 178 undef, t.getD 179 undef, t.getD 180 undef, t.getD 181 undef, t.getD 182 undef, t.getD 183 undef, t.getD 184 undef]) : JL w0 A c xs res 0 (3 * (xs.length - at_) + 2) { tmps := t, defers := [] } w := by
  subst hi
  refine .inl ⟨rfl, vo, at_, toks, hL, rfl, hgo, fun i => t.getD i undef, ?_⟩
  exact congrArg (fun x => ({ tmps := x, defers := [] } : Act)) ht
set_option maxRecDepth 100000 in
theorem to0 {w0 w : World} {A : Option Addr} {c m : Nat} {xs : List Int} {res : List S33 × Int × Int} {vo : Value} {at_ : Nat} {toks : List S33} {i : Int} {t : Array Value} (hlt : 3 * (xs.length - at_) + 2 < m) (hL : Lexing w0 xs res vo at_ toks w)
    (hgo : ∃ k, xs.length - at_ < k ∧ lexGo k (xs.drop at_) at_ toks = res) (hi : i = at_) (ht : t = #[.slice A xs.length c, t.getD 1 undef, t.getD 2 undef, t.getD 3 undef, t.getD 4 undef, vo, .int .i64 i, t.getD 7 undef, t.getD 8 undef, t.getD 9 undef, t.getD 10 undef, t.getD 11 undef, t.getD 12 undef, t.getD 13 undef, t.getD 14 undef, t.getD 15 undef, t.getD 16 undef, t.getD 17 undef, t.getD 18 undef, t.getD 19 undef, t.getD 20 undef, t.getD 21 undef, t.getD 22 undef, t.getD 23 undef, t.getD 24 undef, t.getD 25 undef, t.getD 26 undef, t.getD 27 undef, t.getD 28 undef, t.getD 29 undef, t.getD 30 undef, t.getD 31 undef, t.getD 32 undef, t.getD 33 undef, t.getD 34 undef, t.getD 35 undef, t.getD 36 undef, t.getD 37 undef, t.getD 38 undef, t.getD 39 undef, t.getD 40 undef, t.getD 41 undef, t.getD 42 undef, t.getD 43 undef, t.getD 44 undef, t.getD 45 undef, t.getD 46 undef, t.getD 47 undef, t.getD 48 undef, t.getD 49 undef, t.getD 50 undef, t.getD 51 undef, t.getD 52 undef, t.getD 53 undef, t.getD 54 undef, t.getD 55 undef, t.getD 56 undef, t.getD 57 undef, t.getD 58 undef, t.getD 59 undef, t.getD 60 undef, t.getD 61 undef, t.getD 62 undef, t.getD 63 undef, t.getD 64 undef, t.getD 65 undef, t.getD 66 undef, t.getD 67 undef, t.getD 68 undef, t.getD 69 undef, t.getD 70 undef, t.getD 71 undef, t.getD 72 undef, t.getD 73 undef, t.getD 74 undef, t.getD 75 undef, t.getD 76 undef, t.getD 77 undef, t.getD 78 undef, t.getD 79 undef, t.getD 80 undef, t.getD 81 undef, t.getD 82 undef, t.getD 83 undef, t.getD 84 undef, t.getD 85 undef, t.getD 86 undef, t.getD 87 undef, t.getD 88 undef, t.getD 89 undef, t.getD 90 undef, t.getD 91 undef, t.getD 92 undef, t.getD 93 undef, t.getD 94 undef, t.getD 95 undef, t.getD 96 undef, t.getD 97 undef, t.getD 98 undef, t.getD 99 undef, t.getD 100 undef, t.getD 101 undef, t.getD 102 undef, t.getD 103 undef, t.getD 104 undef, t.getD 105 undef, t.getD 106 undef, t.getD 107 undef, t.getD 108 undef, t.getD 109 undef, t.getD 110 undef, t.getD 111 undef, t.getD 112 undef, t.getD 113 undef, t.getD 114 undef, t.getD 115 undef, t.getD 116 undef, t.getD 117 undef, t.getD 118 undef, t.getD 119 undef, t.getD 120 undef, t.getD 121 undef, t.getD 122 undef, t.getD 123 undef, t.getD 124 undef, t.getD 125 undef, t.getD 126 undef, t.getD 127 undef, t.getD 128 undef, t.getD 129 undef, t.getD 130 undef, t.getD 131 undef, t.getD 132 undef, t.getD 133 undef, t.getD 134 undef, t.getD 135 undef, t.getD 136 undef, t.getD 137 undef, t.getD 138 undef, t.getD 139 undef, t.getD 140 undef, t.getD 141 undef, t.getD 142 undef, t.getD 143 undef, t.getD 144 undef, t.getD 145 undef, t.getD 146 undef, t.getD 147 undef, t.getD 148 undef, t.getD 149 undef, t.getD 150 undef, t.getD 151 undef, t.getD 152 undef, t.getD 153 undef, t.getD 154 undef, t.getD 155 undef, t.getD 156 undef, t.getD 157 undef, t.getD 158 undef, t.getD 159 undef, t.getD 160 undef, t.getD 161 undef, t.getD 162 undef, t.getD 163 undef, t.getD 164 undef, t.getD 165 undef, t.getD 166 undef, t.getD 167 undef, t.getD 168 undef, t.getD 169 undef, t.getD 170 undef, t.getD 171 undef, t.getD 172 undef, t.getD 173 undef, t.getD 174 undef, t.getD 175 undef, t.getD 176 undef, t.getD 177 undef, t.getD 178 undef, t.getD 179 undef, t.getD 180 undef, t.getD 181 undef, t.getD 182 undef, t.getD 183 undef, t.getD 184 undef]) : ∃ m', m' < m ∧ JL w0 A c xs res 0 m' { tmps := t, defers := [] } w := by
  subst hi
  refine ⟨_, hlt, .inl ⟨rfl, vo, at_, toks, hL, rfl, hgo, fun i => t.getD i undef, ?_⟩⟩
  exact congrArg (fun x => ({ tmps := x, defers := [] } : Act)) ht
set_option maxRecDepth 100000 in
theorem to1 {w0 w : World} {A : Option Addr} {c m : Nat} {xs : List Int} {res : List S33 × Int × Int} {vo : Value} {at_ n : Nat} {toks : List S33} {i j : Int} {t : Array Value} (hlt : 3 * (xs.length - at_) + 1 < m) (hL : Lexing w0 xs res vo at_ toks w)
    (h1 : 1 ≤ n) (h2 : at_ + n ≤ xs.length) (h3 : n = lead isDigit ((xs.drop at_).drop 1) + 1) (h4 : isDigit (rd xs at_) = true ∨ rd xs at_ = 45 ∧ 2 ≤ n)
    (hgo : (numBad (xs.drop at_) n = true → ([], (at_ : Int), 2) = res) ∧ (numBad (xs.drop at_) n = false → ∃ k, xs.length - (at_ + n) < k ∧ lexGo k (xs.drop (at_ + n)) ((at_ + n : Nat) : Int) (toks ++ [⟨2, at_, strOfNums ((xs.drop at_).take n), numVal ((xs.drop at_).take n)⟩]) = res))
    (hi : i = at_) (hj : j = n) (ht : t = #[.slice A xs.length c, t.getD 1 undef, t.getD 2 undef, t.getD 3 undef, t.getD 4 undef, vo, .int .i64 i, .int .i64 j, .int .i64 2, t.getD 9 undef, .int .u8 (rd xs at_), t.getD 11 undef, t.getD 12 undef, t.getD 13 undef, t.getD 14 undef, t.getD 15 undef, t.getD 16 undef, t.getD 17 undef, t.getD 18 undef, t.getD 19 undef, t.getD 20 undef, t.getD 21 undef, t.getD 22 undef, t.getD 23 undef, t.getD 24 undef, t.getD 25 undef, t.getD 26 undef, t.getD 27 undef, t.getD 28 undef, t.getD 29 undef, t.getD 30 undef, t.getD 31 undef, t.getD 32 undef, t.getD 33 undef, t.getD 34 undef, t.getD 35 undef, t.getD 36 undef, t.getD 37 undef, t.getD 38 undef, t.getD 39 undef, t.getD 40 undef, t.getD 41 undef, t.getD 42 undef, t.getD 43 undef, t.getD 44 undef, t.getD 45 undef, t.getD 46 undef, t.getD 47 undef, t.getD 48 undef, t.getD 49 undef, t.getD 50 undef, t.getD 51 undef, t.getD 52 undef, t.getD 53 undef, t.getD 54 undef, t.getD 55 undef, t.getD 56 undef, t.getD 57 undef, t.getD 58 undef, t.getD 59 undef, t.getD 60 undef, t.getD 61 undef, t.getD 62 undef, t.getD 63 undef, t.getD 64 undef, t.getD 65 undef, t.getD 66 undef, t.getD 67 undef, t.getD 68 undef, t.getD 69 undef, t.getD 70 undef, t.getD 71 undef, t.getD 72 undef, t.getD 73 undef, t.getD 74 undef, t.getD 75 undef, t.getD 76 undef, t.getD 77 undef, t.getD 78 undef, t.getD 79 undef, t.getD 80 undef, t.getD 81 undef, t.getD 82 undef, t.getD 83 undef, t.getD 84 undef, t.getD 85 undef, t.getD 86 undef, t.getD 87 undef, t.getD 88 undef, t.getD 89 undef, t.getD 90 undef, t.getD 91 undef, t.getD 92 undef, t.getD 93 undef, t.getD 94 undef, t.getD 95 undef, t.getD 96 undef, t.getD 97 undef, t.getD 98 undef, t.getD 99 undef, t.getD 100 undef, t.getD 101 undef, t.getD 102 undef, t.getD 103 undef, t.getD 104 undef, t.getD 105 undef, t.getD 106 undef, t.getD 107 undef, t.getD 108 undef, t.getD 109 undef, t.getD 110 undef, t.getD 111 undef, t.getD 112 undef, t.getD 113 undef, t.getD 114 undef, t.getD 115 undef, t.getD 116 undef, t.getD 117 undef, t.getD 118 undef, t.getD 119 undef, t.getD 120 undef, t.getD 121 undef, t.getD 122 undef, t.getD 123 undef, t.getD 124 undef, t.getD 125 undef, t.getD 126 undef, t.getD 127 undef, t.getD 128 undef, t.getD 129 undef, t.getD 130 undef, t.getD 131 undef, t.getD 132 undef, t.getD 133 undef, t.getD 134 undef, t.getD 135 undef, t.getD 136 undef, t.getD 137 undef, t.getD 138 undef, t.getD 139 undef, t.getD 140 undef, t.getD 141 undef, t.getD 142 undef, t.getD 143 undef, t.getD 144 undef, t.getD 145 undef, t.getD 146 undef, t.getD 147 undef, t.getD 148 undef, t.getD 149 undef, t.getD 150 undef, t.getD 151 undef, t.getD 152 undef, t.getD 153 undef, t.getD 154 undef, t.getD 155 undef, t.getD 156 undef, t.getD 157 undef, t.getD 158 undef, t.getD 159 undef, t.getD 160 undef, t.getD 161 undef, t.getD 162 undef, t.getD 163 undef, t.getD 164 undef, t.getD 165 undef, t.getD 166 undef, t.getD 167 undef, t.getD 168 undef, t.getD 169 undef, t.getD 170 undef, t.getD 171 undef, t.getD 172 undef, t.getD 173 undef, t.getD 174 undef, t.getD 175 undef, t.getD 176 undef, t.getD 177 undef, t.getD 178 undef, t.getD 179 undef, t.getD 180 undef, t.getD 181 undef, t.getD 182 undef, t.getD 183 undef, t.getD 184 undef]) : ∃ m', m' < m ∧ JL w0 A c xs res 1 m' { tmps := t, defers := [] } w := by
  subst hi; subst hj
  refine ⟨_, hlt, .inr (.inl ⟨rfl, vo, at_, n, toks, hL, rfl, h1, h2, h3, h4, hgo.1, hgo.2, fun i => t.getD i undef, ?_⟩)⟩
  exact congrArg (fun x => ({ tmps := x, defers := [] } : Act)) ht
set_option maxRecDepth 100000 in
theorem to2 {w0 w : World} {A : Option Addr} {c m : Nat} {xs : List Int} {res : List S33 × Int × Int} {vo : Value} {at_ n : Nat} {kd v : Int} {toks : List S33} {i j : Int} {t : Array Value} (hlt : 3 * (xs.length - at_) < m) (hL : Lexing w0 xs res vo at_ toks w)
    (h1 : 1 ≤ n) (h2 : at_ + n ≤ xs.length)
    (hgo : ∃ k, xs.length - (at_ + n) < k ∧ lexGo k (xs.drop (at_ + n)) ((at_ + n : Nat) : Int) (toks ++ [⟨kd, at_, strOfNums ((xs.drop at_).take n), v⟩]) = res)
    (hi : i = at_) (hj : j = n) (ht : t = #[.slice A xs.length c, t.getD 1 undef, t.getD 2 undef, t.getD 3 undef, t.getD 4 undef, vo, .int .i64 i, .int .i64 j, .int .i64 kd, .int .i64 v, t.getD 10 undef, t.getD 11 undef, t.getD 12 undef, t.getD 13 undef, t.getD 14 undef, t.getD 15 undef, t.getD 16 undef, t.getD 17 undef, t.getD 18 undef, t.getD 19 undef, t.getD 20 undef, t.getD 21 undef, t.getD 22 undef, t.getD 23 undef, t.getD 24 undef, t.getD 25 undef, t.getD 26 undef, t.getD 27 undef, t.getD 28 undef, t.getD 29 undef, t.getD 30 undef, t.getD 31 undef, t.getD 32 undef, t.getD 33 undef, t.getD 34 undef, t.getD 35 undef, t.getD 36 undef, t.getD 37 undef, t.getD 38 undef, t.getD 39 undef, t.getD 40 undef, t.getD 41 undef, t.getD 42 undef, t.getD 43 undef, t.getD 44 undef, t.getD 45 undef, t.getD 46 undef, t.getD 47 undef, t.getD 48 undef, t.getD 49 undef, t.getD 50 undef, t.getD 51 undef, t.getD 52 undef, t.getD 53 undef, t.getD 54 undef, t.getD 55 undef, t.getD 56 undef, t.getD 57 undef, t.getD 58 undef, t.getD 59 undef, t.getD 60 undef, t.getD 61 undef, t.getD 62 undef, t.getD 63 undef, t.getD 64 undef, t.getD 65 undef, t.getD 66 undef, t.getD 67 undef, t.getD 68 undef, t.getD 69 undef, t.getD 70 undef, t.getD 71 undef, t.getD 72 undef, t.getD 73 undef, t.getD 74 undef, t.getD 75 undef, t.getD 76 undef, t.getD 77 undef, t.getD 78 undef, t.getD 79 undef, t.getD 80 undef, t.getD 81 undef, t.getD 82 undef, t.getD 83 undef, t.getD 84 undef, t.getD 85 undef, t.getD 86 undef, t.getD 87 undef, t.getD 88 undef, t.getD 89 undef, t.getD 90 undef, t.getD 91 undef, t.getD 92 undef, t.getD 93 undef, t.getD 94 undef, t.getD 95 undef, t.getD 96 undef, t.getD 97 undef, t.getD 98 undef, t.getD 99 undef, t.getD 100 undef, t.getD 101 undef, t.getD 102 undef, t.getD 103 undef, t.getD 104 undef, t.getD 105 undef, t.getD 106 undef, t.getD 107 undef, t.getD 108 undef, t.getD 109 undef, t.getD 110 undef, t.getD 111 undef, t.getD 112 undef, t.getD 113 undef, t.getD 114 undef, t.getD 115 undef, t.getD 116 undef, t.getD 117 undef, t.getD 118 undef, t.getD 119 undef, t.getD 120 undef, t.getD 121 undef, t.getD 122 undef, t.getD 123 undef, t.getD 124 undef, t.getD 125 undef, t.getD 126 undef, t.getD 127 undef, t.getD 128 undef, t.getD 129 undef, t.getD 130 undef, t.getD 131 undef, t.getD 132 undef, t.getD 133 undef, t.getD 134 undef, t.getD 135 undef, t.getD 136 undef, t.getD 137 undef, t.getD 138 undef, t.getD 139 undef, t.getD 140 undef, t.getD 141 undef, t.getD 142 undef, t.getD 143 undef, t.getD 144 undef, t.getD 145 undef, t.getD 146 undef, t.getD 147 undef, t.getD 148 undef, t.getD 149 undef, t.getD 150 undef, t.getD 151 undef, t.getD 152 undef, t.getD 153 undef, t.getD 154 undef, t.getD 155 undef, t.getD 156 undef, t.getD 157 undef, t.getD 158 undef, t.getD 159 undef, t.getD 160 undef, t.getD 161 undef, t.getD 162 undef, t.getD 163 undef, t.getD 164 undef, t.getD 165 undef, t.getD 166 undef, t.getD 167 undef, t.getD 168 undef, t.getD 169 undef, t.getD 170 undef, t.getD 171 undef, t.getD 172 undef, t.getD 173 undef, t.getD 174 undef, t.getD 175 undef, t.getD 176 undef, t.getD 177 undef, t.getD 178 undef, t.getD 179 undef, t.getD 180 undef, t.getD 181 undef, t.getD 182 undef, t.getD 183 undef, t.getD 184 undef]) : ∃ m', m' < m ∧ JL w0 A c xs res 2 m' { tmps := t, defers := [] } w := by
  subst hi; subst hj
  refine ⟨_, hlt, .inr (.inr ⟨rfl, vo, at_, n, kd, v, toks, hL, rfl, h1, h2, hgo, fun i => t.getD i undef, ?_⟩)⟩
  exact congrArg (fun x => ({ tmps := x, defers := [] } : Act)) ht

theorem Lexing.move {w0 w : World} {xs : List Int} {res : List S33 × Int × Int} {vo : Value} {at_ m : Nat} {toks : List S33} (h : Lexing w0 xs res vo at_ toks w) (hm : at_ + m ≤ xs.length) : Lexing w0 xs res vo (at_ + m) toks w := ⟨h.own, h.below, hm, by have := h.few; omega⟩

theorem lead_pos {p : Int → Bool} {x : Int} {xs : List Int} (h : p x = true) : lead p (x :: xs) = lead p xs + 1 := by rw [lead, if_pos h]

theorem rd_drop (xs : List Int) (k : Nat) (i : Int) (h0 : 0 ≤ i) : rd (xs.drop k) i = rd xs (k + i) := by
  unfold rd
  rw [List.getD_eq_getElem?_getD, List.getD_eq_getElem?_getD, List.getElem?_drop, show ((k : Int) + i).toNat = k + i.toNat from by omega]

theorem drop_cons {xs : List Int} {k : Nat} (h : k < xs.length) : xs.drop k = rd xs k :: xs.drop (k + 1) := by
  rw [List.drop_eq_getElem_cons h]
  have e : rd xs (k : Int) = xs[k] := by unfold rd; simp [h]
  rw [e]

/-- The step at a place, told of the whole list. -/
theorem lexStep_at {xs : List Int} {k : Nat} (h : k < xs.length) : lexStep (xs.drop k) =
    if isBlank (rd xs k) = true then .skip 1
    else if (rd xs k == 59) = true then .skip (lead isNote (xs.drop k))
    else if (rd xs k == 40) = true then .tok 0 1
    else if (rd xs k == 41) = true then .tok 1 1
    else if (rd xs k == 45) = true ∧ k + 1 < xs.length ∧ (rd xs (k + 1) == 62) = true then .tok 5 2
    else if isDigit (rd xs k) = true ∨ ((rd xs k == 45) = true ∧ k + 1 < xs.length ∧ isDigit (rd xs (k + 1)) = true) then .num (1 + lead isDigit (xs.drop (k + 1)))
    else if isLower (rd xs k) = true then .tok 3 (lead isWithin (xs.drop k))
    else if isUpper (rd xs k) = true then .tok 4 (lead isWithin (xs.drop k))
    else if isSym (rd xs k) = true then .tok 5 1
    else .bad := by
  have e1 : (1 ≤ (xs.drop (k + 1)).length) = (k + 1 < xs.length) := by rw [List.length_drop]; apply propext; omega
  have e2 : rd (xs.drop (k + 1)) 0 = rd xs ((k : Int) + 1) := by rw [rd_drop _ _ _ (by omega)]; congr 1
  rw [drop_cons h]
  simp only [lexStep, e1, e2]

/-- One step of the function on lists, read off what there is at a place. -/
theorem go_end {k : Nat} {xs : List Int} {at_ : Nat} {toks : List S33} {res : List S33 × Int × Int} (hk : xs.length - at_ < k) (h : lexGo k (xs.drop at_) at_ toks = res) (hat : xs.length ≤ at_) : (toks, -1, 0) = res := by
  obtain ⟨k, rfl⟩ : ∃ m, k = m + 1 := ⟨k - 1, by omega⟩
  rw [← h, List.drop_eq_nil_of_le hat]; rfl
theorem go_skip {k : Nat} {xs : List Int} {at_ m : Nat} {toks : List S33} {res : List S33 × Int × Int} (hk : xs.length - at_ < k) (h : lexGo k (xs.drop at_) at_ toks = res) (hat : at_ < xs.length) (hs : lexStep (xs.drop at_) = .skip m) (h1 : 1 ≤ m) :
    ∃ k, xs.length - (at_ + m) < k ∧ lexGo k (xs.drop (at_ + m)) ((at_ + m : Nat) : Int) toks = res := by
  obtain ⟨k, rfl⟩ : ∃ m, k = m + 1 := ⟨k - 1, by omega⟩
  refine ⟨k, by omega, ?_⟩
  rw [← h, lexGo, if_neg (by simp; omega), hs]
  simp only [List.drop_drop]
  rfl
theorem go_tok {k : Nat} {xs : List Int} {at_ n : Nat} {kd : Int} {toks : List S33} {res : List S33 × Int × Int} (hk : xs.length - at_ < k) (h : lexGo k (xs.drop at_) at_ toks = res) (hat : at_ < xs.length) (hs : lexStep (xs.drop at_) = .tok kd n) (h1 : 1 ≤ n) :
    ∃ k, xs.length - (at_ + n) < k ∧ lexGo k (xs.drop (at_ + n)) ((at_ + n : Nat) : Int) (toks ++ [⟨kd, at_, strOfNums ((xs.drop at_).take n), 0⟩]) = res := by
  obtain ⟨k, rfl⟩ : ∃ m, k = m + 1 := ⟨k - 1, by omega⟩
  refine ⟨k, by omega, ?_⟩
  rw [← h, lexGo, if_neg (by simp; omega), hs]
  simp only [List.drop_drop]
  rfl
theorem go_bad {k : Nat} {xs : List Int} {at_ : Nat} {toks : List S33} {res : List S33 × Int × Int} (hk : xs.length - at_ < k) (h : lexGo k (xs.drop at_) at_ toks = res) (hat : at_ < xs.length) (hs : lexStep (xs.drop at_) = .bad) : ([], (at_ : Int), 2) = res := by
  obtain ⟨k, rfl⟩ : ∃ m, k = m + 1 := ⟨k - 1, by omega⟩
  rw [← h, lexGo, if_neg (by simp; omega), hs]
theorem go_num {k : Nat} {xs : List Int} {at_ n : Nat} {toks : List S33} {res : List S33 × Int × Int} (hk : xs.length - at_ < k) (h : lexGo k (xs.drop at_) at_ toks = res) (hat : at_ < xs.length) (hs : lexStep (xs.drop at_) = .num n) (h1 : 1 ≤ n) :
    (numBad (xs.drop at_) n = true → ([], (at_ : Int), 2) = res) ∧ (numBad (xs.drop at_) n = false → ∃ k, xs.length - (at_ + n) < k ∧ lexGo k (xs.drop (at_ + n)) ((at_ + n : Nat) : Int) (toks ++ [⟨2, at_, strOfNums ((xs.drop at_).take n), numVal ((xs.drop at_).take n)⟩]) = res) := by
  obtain ⟨k, rfl⟩ : ∃ m, k = m + 1 := ⟨k - 1, by omega⟩
  rw [lexGo, if_neg (by simp; omega), hs] at h
  refine ⟨fun hb => ?_, fun hb => ⟨k, by omega, ?_⟩⟩
  · simp only [hb, if_true] at h; exact h
  · simp only [hb, Bool.false_eq_true, if_false, List.drop_drop] at h
    rw [← h]; rfl

set_option maxRecDepth 100000 in
set_option maxHeartbeats 4000000 in
theorem lex_Tokens.calls (A0 : Option Addr) (c0 : Nat) (l0 : List Int) (r1 : List S33) (r2 r3 : Int) (w : World) (hr0 : Kd.C (Kd.int .u8) w A0 l0.length l0) (hc0 : l0.length ≤ c0) (h : lex_Tokens.f l0 = some (r1, r2, r3)) :
    Calls Tryd.prog 10 #[.slice A0 l0.length c0] w fun e w' => ∃ v0_ : Value, e = .returned (.tuple #[v0_, .int .i64 r2, .int .i64 r3]) ∧ Kd.R k33 33 w' w.heap.size (fun _ => True) v0_ r1 ∧ Below w.heap.size w w' := by
  have HR := Lib.hid hr0
  clear hr0
  unfold lex_Tokens.f at h
  by_cases hbig : 4096 < l0.length
  · rw [if_pos hbig] at h
    have h' := Option.some.inj h
    have HG := Lib.hid h'
    clear h h'
    go_enter Tryd.func10, Tryd.ntmps10
    go_wp2_with fail
    refine wp_scope_straight ?_
    go_wp2_with fail
    rw [Exit.noGoto_ret]
    go_ret3
    exact bad_ends HG.out (Below.refl _ _)
  · rw [if_neg hbig] at h
    have h' := Option.some.inj h
    have HG := Lib.hid h'
    clear h h'
    go_enter Tryd.func10, Tryd.ntmps10
    go_wp2_with fail
    refine wp_scope3YtincigcoagcgaaaDoor rfl rfl rfl (JL w A0 c0 l0 (r1, r2, r3)) (by rintro l m a w' (⟨rfl, _⟩ | ⟨rfl, _⟩ | ⟨rfl, _⟩) <;> simp) ?_ ?_ ?_ ?_
    · intro hpass
      go_wp2_with fail
      go_step3
      rename_i K hK
      exact hK _ _ (hpass _ _ _ (at0 (at_ := 0) ⟨Kd.R_nil _ _ _ _ _, Below.refl _ _, Nat.zero_le _, Nat.le_refl _⟩ ⟨l0.length + 1, by omega, HG.out⟩ rfl rfl))
    · rintro m a w1 (⟨_, vo, at_, toks, hL, rfl, ⟨k, hk, hgo⟩, f, rfl⟩ | ⟨h, _⟩ | ⟨h, _⟩)
      · have HL := Lib.hid hL
        have hle := hL.le
        clear hL
        by_cases hat : at_ < l0.length
        · have HGo := Lib.hid hgo
          have HK := Lib.hid hk
          have hat' : (at_ : Int) < (l0.length : Int) := by omega
          obtain ⟨ad, rfl, hc⟩ := Kd.at_int (Kd.C_below HR.out HL.out.below) (at_ : Int) (by omega) (by omega)
          rw [Int.toNat_natCast] at hc
          have hstep := drop_cons hat
          have HS := Lib.hid hstep
          have HA := Lib.hid hat
          clear hgo hk hstep hat hle
          have hm1 : l0.length ≤ 4096 := by omega
          have HC := Lib.hid (Kd.C_below HR.out HL.out.below)
          cases hb : isBlank (rd l0 at_) with
          | true =>
            go_wp2_with (first | (go_at_call 14; refine (blank_any _ _).mono ?_; rintro e w' ⟨rfl, rfl⟩) | (go_at_call 17; refine (digit_any _ _).mono ?_; rintro e w' ⟨rfl, rfl⟩) | (go_at_call 18; refine (lower_any _ _).mono ?_; rintro e w' ⟨rfl, rfl⟩) | (go_at_call 20; refine (upper_any _ _).mono ?_; rintro e w' ⟨rfl, rfl⟩))
            go_step3
            exact to0 (m := _) (at_ := at_ + 1) (by have := HA.out; omega) (HL.out.move (by have := HA.out; omega)) (go_skip HK.out HGo.out HA.out (by rw [HS.out]; simp only [lexStep, hb, if_true]) (by omega)) (by omega) rfl
          | false =>
          cases h59 : (rd l0 at_ == 59) with
          | true =>
            have hle := lead_le isNote (l0.drop at_)
            have hpos : 1 ≤ lead isNote (l0.drop at_) := by rw [HS.out, lead_pos (by unfold isNote; rw [beq_iff_eq] at h59; rw [h59]; rfl)]; omega
            rw [List.length_drop] at hle
            have HP := Lib.hid (And.intro hpos hle)
            have hrun := runNote_at (some ad) c0 l0 w1 HC.out hm1 at_ (by have := HA.out; omega)
            have hle2 : (at_ : Int) + (lead isNote (l0.drop at_) : Int) ≤ (l0.length : Int) := by have := HA.out; omega
            clear hpos hle
            generalize hg : lead isNote (l0.drop at_) = g at *
            have HG2 := Lib.hid hg
            clear hg
            go_wp2_with (first | (go_at_call 14; refine (blank_any _ _).mono ?_; rintro e w' ⟨rfl, rfl⟩) | (go_at_call 17; refine (digit_any _ _).mono ?_; rintro e w' ⟨rfl, rfl⟩) | (go_at_call 18; refine (lower_any _ _).mono ?_; rintro e w' ⟨rfl, rfl⟩) | (go_at_call 20; refine (upper_any _ _).mono ?_; rintro e w' ⟨rfl, rfl⟩) | (go_at_call 15; refine (hrun _ (by omega)).mono ?_; rintro e w' ⟨rfl, rfl⟩))
            go_step3
            exact to0 (m := _) (at_ := at_ + g) (by have := HA.out; have := HP.out; omega) (HL.out.move (by have := HA.out; have := HP.out; omega)) (go_skip HK.out HGo.out HA.out (by rw [HS.out]; simp only [lexStep, hb, h59, Bool.false_eq_true, if_false, if_true]; rw [← HS.out, HG2.out]) (by have := HP.out; omega)) (by omega) rfl
          | false =>
          cases h40 : (rd l0 at_ == 40) with
          | true =>
            go_wp2_with (first | (go_at_call 14; refine (blank_any _ _).mono ?_; rintro e w' ⟨rfl, rfl⟩) | (go_at_call 17; refine (digit_any _ _).mono ?_; rintro e w' ⟨rfl, rfl⟩) | (go_at_call 18; refine (lower_any _ _).mono ?_; rintro e w' ⟨rfl, rfl⟩) | (go_at_call 20; refine (upper_any _ _).mono ?_; rintro e w' ⟨rfl, rfl⟩))
            go_step3
            exact to2 (m := _) (n := 1) (by have := HA.out; omega) HL.out (by decide) (by have := HA.out; omega) (go_tok HK.out HGo.out HA.out (by rw [lexStep_at HA.out]; simp only [hb, h59, h40, Bool.false_eq_true, if_false, if_true, false_and, and_false, true_and, and_true, false_or, or_false, true_or, or_true, and_self]) (by decide)) (by omega) (by omega) rfl
          | false =>
          cases h41 : (rd l0 at_ == 41) with
          | true =>
            go_wp2_with (first | (go_at_call 14; refine (blank_any _ _).mono ?_; rintro e w' ⟨rfl, rfl⟩) | (go_at_call 17; refine (digit_any _ _).mono ?_; rintro e w' ⟨rfl, rfl⟩) | (go_at_call 18; refine (lower_any _ _).mono ?_; rintro e w' ⟨rfl, rfl⟩) | (go_at_call 20; refine (upper_any _ _).mono ?_; rintro e w' ⟨rfl, rfl⟩))
            go_step3
            exact to2 (m := _) (n := 1) (by have := HA.out; omega) HL.out (by decide) (by have := HA.out; omega) (go_tok HK.out HGo.out HA.out (by rw [lexStep_at HA.out]; simp only [hb, h59, h40, h41, Bool.false_eq_true, if_false, if_true, false_and, and_false, true_and, and_true, false_or, or_false, true_or, or_true, and_self]) (by decide)) (by omega) (by omega) rfl
          | false =>
          cases h45 : (rd l0 at_ == 45) with
          | true =>
            have e45 := beq_iff_eq.1 h45
            have hdg : isDigit (rd l0 at_) = false := by rw [e45]; rfl
            have hlw : isLower (rd l0 at_) = false := by rw [e45]; rfl
            have hup : isUpper (rd l0 at_) = false := by rw [e45]; rfl
            have hsy : isSym (rd l0 at_) = true := by rw [e45]; rfl
            have h95 : (rd l0 at_ == 95) = false := by rw [e45]; rfl
            have h43 : (rd l0 at_ == 43) = false := by rw [e45]; rfl
            have E45 := Lib.hid e45
            clear e45
            by_cases hn1 : at_ + 1 < l0.length
            · have hn1a : (at_ : Int) + 1 < (l0.length : Int) := by omega
              obtain ⟨ad2, e2, hc2⟩ := Kd.at_int HC.out ((at_ : Int) + 1) (by omega) (by omega)
              obtain rfl := Option.some.inj e2
              rw [show ((at_ : Int) + 1).toNat = at_ + 1 from by omega] at hc2
              have hc3 : w1.cell? { block := ad.block, off := ad.off + (at_ + 1) } = some (.int .u8 (rd l0 ((at_ : Int) + 1))) := hc2
              have HN1 := Lib.hid hn1
              clear hn1 e2
              cases h62 : (rd l0 (at_ + 1) == 62) with
              | true =>
                go_wp2_with (first | (go_at_call 14; refine (blank_any _ _).mono ?_; rintro e w' ⟨rfl, rfl⟩) | (go_at_call 17; refine (digit_any _ _).mono ?_; rintro e w' ⟨rfl, rfl⟩) | (go_at_call 18; refine (lower_any _ _).mono ?_; rintro e w' ⟨rfl, rfl⟩) | (go_at_call 20; refine (upper_any _ _).mono ?_; rintro e w' ⟨rfl, rfl⟩))
                go_step3
                exact to2 (m := _) (n := 2) (by have := HA.out; omega) HL.out (by decide) (by have := HN1.out; omega) (go_tok HK.out HGo.out HA.out (by rw [lexStep_at HA.out]; simp only [hb, h59, h40, h41, h45, HN1.out, h62, Bool.false_eq_true, if_false, if_true, false_and, and_false, true_and, and_true, false_or, or_false, true_or, or_true, and_self]) (by decide)) (by omega) (by omega) rfl
              | false =>
              cases hd2 : isDigit (rd l0 (at_ + 1)) with
              | true =>
                have hle := lead_le isDigit (l0.drop (at_ + 1))
                rw [List.length_drop] at hle
                have hrun := runDigit_at (some ad) c0 l0 w1 HC.out hm1 (at_ + 1) (by have := HA.out; omega)
                have hle2 : (at_ : Int) + 1 + (lead isDigit (l0.drop (at_ + 1)) : Int) ≤ (l0.length : Int) := by have := HA.out; omega
                have hst := (go_num HK.out HGo.out HA.out (n := 1 + lead isDigit (l0.drop (at_ + 1))) (by rw [lexStep_at HA.out]; simp only [hb, h59, h40, h41, h45, HN1.out, h62, hdg, hd2, Bool.false_eq_true, if_false, if_true, false_and, and_false, true_and, and_true, false_or, or_false, true_or, or_true, and_self]) (by omega))
                have HST := Lib.hid hst
                have HALT := Lib.hid (.inr ⟨E45.out, by rw [drop_cons HN1.out, lead_pos (by rw [show ((at_ + 1 : Nat) : Int) = (at_ : Int) + 1 from by omega]; exact hd2)]; omega⟩ : isDigit (rd l0 at_) = true ∨ rd l0 at_ = 45 ∧ 2 ≤ 1 + lead isDigit (l0.drop (at_ + 1)))
                have H3 : Hid (1 + lead isDigit (l0.drop (at_ + 1)) = lead isDigit ((l0.drop at_).drop 1) + 1) := by rw [List.drop_drop]; exact Nat.add_comm _ _
                clear hst hle
                generalize lead isDigit (l0.drop (at_ + 1)) = g at *
                go_wp2_with (first | (go_at_call 14; refine (blank_any _ _).mono ?_; rintro e w' ⟨rfl, rfl⟩) | (go_at_call 17; refine (digit_any _ _).mono ?_; rintro e w' ⟨rfl, rfl⟩) | (go_at_call 18; refine (lower_any _ _).mono ?_; rintro e w' ⟨rfl, rfl⟩) | (go_at_call 20; refine (upper_any _ _).mono ?_; rintro e w' ⟨rfl, rfl⟩) | (go_at_call 15; refine (hrun _ (by omega)).mono ?_; rintro e w' ⟨rfl, rfl⟩))
                go_step3
                exact to1 (m := _) (n := 1 + g) (by have := HA.out; omega) HL.out (by omega) (by omega) H3.out HALT.out HST.out (by omega) (by omega) rfl
              | false =>
              go_wp2_with (first | (go_at_call 14; refine (blank_any _ _).mono ?_; rintro e w' ⟨rfl, rfl⟩) | (go_at_call 17; refine (digit_any _ _).mono ?_; rintro e w' ⟨rfl, rfl⟩) | (go_at_call 18; refine (lower_any _ _).mono ?_; rintro e w' ⟨rfl, rfl⟩) | (go_at_call 20; refine (upper_any _ _).mono ?_; rintro e w' ⟨rfl, rfl⟩))
              go_step3
              exact to2 (m := _) (n := 1) (by have := HA.out; omega) HL.out (by decide) (by have := HA.out; omega) (go_tok HK.out HGo.out HA.out (by rw [lexStep_at HA.out]; simp only [hb, h59, h40, h41, h45, HN1.out, h62, hdg, hd2, hlw, hup, hsy, Bool.false_eq_true, if_false, if_true, false_and, and_false, true_and, and_true, false_or, or_false, true_or, or_true, and_self]) (by decide)) (by omega) (by omega) rfl
            · have hn1a : ¬ (at_ : Int) + 1 < (l0.length : Int) := by omega
              have HN1 := Lib.hid hn1
              clear hn1
              go_wp2_with (first | (go_at_call 14; refine (blank_any _ _).mono ?_; rintro e w' ⟨rfl, rfl⟩) | (go_at_call 17; refine (digit_any _ _).mono ?_; rintro e w' ⟨rfl, rfl⟩) | (go_at_call 18; refine (lower_any _ _).mono ?_; rintro e w' ⟨rfl, rfl⟩) | (go_at_call 20; refine (upper_any _ _).mono ?_; rintro e w' ⟨rfl, rfl⟩))
              go_step3
              exact to2 (m := _) (n := 1) (by have := HA.out; omega) HL.out (by decide) (by have := HA.out; omega) (go_tok HK.out HGo.out HA.out (by rw [lexStep_at HA.out]; simp only [hb, h59, h40, h41, h45, HN1.out, hdg, hlw, hup, hsy, Bool.false_eq_true, if_false, if_true, false_and, and_false, true_and, and_true, false_or, or_false, true_or, or_true, and_self]) (by decide)) (by omega) (by omega) rfl
          | false =>
          cases hdg : isDigit (rd l0 at_) with
          | true =>
            have hle := lead_le isDigit (l0.drop (at_ + 1))
            rw [List.length_drop] at hle
            have hrun := runDigit_at (some ad) c0 l0 w1 HC.out hm1 (at_ + 1) (by have := HA.out; omega)
            have hle2 : (at_ : Int) + 1 + (lead isDigit (l0.drop (at_ + 1)) : Int) ≤ (l0.length : Int) := by have := HA.out; omega
            have hst := (go_num HK.out HGo.out HA.out (n := 1 + lead isDigit (l0.drop (at_ + 1))) (by rw [lexStep_at HA.out]; simp only [hb, h59, h40, h41, h45, hdg, Bool.false_eq_true, if_false, if_true, false_and, and_false, true_and, and_true, false_or, or_false, true_or, or_true, and_self]) (by omega))
            have HST := Lib.hid hst
            have HALT := Lib.hid (.inl hdg : isDigit (rd l0 at_) = true ∨ rd l0 at_ = 45 ∧ 2 ≤ 1 + lead isDigit (l0.drop (at_ + 1)))
            have H3 : Hid (1 + lead isDigit (l0.drop (at_ + 1)) = lead isDigit ((l0.drop at_).drop 1) + 1) := by rw [List.drop_drop]; exact Nat.add_comm _ _
            clear hst hle
            generalize lead isDigit (l0.drop (at_ + 1)) = g at *
            go_wp2_with (first | (go_at_call 14; refine (blank_any _ _).mono ?_; rintro e w' ⟨rfl, rfl⟩) | (go_at_call 17; refine (digit_any _ _).mono ?_; rintro e w' ⟨rfl, rfl⟩) | (go_at_call 18; refine (lower_any _ _).mono ?_; rintro e w' ⟨rfl, rfl⟩) | (go_at_call 20; refine (upper_any _ _).mono ?_; rintro e w' ⟨rfl, rfl⟩) | (go_at_call 15; refine (hrun _ (by omega)).mono ?_; rintro e w' ⟨rfl, rfl⟩))
            go_step3
            exact to1 (m := _) (n := 1 + g) (by have := HA.out; omega) HL.out (by omega) (by omega) H3.out HALT.out HST.out (by omega) (by omega) rfl
          | false =>
          cases hlw : isLower (rd l0 at_) with
          | true =>
            have hwi : isWithin (rd l0 at_) = true := by unfold isWithin; rw [hlw]; rfl
            have hle := lead_le isWithin (l0.drop at_)
            rw [List.length_drop] at hle
            have hpos : 1 ≤ lead isWithin (l0.drop at_) := by rw [HS.out, lead_pos hwi]; omega
            have hrun := runWithin_at (some ad) c0 l0 w1 HC.out hm1 at_ (by have := HA.out; omega)
            have hle2 : (at_ : Int) + (lead isWithin (l0.drop at_) : Int) ≤ (l0.length : Int) := by have := HA.out; omega
            have HP := Lib.hid hpos
            have HST := Lib.hid (go_tok HK.out HGo.out HA.out (kd := 3) (n := lead isWithin (l0.drop at_)) (by rw [lexStep_at HA.out]; simp only [hb, h59, h40, h41, h45, hdg, hlw, Bool.false_eq_true, if_false, if_true, false_and, and_false, true_and, and_true, false_or, or_false, true_or, or_true, and_self]) hpos)
            clear hpos hle hwi
            generalize lead isWithin (l0.drop at_) = g at *
            go_wp2_with (first | (go_at_call 14; refine (blank_any _ _).mono ?_; rintro e w' ⟨rfl, rfl⟩) | (go_at_call 17; refine (digit_any _ _).mono ?_; rintro e w' ⟨rfl, rfl⟩) | (go_at_call 18; refine (lower_any _ _).mono ?_; rintro e w' ⟨rfl, rfl⟩) | (go_at_call 20; refine (upper_any _ _).mono ?_; rintro e w' ⟨rfl, rfl⟩) | (go_at_call 15; refine (hrun _ (by omega)).mono ?_; rintro e w' ⟨rfl, rfl⟩))
            go_step3
            exact to2 (m := _) (n := g) (by have := HA.out; omega) HL.out HP.out (by omega) HST.out (by omega) (by omega) rfl
          | false =>
          cases hup : isUpper (rd l0 at_) with
          | true =>
            have hwi : isWithin (rd l0 at_) = true := by unfold isWithin; rw [hup]; cases isLower (rd l0 at_) <;> rfl
            have hle := lead_le isWithin (l0.drop at_)
            rw [List.length_drop] at hle
            have hpos : 1 ≤ lead isWithin (l0.drop at_) := by rw [HS.out, lead_pos hwi]; omega
            have hrun := runWithin_at (some ad) c0 l0 w1 HC.out hm1 at_ (by have := HA.out; omega)
            have hle2 : (at_ : Int) + (lead isWithin (l0.drop at_) : Int) ≤ (l0.length : Int) := by have := HA.out; omega
            have HP := Lib.hid hpos
            have HST := Lib.hid (go_tok HK.out HGo.out HA.out (kd := 4) (n := lead isWithin (l0.drop at_)) (by rw [lexStep_at HA.out]; simp only [hb, h59, h40, h41, h45, hdg, hlw, hup, Bool.false_eq_true, if_false, if_true, false_and, and_false, true_and, and_true, false_or, or_false, true_or, or_true, and_self]) hpos)
            clear hpos hle hwi
            generalize lead isWithin (l0.drop at_) = g at *
            go_wp2_with (first | (go_at_call 14; refine (blank_any _ _).mono ?_; rintro e w' ⟨rfl, rfl⟩) | (go_at_call 17; refine (digit_any _ _).mono ?_; rintro e w' ⟨rfl, rfl⟩) | (go_at_call 18; refine (lower_any _ _).mono ?_; rintro e w' ⟨rfl, rfl⟩) | (go_at_call 20; refine (upper_any _ _).mono ?_; rintro e w' ⟨rfl, rfl⟩) | (go_at_call 15; refine (hrun _ (by omega)).mono ?_; rintro e w' ⟨rfl, rfl⟩))
            go_step3
            exact to2 (m := _) (n := g) (by have := HA.out; omega) HL.out HP.out (by omega) HST.out (by omega) (by omega) rfl
          | false =>
          cases h95 : (rd l0 at_ == 95) with
          | true =>
            have hsy : isSym (rd l0 at_) = true := by rw [beq_iff_eq.1 h95]; rfl
            go_wp2_with (first | (go_at_call 14; refine (blank_any _ _).mono ?_; rintro e w' ⟨rfl, rfl⟩) | (go_at_call 17; refine (digit_any _ _).mono ?_; rintro e w' ⟨rfl, rfl⟩) | (go_at_call 18; refine (lower_any _ _).mono ?_; rintro e w' ⟨rfl, rfl⟩) | (go_at_call 20; refine (upper_any _ _).mono ?_; rintro e w' ⟨rfl, rfl⟩))
            go_step3
            exact to2 (m := _) (n := 1) (by have := HA.out; omega) HL.out (by decide) (by have := HA.out; omega) (go_tok HK.out HGo.out HA.out (by rw [lexStep_at HA.out]; simp only [hb, h59, h40, h41, h45, hdg, hlw, hup, hsy, Bool.false_eq_true, if_false, if_true, false_and, and_false, true_and, and_true, false_or, or_false, true_or, or_true, and_self]) (by decide)) (by omega) (by omega) rfl
          | false =>
          cases h43 : (rd l0 at_ == 43) with
          | true =>
            have hsy : isSym (rd l0 at_) = true := by rw [beq_iff_eq.1 h43]; rfl
            go_wp2_with (first | (go_at_call 14; refine (blank_any _ _).mono ?_; rintro e w' ⟨rfl, rfl⟩) | (go_at_call 17; refine (digit_any _ _).mono ?_; rintro e w' ⟨rfl, rfl⟩) | (go_at_call 18; refine (lower_any _ _).mono ?_; rintro e w' ⟨rfl, rfl⟩) | (go_at_call 20; refine (upper_any _ _).mono ?_; rintro e w' ⟨rfl, rfl⟩))
            go_step3
            exact to2 (m := _) (n := 1) (by have := HA.out; omega) HL.out (by decide) (by have := HA.out; omega) (go_tok HK.out HGo.out HA.out (by rw [lexStep_at HA.out]; simp only [hb, h59, h40, h41, h45, hdg, hlw, hup, hsy, Bool.false_eq_true, if_false, if_true, false_and, and_false, true_and, and_true, false_or, or_false, true_or, or_true, and_self]) (by decide)) (by omega) (by omega) rfl
          | false =>
          cases h42 : (rd l0 at_ == 42) with
          | true =>
            have hsy : isSym (rd l0 at_) = true := by rw [beq_iff_eq.1 h42]; rfl
            go_wp2_with (first | (go_at_call 14; refine (blank_any _ _).mono ?_; rintro e w' ⟨rfl, rfl⟩) | (go_at_call 17; refine (digit_any _ _).mono ?_; rintro e w' ⟨rfl, rfl⟩) | (go_at_call 18; refine (lower_any _ _).mono ?_; rintro e w' ⟨rfl, rfl⟩) | (go_at_call 20; refine (upper_any _ _).mono ?_; rintro e w' ⟨rfl, rfl⟩))
            go_step3
            exact to2 (m := _) (n := 1) (by have := HA.out; omega) HL.out (by decide) (by have := HA.out; omega) (go_tok HK.out HGo.out HA.out (by rw [lexStep_at HA.out]; simp only [hb, h59, h40, h41, h45, hdg, hlw, hup, hsy, Bool.false_eq_true, if_false, if_true, false_and, and_false, true_and, and_true, false_or, or_false, true_or, or_true, and_self]) (by decide)) (by omega) (by omega) rfl
          | false =>
          cases h47 : (rd l0 at_ == 47) with
          | true =>
            have hsy : isSym (rd l0 at_) = true := by rw [beq_iff_eq.1 h47]; rfl
            go_wp2_with (first | (go_at_call 14; refine (blank_any _ _).mono ?_; rintro e w' ⟨rfl, rfl⟩) | (go_at_call 17; refine (digit_any _ _).mono ?_; rintro e w' ⟨rfl, rfl⟩) | (go_at_call 18; refine (lower_any _ _).mono ?_; rintro e w' ⟨rfl, rfl⟩) | (go_at_call 20; refine (upper_any _ _).mono ?_; rintro e w' ⟨rfl, rfl⟩))
            go_step3
            exact to2 (m := _) (n := 1) (by have := HA.out; omega) HL.out (by decide) (by have := HA.out; omega) (go_tok HK.out HGo.out HA.out (by rw [lexStep_at HA.out]; simp only [hb, h59, h40, h41, h45, hdg, hlw, hup, hsy, Bool.false_eq_true, if_false, if_true, false_and, and_false, true_and, and_true, false_or, or_false, true_or, or_true, and_self]) (by decide)) (by omega) (by omega) rfl
          | false =>
          cases h37 : (rd l0 at_ == 37) with
          | true =>
            have hsy : isSym (rd l0 at_) = true := by rw [beq_iff_eq.1 h37]; rfl
            go_wp2_with (first | (go_at_call 14; refine (blank_any _ _).mono ?_; rintro e w' ⟨rfl, rfl⟩) | (go_at_call 17; refine (digit_any _ _).mono ?_; rintro e w' ⟨rfl, rfl⟩) | (go_at_call 18; refine (lower_any _ _).mono ?_; rintro e w' ⟨rfl, rfl⟩) | (go_at_call 20; refine (upper_any _ _).mono ?_; rintro e w' ⟨rfl, rfl⟩))
            go_step3
            exact to2 (m := _) (n := 1) (by have := HA.out; omega) HL.out (by decide) (by have := HA.out; omega) (go_tok HK.out HGo.out HA.out (by rw [lexStep_at HA.out]; simp only [hb, h59, h40, h41, h45, hdg, hlw, hup, hsy, Bool.false_eq_true, if_false, if_true, false_and, and_false, true_and, and_true, false_or, or_false, true_or, or_true, and_self]) (by decide)) (by omega) (by omega) rfl
          | false =>
          cases h61 : (rd l0 at_ == 61) with
          | true =>
            have hsy : isSym (rd l0 at_) = true := by rw [beq_iff_eq.1 h61]; rfl
            go_wp2_with (first | (go_at_call 14; refine (blank_any _ _).mono ?_; rintro e w' ⟨rfl, rfl⟩) | (go_at_call 17; refine (digit_any _ _).mono ?_; rintro e w' ⟨rfl, rfl⟩) | (go_at_call 18; refine (lower_any _ _).mono ?_; rintro e w' ⟨rfl, rfl⟩) | (go_at_call 20; refine (upper_any _ _).mono ?_; rintro e w' ⟨rfl, rfl⟩))
            go_step3
            exact to2 (m := _) (n := 1) (by have := HA.out; omega) HL.out (by decide) (by have := HA.out; omega) (go_tok HK.out HGo.out HA.out (by rw [lexStep_at HA.out]; simp only [hb, h59, h40, h41, h45, hdg, hlw, hup, hsy, Bool.false_eq_true, if_false, if_true, false_and, and_false, true_and, and_true, false_or, or_false, true_or, or_true, and_self]) (by decide)) (by omega) (by omega) rfl
          | false =>
          cases h60 : (rd l0 at_ == 60) with
          | true =>
            have hsy : isSym (rd l0 at_) = true := by rw [beq_iff_eq.1 h60]; rfl
            go_wp2_with (first | (go_at_call 14; refine (blank_any _ _).mono ?_; rintro e w' ⟨rfl, rfl⟩) | (go_at_call 17; refine (digit_any _ _).mono ?_; rintro e w' ⟨rfl, rfl⟩) | (go_at_call 18; refine (lower_any _ _).mono ?_; rintro e w' ⟨rfl, rfl⟩) | (go_at_call 20; refine (upper_any _ _).mono ?_; rintro e w' ⟨rfl, rfl⟩))
            go_step3
            exact to2 (m := _) (n := 1) (by have := HA.out; omega) HL.out (by decide) (by have := HA.out; omega) (go_tok HK.out HGo.out HA.out (by rw [lexStep_at HA.out]; simp only [hb, h59, h40, h41, h45, hdg, hlw, hup, hsy, Bool.false_eq_true, if_false, if_true, false_and, and_false, true_and, and_true, false_or, or_false, true_or, or_true, and_self]) (by decide)) (by omega) (by omega) rfl
          | false =>
          have hsy : isSym (rd l0 at_) = false := by unfold isSym; rw [h95, h43, h45, h42, h47, h37, h61, h60]; rfl
          have HST := Lib.hid (go_bad HK.out HGo.out HA.out (by rw [lexStep_at HA.out]; simp only [hb, h59, h40, h41, h45, hdg, hlw, hup, hsy, Bool.false_eq_true, if_false, if_true, false_and, and_false, true_and, and_true, false_or, or_false, true_or, or_true, and_self]))
          go_wp2_with (first | (go_at_call 14; refine (blank_any _ _).mono ?_; rintro e w' ⟨rfl, rfl⟩) | (go_at_call 17; refine (digit_any _ _).mono ?_; rintro e w' ⟨rfl, rfl⟩) | (go_at_call 18; refine (lower_any _ _).mono ?_; rintro e w' ⟨rfl, rfl⟩) | (go_at_call 20; refine (upper_any _ _).mono ?_; rintro e w' ⟨rfl, rfl⟩))
          rw [Exit.jumpsYtincigcoagcgaaaDoor_ret]
          (try rw [Exit.jumpsYtincigcoagcgaaaDoor_ret])
          go_ret3
          exact bad_ends HST.out HL.out.below
        · have HST := Lib.hid (go_end hk hgo (by omega))
          have hat2 : (l0.length : Int) ≤ (at_ : Int) := by omega
          clear hgo hk hat
          go_wp2
          go_ret3
          exact end_ends HST.out HL.out.own HL.out.below
      all_goals exact absurd h (by decide)
    · rintro m a w1 (⟨h, _⟩ | ⟨_, vo, at_, n, toks, hL, rfl, hn1, hn2, hn3, hn4, hbad, hgood, f, rfl⟩ | ⟨h, _⟩)
      · exact absurd h (by decide)
      · have HL := Lib.hid hL
        have hcutp : ∀ W, Below w1.heap.size w1 W → ∃ ad, A0 = some ad ∧ Kd.C (Kd.int .u8) W (some (ad.add at_)) n ((l0.drop at_).take n) := by
          intro W hW
          obtain ⟨ad, rfl, hc⟩ := Kd.at_int (Kd.C_below HR.out HL.out.below) (at_ : Int) (by omega) (by omega)
          have hcut := Kd.C_take (m := n) (Kd.C_drop (m := at_) (Kd.C_below HR.out HL.out.below) (by omega) hc0) (by rw [List.length_drop]; omega)
          rw [if_neg (by omega), List.length_take, List.length_drop, Nat.min_eq_left (by omega)] at hcut
          have e : Option.map (fun x : Addr => x.add (at_ * (Kd.int .u8).sz)) (some ad) = some (ad.add at_) := by show some (ad.add (at_ * 1)) = _; rw [Nat.mul_one]
          rw [e] at hcut
          exact ⟨ad, rfl, Kd.C_below hcut hW⟩
        have HC := Lib.hid (Kd.C_below HR.out HL.out.below)
        obtain ⟨ad, rfl, hc⟩ := Kd.at_int HC.out (at_ : Int) (by omega) (by omega)
        have hcv : ∀ W, Below w1.heap.size w1 W → ∀ c', (convert 22 9 (.slice (some (ad.add at_)) n c')).run Tryd.prog W = .ok (.string (strOfNums ((l0.drop at_).take n))) W := by
          intro W hW c'
          obtain ⟨ad2, e2, hk⟩ := hcutp W hW
          obtain rfl := Option.some.inj e2
          exact Kd.C_string Tryd.underlying22 Tryd.underlying5 Tryd.underlying9 hk
        have hcv1 := hcv w1 (Below.refl _ _)
        have hat' : (at_ : Int) + (n : Int) ≤ (l0.length : Int) := by omega
        have hfew : (toks.length + 1) * 40 ≤ 140737488355328 := by have := hL.few; omega
        have PIH := Lib.hid (parseInt_any (l0.drop at_) n (by omega) (by rw [List.length_drop]; omega) (by rw [rd_drop _ _ _ (by omega)]; simpa using hn4) (by rw [← hn3]))
        have hlen : (l0.drop at_).length = l0.length - at_ := by rw [List.length_drop]
        have hrd0 : rd (l0.drop at_) 0 = rd l0 at_ := by rw [rd_drop _ _ _ (by omega)]; congr 1
        have hrdn : rd (l0.drop at_) n = rd l0 ((at_ : Int) + n) := rd_drop _ _ _ (by omega)
        have HBAD := Lib.hid hbad
        have HGOOD := Lib.hid hgood
        have NB : Hid (numBad (l0.drop at_) n = (decide (19 < n) || (decide (18 < n) && rd l0 at_ != 45) || (decide (at_ + n < l0.length) && isWithin (rd l0 ((at_ : Int) + n))))) := by unfold numBad; rw [hrd0, hrdn, hlen]; congr 2; exact decide_eq_decide.2 (by omega)
        have HHAT := Lib.hid hn2
        clear hcutp hL hbad hgood hlen hrd0 hrdn hc hn3 hn4
        by_cases c19 : 19 < n
        · have c19' : (19 : Int) < (n : Int) := by omega
          have HST := Lib.hid (HBAD.out (by rw [NB.out]; simp [c19]))
          clear hcv hcv1
          go_wp2_with (first | (go_at_call 19; refine (within_any _ _).mono ?_; rintro e w' ⟨rfl, rfl⟩))
          (try rw [Exit.jumpsYtincigcoagcgaaaDoor_ret])
          go_ret3
          exact bad_ends HST.out HL.out.below
        · have c19' : ¬ (19 : Int) < (n : Int) := by omega
          by_cases c18 : 18 < n
          · have c18' : (18 : Int) < (n : Int) := by omega
            cases h45 : (rd l0 at_ != 45) with
            | true =>
              have HST := Lib.hid (HBAD.out (by rw [NB.out]; simp [c18, h45]))
              clear hcv hcv1
              go_wp2_with (first | (go_at_call 19; refine (within_any _ _).mono ?_; rintro e w' ⟨rfl, rfl⟩))
              (try rw [Exit.jumpsYtincigcoagcgaaaDoor_ret])
              go_ret3
              exact bad_ends HST.out HL.out.below
            | false =>
              by_cases cin : at_ + n < l0.length
              · have cin' : (at_ : Int) + (n : Int) < (l0.length : Int) := by omega
                obtain ⟨ad2, e2, hc2⟩ := Kd.at_int HC.out ((at_ : Int) + n) (by omega) (by omega)
                obtain rfl := Option.some.inj e2
                rw [show ((at_ : Int) + (n : Int)).toNat = at_ + n from by omega] at hc2
                have CIN := Lib.hid cin
                clear cin e2
                cases hwi : isWithin (rd l0 ((at_ : Int) + n)) with
                | true =>
                  have HST := Lib.hid (HBAD.out (by rw [NB.out]; simp [c19, h45, CIN.out, hwi]))
                  clear hcv hcv1
                  go_wp2_with (first | (go_at_call 19; refine (within_any _ _).mono ?_; rintro e w' ⟨rfl, rfl⟩))
                  (try rw [Exit.jumpsYtincigcoagcgaaaDoor_ret])
                  go_ret3
                  exact bad_ends HST.out HL.out.below
                | false =>
                  obtain ⟨k, hk, hgo⟩ := HGOOD.out (by rw [NB.out]; simp [c19, h45, CIN.out, hwi])
                  have HGo := Lib.hid hgo
                  have HK := Lib.hid hk
                  have PI := PIH.out (.inr ⟨by omega, by rw [rd_drop _ _ _ (by omega)]; simpa using h45⟩)
                  clear hk hgo
                  go_wp2_with (first | (go_at_call 19; refine (within_any _ _).mono ?_; rintro e w' ⟨rfl, rfl⟩) | (go_at_call 21; refine (PI _).mono ?_; rintro e w2 ⟨rfl, hb2⟩; have HO2 := Lib.hid (Kd.R_below HL.out.own hb2); have HB2 := Lib.hid (below_step HL.out.below hb2); have hcv2 := hcv w2 hb2; clear hb2 PI hcv))
                  go_step3
                  go_wp2_with (at_builtin; refine Kd.R_append k33 (w0 := w) w.heap.size rfl (.tmp 168) (.tmp 180) 24 33 (.agg #[(.int .i64 0), (.int .i64 0), (.string ⟨#[]⟩), (.int .i64 0)]) 40 rfl Tryd.underlying24 info33 rfl (by decide) (by omega) vo toks (⟨2, (at_ : Int), strOfNums ((l0.drop at_).take n), numVal ((l0.drop at_).take n)⟩ : S33) [.int .i64 2, .int .i64 (at_ : Int), .string (strOfNums ((l0.drop at_).take n)), .int .i64 (numVal ((l0.drop at_).take n))] (fun _ => True) (fun _ => False) rfl rfl (k33_mkM _ _ _ _) (fun _ hk => hk.elim) (fun _ _ => trivial) HO2.out HB2.out HB2.out.size hfew ?_; intro v165 w12 ho hb hg hat)
                  go_step3
                  exact to0 (m := _) (at_ := at_ + n) (by have := HHAT.out; omega) ⟨ho, hb, by have := HHAT.out; omega, by rw [List.length_append]; have := HL.out.few; simp; omega⟩ ⟨k, HK.out, HGo.out⟩ (by omega) rfl
              · have cin' : ¬ (at_ : Int) + (n : Int) < (l0.length : Int) := by omega
                have CIN := Lib.hid cin
                clear cin
                obtain ⟨k, hk, hgo⟩ := HGOOD.out (by rw [NB.out]; simp [c19, h45, CIN.out])
                have HGo := Lib.hid hgo
                have HK := Lib.hid hk
                have PI := PIH.out (.inr ⟨by omega, by rw [rd_drop _ _ _ (by omega)]; simpa using h45⟩)
                clear hk hgo
                go_wp2_with (first | (go_at_call 19; refine (within_any _ _).mono ?_; rintro e w' ⟨rfl, rfl⟩) | (go_at_call 21; refine (PI _).mono ?_; rintro e w2 ⟨rfl, hb2⟩; have HO2 := Lib.hid (Kd.R_below HL.out.own hb2); have HB2 := Lib.hid (below_step HL.out.below hb2); have hcv2 := hcv w2 hb2; clear hb2 PI hcv))
                go_step3
                go_wp2_with (at_builtin; refine Kd.R_append k33 (w0 := w) w.heap.size rfl (.tmp 168) (.tmp 180) 24 33 (.agg #[(.int .i64 0), (.int .i64 0), (.string ⟨#[]⟩), (.int .i64 0)]) 40 rfl Tryd.underlying24 info33 rfl (by decide) (by omega) vo toks (⟨2, (at_ : Int), strOfNums ((l0.drop at_).take n), numVal ((l0.drop at_).take n)⟩ : S33) [.int .i64 2, .int .i64 (at_ : Int), .string (strOfNums ((l0.drop at_).take n)), .int .i64 (numVal ((l0.drop at_).take n))] (fun _ => True) (fun _ => False) rfl rfl (k33_mkM _ _ _ _) (fun _ hk => hk.elim) (fun _ _ => trivial) HO2.out HB2.out HB2.out.size hfew ?_; intro v165 w12 ho hb hg hat)
                go_step3
                exact to0 (m := _) (at_ := at_ + n) (by have := HHAT.out; omega) ⟨ho, hb, by have := HHAT.out; omega, by rw [List.length_append]; have := HL.out.few; simp; omega⟩ ⟨k, HK.out, HGo.out⟩ (by omega) rfl
          · have c18' : ¬ (18 : Int) < (n : Int) := by omega
            by_cases cin : at_ + n < l0.length
            · have cin' : (at_ : Int) + (n : Int) < (l0.length : Int) := by omega
              obtain ⟨ad2, e2, hc2⟩ := Kd.at_int HC.out ((at_ : Int) + n) (by omega) (by omega)
              obtain rfl := Option.some.inj e2
              rw [show ((at_ : Int) + (n : Int)).toNat = at_ + n from by omega] at hc2
              have CIN := Lib.hid cin
              clear cin e2
              cases hwi : isWithin (rd l0 ((at_ : Int) + n)) with
              | true =>
                have HST := Lib.hid (HBAD.out (by rw [NB.out]; simp [c19, c18, CIN.out, hwi]))
                clear hcv hcv1
                go_wp2_with (first | (go_at_call 19; refine (within_any _ _).mono ?_; rintro e w' ⟨rfl, rfl⟩))
                (try rw [Exit.jumpsYtincigcoagcgaaaDoor_ret])
                go_ret3
                exact bad_ends HST.out HL.out.below
              | false =>
                obtain ⟨k, hk, hgo⟩ := HGOOD.out (by rw [NB.out]; simp [c19, c18, CIN.out, hwi])
                have HGo := Lib.hid hgo
                have HK := Lib.hid hk
                have PI := PIH.out (.inl (by omega))
                clear hk hgo
                go_wp2_with (first | (go_at_call 19; refine (within_any _ _).mono ?_; rintro e w' ⟨rfl, rfl⟩) | (go_at_call 21; refine (PI _).mono ?_; rintro e w2 ⟨rfl, hb2⟩; have HO2 := Lib.hid (Kd.R_below HL.out.own hb2); have HB2 := Lib.hid (below_step HL.out.below hb2); have hcv2 := hcv w2 hb2; clear hb2 PI hcv))
                go_step3
                go_wp2_with (at_builtin; refine Kd.R_append k33 (w0 := w) w.heap.size rfl (.tmp 168) (.tmp 180) 24 33 (.agg #[(.int .i64 0), (.int .i64 0), (.string ⟨#[]⟩), (.int .i64 0)]) 40 rfl Tryd.underlying24 info33 rfl (by decide) (by omega) vo toks (⟨2, (at_ : Int), strOfNums ((l0.drop at_).take n), numVal ((l0.drop at_).take n)⟩ : S33) [.int .i64 2, .int .i64 (at_ : Int), .string (strOfNums ((l0.drop at_).take n)), .int .i64 (numVal ((l0.drop at_).take n))] (fun _ => True) (fun _ => False) rfl rfl (k33_mkM _ _ _ _) (fun _ hk => hk.elim) (fun _ _ => trivial) HO2.out HB2.out HB2.out.size hfew ?_; intro v165 w12 ho hb hg hat)
                go_step3
                exact to0 (m := _) (at_ := at_ + n) (by have := HHAT.out; omega) ⟨ho, hb, by have := HHAT.out; omega, by rw [List.length_append]; have := HL.out.few; simp; omega⟩ ⟨k, HK.out, HGo.out⟩ (by omega) rfl
            · have cin' : ¬ (at_ : Int) + (n : Int) < (l0.length : Int) := by omega
              have CIN := Lib.hid cin
              clear cin
              obtain ⟨k, hk, hgo⟩ := HGOOD.out (by rw [NB.out]; simp [c19, c18, CIN.out])
              have HGo := Lib.hid hgo
              have HK := Lib.hid hk
              have PI := PIH.out (.inl (by omega))
              clear hk hgo
              go_wp2_with (first | (go_at_call 19; refine (within_any _ _).mono ?_; rintro e w' ⟨rfl, rfl⟩) | (go_at_call 21; refine (PI _).mono ?_; rintro e w2 ⟨rfl, hb2⟩; have HO2 := Lib.hid (Kd.R_below HL.out.own hb2); have HB2 := Lib.hid (below_step HL.out.below hb2); have hcv2 := hcv w2 hb2; clear hb2 PI hcv))
              go_step3
              go_wp2_with (at_builtin; refine Kd.R_append k33 (w0 := w) w.heap.size rfl (.tmp 168) (.tmp 180) 24 33 (.agg #[(.int .i64 0), (.int .i64 0), (.string ⟨#[]⟩), (.int .i64 0)]) 40 rfl Tryd.underlying24 info33 rfl (by decide) (by omega) vo toks (⟨2, (at_ : Int), strOfNums ((l0.drop at_).take n), numVal ((l0.drop at_).take n)⟩ : S33) [.int .i64 2, .int .i64 (at_ : Int), .string (strOfNums ((l0.drop at_).take n)), .int .i64 (numVal ((l0.drop at_).take n))] (fun _ => True) (fun _ => False) rfl rfl (k33_mkM _ _ _ _) (fun _ hk => hk.elim) (fun _ _ => trivial) HO2.out HB2.out HB2.out.size hfew ?_; intro v165 w12 ho hb hg hat)
              go_step3
              exact to0 (m := _) (at_ := at_ + n) (by have := HHAT.out; omega) ⟨ho, hb, by have := HHAT.out; omega, by rw [List.length_append]; have := HL.out.few; simp; omega⟩ ⟨k, HK.out, HGo.out⟩ (by omega) rfl
      · exact absurd h (by decide)
    · rintro m a w1 (⟨h, _⟩ | ⟨h, _⟩ | ⟨_, vo, at_, n, kd, v, toks, hL, rfl, hn1, hn2, ⟨k, hk, hgo⟩, f, rfl⟩)
      · exact absurd h (by decide)
      · exact absurd h (by decide)
      · have HL := Lib.hid hL
        have HGo := Lib.hid hgo
        have HK := Lib.hid hk
        obtain ⟨ad, rfl, hc⟩ := Kd.at_int (Kd.C_below HR.out HL.out.below) (at_ : Int) (by omega) (by omega)
        have hcut := Kd.C_take (m := n) (Kd.C_drop (m := at_) (Kd.C_below HR.out HL.out.below) (by omega) hc0) (by rw [List.length_drop]; omega)
        rw [if_neg (by omega), List.length_take, List.length_drop, Nat.min_eq_left (by omega)] at hcut
        have hcut' : Kd.C (Kd.int .u8) w1 (some (ad.add at_)) n ((l0.drop at_).take n) := by
          have e : Option.map (fun x : Addr => x.add (at_ * (Kd.int .u8).sz)) (some ad) = some (ad.add at_) := by show some (ad.add (at_ * 1)) = _; rw [Nat.mul_one]
          rw [e] at hcut; exact hcut
        have hcv : ∀ c', (convert 22 9 (.slice (some (ad.add at_)) n c')).run Tryd.prog w1 = .ok (.string (strOfNums ((l0.drop at_).take n))) w1 := fun c' => Kd.C_string Tryd.underlying22 Tryd.underlying5 Tryd.underlying9 hcut'
        have hat' : (at_ : Int) + (n : Int) ≤ (l0.length : Int) := by omega
        have hm1 : l0.length ≤ 4096 := by omega
        have hfew : (toks.length + 1) * 40 ≤ 140737488355328 := by have := hL.few; omega
        clear hL hgo hk hc hcut hcut'
        go_wp2_with (at_builtin; refine Kd.R_append k33 (w0 := w) w.heap.size rfl (.tmp 168) (.tmp 180) 24 33 (.agg #[(.int .i64 0), (.int .i64 0), (.string ⟨#[]⟩), (.int .i64 0)]) 40 rfl Tryd.underlying24 info33 rfl (by decide) (by omega) vo toks (⟨kd, (at_ : Int), strOfNums ((l0.drop at_).take n), v⟩ : S33) [.int .i64 kd, .int .i64 (at_ : Int), .string (strOfNums ((l0.drop at_).take n)), .int .i64 v] (fun _ => True) (fun _ => False) rfl rfl (k33_mkM _ _ _ _) (fun _ hk => hk.elim) (fun _ _ => trivial) HL.out.own HL.out.below HL.out.below.size hfew ?_; intro v165 w12 ho hb hg hat)
        go_step3
        exact to0 (m := _) (at_ := at_ + n) (by omega) ⟨ho, hb, by omega, by rw [List.length_append]; have := HL.out.few; simp; omega⟩ ⟨k, HK.out, HGo.out⟩ (by omega) rfl
end Go.Proofs.YtincigcoagcgaaaDoor.Pr
