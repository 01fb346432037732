/-
  What the small functions on areas answer: whole, off, Formed, Goes of package area; Formed, Attr, After of samararef06.
  For every area and number; each leaves what was there as it was.
-/
import Derived.Test.YtpiobilidhmedaaProg
import Derived.Test.YtpiobilidhmedaaSl
import Derived.WalkSpells
import Derived.WalkLawsBesides
import Derived.Deep.QuietTactic
import Derived.BigQuiet
import Derived.Deep.RegionHeld3
import Derived.Deep.DeepCutAuto
import Derived.Lib.Hide
namespace Go.Sl
open Go.RowKit in
theorem Sat.call0 {W w w' : World} {F : As} (h : Sat W w F) (k : Sat w w' (Old w)) : Sat W w' F := h.lift0 k.below0
end Go.Sl
namespace Go.Proofs.Ytpiobilidhmedaa
open Go.RowKit Go.Sl
set_option linter.unusedVariables false
set_option linter.unusedSimpArgs false

/-- An area. -/
structure Ar where
  s : Int
  e : Int
  p : Int
  sh : Bool
  b : Int
  o : Int
def Ar.cells (a : Ar) : List Value := [.int .i64 a.s, .int .i64 a.e, .int .i64 a.p, .bool a.sh, .int .i64 a.b, .int .i64 a.o]
/-- Formed. -/
def Ar.Ok (a : Ar) : Prop := 65536 ≤ a.s ∧ a.e ≤ 2097152 ∧ a.s < a.e ∧ a.s % 4096 = 0 ∧ a.e % 4096 = 0 ∧ 0 ≤ a.p ∧ a.p ≤ 7 ∧ 0 ≤ a.b ∧ a.b ≤ 9 ∧ 0 ≤ a.o ∧ a.o % 4096 = 0 ∧
  (a.b = 0 → a.o = 0) ∧ (0 < a.b → a.o ≤ 1099511627776 - (a.e - a.s))
instance (a : Ar) : Decidable a.Ok := by unfold Ar.Ok; infer_instance
def Ar.ok (a : Ar) : Bool := decide a.Ok
theorem Ar.ok_iff (a : Ar) : a.ok = true ↔ a.Ok := by simp [Ar.ok]
/-- The offset that belongs to a place of an area. -/
def Ar.off (a : Ar) (x : Int) : Int := if a.b = 0 then 0 else wrap64 (wrap64 (a.o + x) - a.s)
theorem ret_bool {a b : Bool} (h : a = b) : Ending.returned (.bool a) = .returned (.bool b) := by rw [h]
theorem tmod4 (a : Int) : a.tmod 4096 = 0 ↔ a % 4096 = 0 := by rw [← Int.dvd_iff_tmod_eq_zero, Int.dvd_iff_emod_eq_zero]
theorem tmod4b (a : Int) : (a.tmod 4096 == 0) = (a % 4096 == 0) := by rw [Bool.eq_iff_iff, beq_iff_eq, beq_iff_eq, tmod4]

set_option maxHeartbeats 400000 in
theorem whole_calls (n : Int) (w : World) :
    Calls Try.prog 118 #[.int .i64 n] w fun e w' => e = .returned (.bool (n % 4096 == 0)) ∧ w = w' := by
  go_enter Try.func118, Try.ntmps118
  go_wp2
  go_ret
  exact ⟨ret_bool (tmod4b n), rfl⟩

set_option maxHeartbeats 400000 in
theorem off_calls (a : Ar) (at_ : Int) (w : World) :
    Calls Try.prog 119 #[.agg #[.int .i64 a.s, .int .i64 a.e, .int .i64 a.p, .bool a.sh, .int .i64 a.b, .int .i64 a.o], .int .i64 at_] w fun e w' => e = .returned (.int .i64 (a.off at_)) ∧ Sat w w' (Old w) := by
  have hS := Sat.refl w
  by_cases h : a.b = 0
  · go_enter Try.func119, Try.ntmps119
    go_wp2
    go_ret
    exact ⟨by simp [Ar.off, h], hS.alloc_any _⟩
  · go_enter Try.func119, Try.ntmps119
    go_wp2
    go_ret
    exact ⟨by simp [Ar.off, h], hS.alloc_any _⟩

set_option maxHeartbeats 1000000 in
theorem rformed_calls (a : Ar)  (w : World) :
    Calls Try.prog 94 #[.agg #[.int .i64 a.s, .int .i64 a.e, .int .i64 a.p, .bool a.sh, .int .i64 a.b, .int .i64 a.o]] w fun e w' => e = .returned (.bool a.ok) ∧ Sat w w' (Old w) := by
  have hS := Sat.refl w
  go_enter Try.func94, Try.ntmps94
  go_wp2
  all_goals
    go_ret
    refine ⟨ret_bool ?_, hS.alloc_any _⟩
    try simp only [bne_iff_ne, ne_eq, bne_eq_false_iff_eq, beq_iff_eq, beq_eq_false_iff_ne] at *
    rw [Bool.eq_iff_iff, Ar.ok_iff]
    simp only [beq_iff_eq, decide_eq_true_eq, Bool.false_eq_true, false_iff, true_iff]
    unfold Ar.Ok
    omega

set_option maxHeartbeats 1000000 in
theorem aformed_calls (a : Ar)  (w : World) :
    Calls Try.prog 97 #[.agg #[.int .i64 a.s, .int .i64 a.e, .int .i64 a.p, .bool a.sh, .int .i64 a.b, .int .i64 a.o]] w fun e w' => e = .returned (.bool a.ok) ∧ Sat w w' (Old w) := by
  have hS := Sat.refl w
  go_enter Try.func97, Try.ntmps97
  go_wp2_with (go_at_call 118; (with_reducible refine (whole_calls _ _).mono ?_); rintro e w' ⟨rfl, rfl⟩)
  all_goals
    go_ret
    refine ⟨ret_bool ?_, hS.alloc_any _⟩
    try simp only [bne_iff_ne, ne_eq, bne_eq_false_iff_eq, beq_iff_eq, beq_eq_false_iff_ne] at *
    rw [Bool.eq_iff_iff, Ar.ok_iff]
    simp only [beq_iff_eq, decide_eq_true_eq, Bool.false_eq_true, false_iff, true_iff]
    unfold Ar.Ok
    omega

/-- The page's attributes. -/
structure At where
  p : Int
  sh : Bool
  b : Int
  o : Int
def At.cells (a : At) : List Value := [.int .i64 a.p, .bool a.sh, .int .i64 a.b, .int .i64 a.o]

end Go.Proofs.Ytpiobilidhmedaa
