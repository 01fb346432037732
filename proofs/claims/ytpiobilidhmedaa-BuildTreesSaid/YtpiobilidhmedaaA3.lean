/-
  What samararef06.Attr and After answer: the attributes of a page that lies in a formed area; whether one page's attributes follow on another's.
-/
import Derived.Test.YtpiobilidhmedaaA2
import Derived.Laws.StructEq
namespace Go.Proofs.Ytpiobilidhmedaa
open Go.RowKit Go.Sl Go.Ct
set_option linter.unusedVariables false
set_option linter.unusedSimpArgs false

/-- What a page of an area has. -/
def Ar.attr (a : Ar) (p : Int) : At := ⟨a.p, a.sh, a.b, if 0 < a.b then a.o + 4096 * (p - a.s / 4096) else 0⟩
theorem attr_o (a : Ar) (p : Int) : (a.attr p).o = if 0 < a.b then a.o + 4096 * (p - a.s / 4096) else 0 := rfl

def AttrPost (a : Ar) (p : Int) (w : World) (e : Ending) (w' : World) : Prop :=
  ∃ x, x = (a.attr p).o ∧ e = .returned (.tuple #[.agg #[.int .i64 a.p, .bool a.sh, .int .i64 a.b, .int .i64 x], .bool true]) ∧ Sat w w' (Old w)

set_option maxRecDepth 100000 in
set_option maxHeartbeats 1000000 in
theorem attr_calls (a : Ar) (p : Int) (w : World) (hok : a.Ok) (h1 : a.s / 4096 ≤ p) (h2 : p < a.e / 4096) :
    Calls Try.prog 101 #[.agg #[.int .i64 a.s, .int .i64 a.e, .int .i64 a.p, .bool a.sh, .int .i64 a.b, .int .i64 a.o], .int .i64 p] w (AttrPost a p w) := by
  have hS := Sat.refl w
  have ho := attr_o a p
  obtain ⟨k1, k2, k3, k4, k5, k6, k7, k8, k9, k10, k11, k12, k13⟩ := hok
  have q1 : ¬ p < a.s / 4096 := by omega
  have q2 : ¬ a.e / 4096 ≤ p := by omega
  have HO := Lib.hid ho
  clear ho
  by_cases hb : 0 < a.b
  · have hof := k13 hb
    clear k12 k13
    go_enter Try.func101, Try.ntmps101
    go_wp2
    refine bodyPost_ret (v := .tuple #[.agg #[.int .i64 a.p, .bool a.sh, .int .i64 a.b, .int .i64 (a.o + 4096 * (p - a.s / 4096))], .bool true]) (by simp [results, Try.results101, go_sem]) rfl ⟨_, ?_, rfl, ?_⟩
    · rw [HO.out, if_pos hb]
    · exact ((((hS.alloc_any _).alloc_any _).alloc_any _))
  · have hz : a.b ≤ 0 := by omega
    have hof := k12 (by omega)
    have ho0 : a.o ≤ 0 := by omega
    clear k12 k13 hof
    go_enter Try.func101, Try.ntmps101
    go_wp2
    refine bodyPost_ret (v := .tuple #[.agg #[.int .i64 a.p, .bool a.sh, .int .i64 a.b, .int .i64 0], .bool true]) (by simp [results, Try.results101, go_sem]) rfl ⟨_, ?_, rfl, ?_⟩
    · rw [HO.out, if_neg (by omega)]
    · exact ((((hS.alloc_any _).alloc_any _).alloc_any _))

def At.after (a b : At) : Bool := a.p == b.p && (a.sh == b.sh && (a.b == b.b && ((if 0 < a.b then a.o + 4096 else a.o) == b.o)))

set_option maxRecDepth 100000 in
set_option maxHeartbeats 1000000 in
theorem after_calls (a b : At) (w : World) (h0 : 0 ≤ a.o) (h1 : a.o ≤ 2199023255552) :
    Calls Try.prog 102 #[.agg #[.int .i64 a.p, .bool a.sh, .int .i64 a.b, .int .i64 a.o], .agg #[.int .i64 b.p, .bool b.sh, .int .i64 b.b, .int .i64 b.o]] w
      fun e w' => e = .returned (.bool (a.after b)) ∧ Sat w w' (Old w) := by
  have hS := Sat.refl w
  by_cases hb : 0 < a.b
  · have E := Lib.hid (show (if 0 < a.b then a.o + 4096 else a.o) = a.o + 4096 from if_pos hb)
    go_enter Try.func102, Try.ntmps102
    go_wp2
    all_goals
      go_ret
      refine ⟨ret_bool ?_, ((((hS.alloc_any _).alloc_any _).alloc_any _))⟩
      unfold At.after
      rw [E.out]
      simp [*]
  · have E := Lib.hid (show (if 0 < a.b then a.o + 4096 else a.o) = a.o from if_neg hb)
    go_enter Try.func102, Try.ntmps102
    go_wp2
    all_goals
      go_ret
      refine ⟨ret_bool ?_, ((((hS.alloc_any _).alloc_any _).alloc_any _))⟩
      unfold At.after
      rw [E.out]
      simp [*]
end Go.Proofs.Ytpiobilidhmedaa
