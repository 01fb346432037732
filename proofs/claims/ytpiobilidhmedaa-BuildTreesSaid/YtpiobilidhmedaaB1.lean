/-
  What build.above and samararef18.Above answer: whether all numbers of a slice are above 0, for every slice; what was there stays as it was.
-/
import Derived.Test.YtpiobilidhmedaaA1
import Derived.Test.YtpiobilidhmedaaCt
namespace Go.Proofs.Ytpiobilidhmedaa
open Go.RowKit Go.Sl Go.Ct
set_option linter.unusedVariables false
set_option linter.unusedSimpArgs false

/-- A slice at an address reads as a list, each element as its cells. -/
def Rd {α : Type} (enc : α → List Value) (sz : Nat) (w : World) (A : Option Addr) (l : List α) : Prop :=
  l = [] ∨ ∃ b o, A = some ⟨b, o, none⟩ ∧ ∀ i x, l[i]? = some x → ∀ j, j < sz → w.cell? ⟨b, o + i * sz + j, none⟩ = (enc x)[j]?
theorem Rd.below {α : Type} {enc : α → List Value} {sz : Nat} {w w' : World} {A : Option Addr} {l : List α} (hlen : ∀ x, (enc x).length = sz) (h : Rd enc sz w A l) (hb : Below w.heap.size w w') : Rd enc sz w' A l := by
  rcases h with h | ⟨b, o, hA, h⟩
  · exact .inl h
  · refine .inr ⟨b, o, hA, fun i x hx j hj => ?_⟩
    have h1 := h i x hx j hj
    have hlt : j < (enc x).length := by rw [hlen]; exact hj
    rw [List.getElem?_eq_getElem hlt] at h1
    rw [hb.cell (World.block_lt_of_cell? w _ h1), h1, List.getElem?_eq_getElem hlt]
theorem Rd.at {α : Type} {enc : α → List Value} {sz : Nat} {w : World} {A : Option Addr} {l : List α} (h : Rd enc sz w A l) {k : Nat} (hk : k < l.length) :
    ∃ b o, A = some ⟨b, o, none⟩ ∧ ∀ i x, l[i]? = some x → ∀ j, j < sz → w.cell? ⟨b, o + i * sz + j, none⟩ = (enc x)[j]? := by
  rcases h with rfl | h
  · simp at hk
  · exact h
def encI (x : Int) : List Value := [.int .i64 x]

set_option maxHeartbeats 400000 in
theorem above1_calls (n : Int) (w : World) :
    Calls Try.prog 100 #[.int .i64 n] w fun e w' => e = .returned (.bool (decide (n ≤ 0))) ∧ w = w' := by
  go_enter Try.func100, Try.ntmps100
  go_wp2
  go_ret
  exact ⟨rfl, rfl⟩

/-- The first that is 0 or less, from a place on; -1 if there is none. -/
def IdxPost (l : List Int) (w : World) (e : Ending) (w' : World) : Prop := ∃ r : Int, e = .returned (.int .i64 r) ∧ (0 ≤ r ↔ ∃ x ∈ l, x ≤ 0) ∧ w = w'

set_option maxHeartbeats 1000000 in
theorem index_calls (A : Option Addr) (c : Nat) (l : List Int) (w : World) (hr : Rd encI 1 w A l) (hl : l.length ≤ 1000000) :
    Calls Try.prog 120 #[.slice A l.length c, .func (.func 100) #[] #[]] w (IdxPost l w) := by
  go_enter Try.func120, Try.ntmps120
  go_wp2
  go_loop [8] (fun v8 => ∃ k : Nat, k ≤ l.length ∧ v8 = .int .i64 k ∧ ∀ x ∈ l.take k, 0 < x) (fun v8 => l.length - (intOf v8).toNat)
  case atStart => exact ⟨0, Nat.zero_le _, rfl, by simp⟩
  case round =>
    obtain ⟨k, hk, rfl, hpos⟩ := hrel
    have HP := Lib.hid hpos
    clear hpos
    by_cases hlt : k < l.length
    · obtain ⟨b, o, rfl, hc⟩ := hr.at hlt
      have hx := hc k l[k] (by simp [hlt]) 0 (by omega)
      simp only [encI, Nat.mul_one, Nat.add_zero, List.getElem?_cons_zero] at hx
      clear hc
      by_cases hle : l[k] ≤ 0
      · go_wp2_with (go_at_call 100; (with_reducible refine (above1_calls _ _).mono ?_); rintro e w1 ⟨rfl, rfl⟩)
        go_ret
        exact ⟨k, rfl, ⟨fun _ => ⟨l[k], List.getElem_mem _, hle⟩, fun _ => by omega⟩, rfl⟩
      · go_wp2_with (go_at_call 100; (with_reducible refine (above1_calls _ _).mono ?_); rintro e w1 ⟨rfl, rfl⟩)
        go_round
        case rel =>
          refine ⟨k + 1, by omega, by go_num, ?_⟩
          rw [List.take_succ_eq_append_getElem hlt]
          intro x hx
          rcases List.mem_append.1 hx with h | h
          · exact HP.out x h
          · rw [List.mem_singleton] at h; omega
        case measure => simp [intOf]; omega
    · go_wp2
      go_ret
      refine ⟨-1, rfl, ⟨fun h => by omega, fun ⟨x, hx, hle⟩ => ?_⟩, rfl⟩
      have := HP.out x (by rw [List.take_of_length_le (by omega)]; exact hx)
      omega

def aboveB (l : List Int) : Bool := l.all fun x => decide (0 < x)
theorem aboveB_iff (l : List Int) : aboveB l = true ↔ ¬ ∃ x ∈ l, x ≤ 0 := by
  simp only [aboveB, List.all_eq_true, decide_eq_true_eq]
  constructor
  · rintro h ⟨x, hx, hle⟩; have := h x hx; omega
  · intro h x hx
    by_cases hp : 0 < x
    · exact hp
    · exact absurd ⟨x, hx, by omega⟩ h

set_option maxHeartbeats 1000000 in
theorem contains_calls (A : Option Addr) (c : Nat) (l : List Int) (w : World) (hr : Rd encI 1 w A l) (hl : l.length ≤ 1000000) :
    Calls Try.prog 99 #[.slice A l.length c, .func (.func 100) #[] #[]] w fun e w' => e = .returned (.bool (!aboveB l)) ∧ w = w' := by
  go_enter Try.func99, Try.ntmps99
  go_wp2_with (go_at_call 120; (with_reducible refine (index_calls A c l w hr hl).mono ?_); rintro e w1 ⟨r, rfl, hr2, rfl⟩; have HR := Lib.hid hr2; clear hr2)
  go_ret
  refine ⟨ret_bool ?_, rfl⟩
  rw [Bool.eq_iff_iff, Bool.not_eq_true', ← Bool.not_eq_true, aboveB_iff]
  simp only [decide_eq_true_eq]
  rw [HR.out]
  exact Iff.intro (fun h => fun k => k h) (fun h => Classical.byContradiction h)

set_option maxHeartbeats 1000000 in
theorem above_calls (A : Option Addr) (c : Nat) (l : List Int) (w : World) (hr : Rd encI 1 w A l) (hl : l.length ≤ 1000000) :
    Calls Try.prog 69 #[.slice A l.length c] w fun e w' => e = .returned (.bool (aboveB l)) ∧ w = w' := by
  go_enter Try.func69, Try.ntmps69
  go_wp2_with (go_at_call 99; (with_reducible refine (contains_calls A c l w hr hl).mono ?_); rintro e w1 ⟨rfl, rfl⟩)
  go_ret
  exact ⟨ret_bool (by simp), rfl⟩

set_option maxHeartbeats 1000000 in
theorem rabove_calls (A : Option Addr) (c : Nat) (l : List Int) (w : World) (hr : Rd encI 1 w A l) (hl : l.length ≤ 1000000) :
    Calls Try.prog 71 #[.slice A l.length c] w fun e w' => e = .returned (.bool (aboveB l)) ∧ w = w' := by
  go_enter Try.func71, Try.ntmps71
  go_wp2
  go_loop [3] (fun v3 => ∃ k : Nat, k ≤ l.length ∧ v3 = .int .i64 k ∧ ∀ x ∈ l.take k, 0 < x) (fun v3 => l.length - (intOf v3).toNat)
  case atStart => exact ⟨0, Nat.zero_le _, rfl, by simp⟩
  case round =>
    obtain ⟨k, hk, rfl, hpos⟩ := hrel
    have HP := Lib.hid hpos
    clear hpos
    by_cases hlt : k < l.length
    · obtain ⟨b, o, rfl, hc⟩ := hr.at hlt
      have hx := hc k l[k] (by simp [hlt]) 0 (by omega)
      simp only [encI, Nat.mul_one, Nat.add_zero, List.getElem?_cons_zero] at hx
      clear hc
      by_cases hle : l[k] < 1
      · go_wp2
        go_ret
        refine ⟨ret_bool ?_, rfl⟩
        rw [Bool.eq_iff_iff, aboveB_iff]
        simp only [Bool.false_eq_true, false_iff]
        exact fun h => h ⟨l[k], List.getElem_mem _, by omega⟩
      · go_wp2
        go_round
        case rel =>
          refine ⟨k + 1, by omega, by go_num, ?_⟩
          rw [List.take_succ_eq_append_getElem hlt]
          intro x hx
          rcases List.mem_append.1 hx with h | h
          · exact HP.out x h
          · rw [List.mem_singleton] at h; omega
        case measure => simp [intOf]; omega
    · go_wp2
      go_ret
      refine ⟨ret_bool ?_, rfl⟩
      symm
      rw [aboveB_iff]
      rintro ⟨x, hx, hle⟩
      have := HP.out x (by rw [List.take_of_length_le (by omega)]; exact hx)
      omega
end Go.Proofs.Ytpiobilidhmedaa
