/-
  What samaralaw18.made answers: some entries, as many as sizes.
-/
import Derived.Test.YtpiobilidhmedaaF5
namespace Go.Proofs.Ytpiobilidhmedaa
open Go.RowKit Go.Sl Go.Ct
set_option linter.unusedVariables false
set_option linter.unusedSimpArgs false

theorem heap_alloc_at (w : World) (o : Obj) (k : Nat) (h : w.heap.size = k) : (w.alloc o).heap[k]? = some o := by
  subst h; exact heap_alloc_new w o
def encU (x : Int) : List Value := [.int .u8 x]
theorem Rd.u8 {w : World} {b o : Nat} {l : List Int} (h : Rd encU 1 w (some ⟨b, o, none⟩) l) {k : Nat} {x : Int} (hx : l[k]? = some x) :
    w.cell? ⟨b, o + k, none⟩ = some (.int .u8 x) := by
  obtain ⟨b', o', hA, hc⟩ := h.at (List.getElem?_eq_some_iff.1 hx).1
  cases hA
  have := hc k x hx 0 (by omega)
  simpa [encU] using this
def SomeEntries (n : Nat) (w : World) (e : Ending) (w' : World) : Prop := ∃ v l, e = .returned v ∧ l.length = n ∧ RowE w w' (Old w) v l

set_option maxRecDepth 100000 in
set_option maxHeartbeats 8000000 in
theorem made21_calls (A : Option Addr) (c : Nat) (l : List Int) (bad m0 m1 m2 : Int) (w : World) (r : Rd encU 1 w A l) (hl : l.length ≤ 1000) (hu : ∀ x ∈ l, 0 ≤ x ∧ x ≤ 255) :
    Calls Try.prog 21 #[.slice A l.length c, .int .i64 bad, .agg #[.int .i64 m0, .int .i64 m1, .int .i64 m2]] w (SomeEntries l.length w) := by
  have hS := ((Sat.refl w).alloc [.int .i64 m0, .int .i64 m1, .int .i64 m2] 31).row_start 31 3
  go_enter Try.func21, Try.ntmps21
  go_wp2
  generalize w.heap.size = g at *
  go_loopg [7, 8, 9] l.length (fun gk v7 v8 v9 w' => ∃ (i : Nat) (L : List En) (at_ : Int), i + gk = l.length ∧ L.length = i ∧ v9 = .int .i64 i ∧ v8 = .int .i64 at_ ∧ Sat w w' (row v7 31 3 L.length (ce L) * (pt g [.int .i64 m0, .int .i64 m1, .int .i64 m2] 31 * Old w)))
  case atStart => exact ⟨0, [], 65536, by omega, rfl, rfl, rfl, hS⟩
  case round =>
    clear hS
    obtain ⟨i, L, at_, hgk, hL, rfl, rfl, hR⟩ := hrel
    have HG := Lib.hid hgk
    have HL := Lib.hid hL
    have hi : i ≤ l.length := by omega
    clear hgk hL
    by_cases hlt : i < l.length
    case neg =>
      have : i = l.length := by omega
      subst this
      go_wp2
      go_ret
      exact ⟨_, L, rfl, HL.out, hR.rot.right⟩
    case pos =>
    obtain ⟨b, o, rfl⟩ := r.addr hlt
    obtain ⟨x, hx⟩ : ∃ x, l[i]? = some x := ⟨l[i], by simp [hlt]⟩
    have c0 := (r.below (sz := 1) (fun _ => rfl) hR.right.right.below0).u8 hx
    have hx2 := hu x (List.mem_of_getElem? hx)
    obtain ⟨x0, x255⟩ := hx2
    have hb := World.block_lt_of_cell? _ _ c0
    simp only [] at hb
    have hq := hR.rot.cell
    clear hx
    have hlt1 : L.length ≤ 1000 := by have := HL.out; omega
    have hg : g < wr.heap.size := hR.rot.lt
    have h2 : x % 2 = 1 ∨ x % 2 = 0 := by omega
    rcases h2 with h2 | h2
    · cases hbad : ((i : Int) == bad) with
      | true =>
        go_wp2_with (at_builtin; go_loud (refine wpList_append_new rfl _ _ 27 rfl 31 _ 3 24 Try.underlying27 info31 rfl (by decide) _ _ _ _ rfl ((hR.alloc_any _).alloc_any _) _ (En.cells ⟨_, _, _⟩) rfl rfl (heap_alloc_new1 _ _ _) (by simp [En.cells, Value.oneCell']) (by omega) (by omega) ?_); intro v' w4 hS4)
        all_goals
          go_roundg (gk - 1)
          case measure => have := HG.out; omega
          case rel => exact ⟨i + 1, L ++ [⟨_, _, _⟩], _, by have := HG.out; omega, by simp [HL.out], by go_num, rfl, by simpa [ce] using hS4⟩
      | false =>
        go_wp2_with (at_builtin; go_loud (refine wpList_append_new rfl _ _ 27 rfl 31 _ 3 24 Try.underlying27 info31 rfl (by decide) _ _ _ _ rfl ((hR.alloc_any _).alloc_any _) _ (En.cells ⟨_, _, _⟩) rfl rfl (heap_alloc_new1 _ _ _) (by simp [En.cells, Value.oneCell']) (by omega) (by omega) ?_); intro v' w4 hS4)
        all_goals
          go_roundg (gk - 1)
          case measure => have := HG.out; omega
          case rel => exact ⟨i + 1, L ++ [⟨_, _, _⟩], _, by have := HG.out; omega, by simp [HL.out], by go_num, rfl, by simpa [ce] using hS4⟩
    · cases hbad : ((i : Int) == bad) with
      | true =>
        go_wp2_with (at_builtin; go_loud (refine wpList_append_new rfl _ _ 27 rfl 31 _ 3 24 Try.underlying27 info31 rfl (by decide) _ _ _ _ rfl ((hR.alloc_any _).alloc_any _) _ (En.cells ⟨_, _, _⟩) rfl rfl (heap_alloc_new1 _ _ _) (by simp [En.cells, Value.oneCell']) (by omega) (by omega) ?_); intro v' w4 hS4)
        all_goals
          go_roundg (gk - 1)
          case measure => have := HG.out; omega
          case rel => exact ⟨i + 1, L ++ [⟨_, _, _⟩], _, by have := HG.out; omega, by simp [HL.out], by go_num, rfl, by simpa [ce] using hS4⟩
      | false =>
        go_wp2_with (at_builtin; go_loud (refine wpList_append_new rfl _ _ 27 rfl 31 _ 3 24 Try.underlying27 info31 rfl (by decide) _ _ _ _ rfl ((hR.alloc_any _).alloc_any _) _ (En.cells ⟨_, _, _⟩) rfl rfl (heap_alloc_new1 _ _ _) (by simp [En.cells, Value.oneCell']) (by omega) (by omega) ?_); intro v' w4 hS4)
        all_goals
          go_roundg (gk - 1)
          case measure => have := HG.out; omega
          case rel => exact ⟨i + 1, L ++ [⟨_, _, _⟩], _, by have := HG.out; omega, by simp [HL.out], by go_num, rfl, by simpa [ce] using hS4⟩
end Go.Proofs.Ytpiobilidhmedaa
