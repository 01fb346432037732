/-
  Nodes with their handles, out of what lies still; pieces of a slice that reads as a list.
-/
import Derived.Test.YtpiobilidhmedaaF8
namespace Go.Proofs.Ytpiobilidhmedaa
open Go.RowKit Go.Sl Go.Ct
set_option linter.unusedVariables false
set_option linter.unusedSimpArgs false
/-- Cells of nodes with handles. -/
def PlsH (x : Hp) (cs : List (List Value)) (L : List (Int × Nd)) : Prop :=
  cs.length = L.length ∧ ∀ (j : Nat) (c : List Value) (y : Int × Nd), cs[j]? = some c → L[j]? = some y → ∃ t, c = .int .i64 y.1 :: t ∧ NdH x t y.2
/-- Cells of nodes. -/
def NdsH (x : Hp) (cs : List (List Value)) (L : List Nd) : Prop :=
  cs.length = L.length ∧ ∀ (j : Nat) (c : List Value) (y : Nd), cs[j]? = some c → L[j]? = some y → NdH x c y
theorem NdH.len {x : Hp} {c : List Value} {n : Nd} (h : NdH x c n) : c.length = 5 := by
  obtain ⟨A1, c1, A2, c2, A3, c3, rfl, _⟩ := h
  rfl
theorem PlsH.nil (x : Hp) : PlsH x [] [] := ⟨rfl, fun j c y h => by cases h⟩
theorem PlsH.mono {x y : Hp} (le : x.Le y) {cs : List (List Value)} {L : List (Int × Nd)} (h : PlsH x cs L) : PlsH y cs L :=
  ⟨h.1, fun j c z hc hz => let ⟨t, e, k⟩ := h.2 j c z hc hz; ⟨t, e, k.mono le⟩⟩
theorem PlsH.append {x : Hp} {cs ds : List (List Value)} {L M : List (Int × Nd)} (h : PlsH x cs L) (k : PlsH x ds M) : PlsH x (cs ++ ds) (L ++ M) := by
  refine ⟨by simp [h.1, k.1], fun j c y hc hy => ?_⟩
  by_cases hj : j < cs.length
  · rw [List.getElem?_append_left hj] at hc
    rw [List.getElem?_append_left (by rw [← h.1]; exact hj)] at hy
    exact h.2 j c y hc hy
  · rw [List.getElem?_append_right (by omega)] at hc
    rw [List.getElem?_append_right (by rw [← h.1]; omega), ← h.1] at hy
    exact k.2 _ c y hc hy
theorem PlsH.one {x : Hp} {t : List Value} {y : Int × Nd} (h : NdH x t y.2) : PlsH x [.int .i64 y.1 :: t] [y] := by
  refine ⟨rfl, fun j c z hc hz => ?_⟩
  cases j with
  | zero =>
    simp at hc hz
    subst hc hz
    exact ⟨t, rfl, h⟩
  | succ j => simp at hc
theorem PlsH.snoc {x : Hp} {cs : List (List Value)} {L : List (Int × Nd)} {t : List Value} {y : Int × Nd} (h : PlsH x cs L) (k : NdH x t y.2) : PlsH x (cs ++ [.int .i64 y.1 :: t]) (L ++ [y]) := h.append (PlsH.one k)
theorem flatten_len {cs : List (List Value)} {sz : Nat} (h : ∀ c ∈ cs, c.length = sz) : cs.flatten.length = cs.length * sz := by
  induction cs with
  | nil => simp
  | cons c cs ih =>
    rw [List.flatten_cons, List.length_append, h c List.mem_cons_self, ih (fun d hd => h d (List.mem_cons_of_mem _ hd)), List.length_cons, Nat.succ_mul]; omega
theorem PlsH.six {x : Hp} {cs : List (List Value)} {L : List (Int × Nd)} (h : PlsH x cs L) : ∀ c ∈ cs, c.length = 6 := by
  intro c hc
  obtain ⟨j, hj⟩ := List.getElem?_of_mem hc
  have hlt := (List.getElem?_eq_some_iff.1 hj).1
  obtain ⟨y, hy⟩ : ∃ y, L[j]? = some y := ⟨L[j]'(by rw [← h.1]; exact hlt), by simp⟩
  obtain ⟨t, rfl, k⟩ := h.2 j c y hj hy
  simp [k.len]
theorem NdsH.nil (x : Hp) : NdsH x [] [] := ⟨rfl, fun j c y h => by cases h⟩
theorem NdsH.mono {x y : Hp} (le : x.Le y) {cs : List (List Value)} {L : List Nd} (h : NdsH x cs L) : NdsH y cs L :=
  ⟨h.1, fun j c z hc hz => (h.2 j c z hc hz).mono le⟩
theorem NdsH.snoc {x : Hp} {cs : List (List Value)} {L : List Nd} {t : List Value} {y : Nd} (h : NdsH x cs L) (k : NdH x t y) : NdsH x (cs ++ [t]) (L ++ [y]) := by
  refine ⟨by simp [h.1], fun j c z hc hz => ?_⟩
  by_cases hj : j < cs.length
  · rw [List.getElem?_append_left hj] at hc
    rw [List.getElem?_append_left (by rw [← h.1]; exact hj)] at hz
    exact h.2 j c z hc hz
  · rw [List.getElem?_append_right (by omega)] at hc
    rw [List.getElem?_append_right (by rw [← h.1]; omega), ← h.1] at hz
    cases hq : j - cs.length with
    | zero =>
      rw [hq] at hc hz
      simp at hc hz
      subst hc hz
      exact k
    | succ m => rw [hq] at hc; simp at hc
theorem NdsH.five {x : Hp} {cs : List (List Value)} {L : List Nd} (h : NdsH x cs L) : ∀ c ∈ cs, c.length = 5 := by
  intro c hc
  obtain ⟨j, hj⟩ := List.getElem?_of_mem hc
  have hlt := (List.getElem?_eq_some_iff.1 hj).1
  obtain ⟨y, hy⟩ : ∃ y, L[j]? = some y := ⟨L[j]'(by rw [← h.1]; exact hlt), by simp⟩
  exact (h.2 j c y hj hy).len
theorem flatten_get {cs : List (List Value)} {sz : Nat} (h : ∀ c ∈ cs, c.length = sz) {j : Nat} {c : List Value} (hj : cs[j]? = some c) {i : Nat} (hi : i < sz) : cs.flatten[j * sz + i]? = c[i]? := by
  induction cs generalizing j with
  | nil => cases hj
  | cons d cs ih =>
    have hd := h d List.mem_cons_self
    cases j with
    | zero =>
      simp at hj; subst hj
      rw [List.flatten_cons, Nat.zero_mul, Nat.zero_add, List.getElem?_append_left (by omega)]
    | succ j =>
      rw [List.getElem?_cons_succ] at hj
      rw [List.flatten_cons, List.getElem?_append_right (by rw [hd, Nat.succ_mul]; omega), hd, Nat.succ_mul, show j * sz + sz + i - sz = j * sz + i by omega]
      exact ih (fun e he => h e (List.mem_cons_of_mem _ he)) hj
/-- A slice's piece reads as the list's. -/
theorem Rd.piece {α : Type} {enc : α → List Value} {sz : Nat} {w : World} {b o : Nat} {l : List α} (h : Rd enc sz w (some ⟨b, o, none⟩) l) (a n : Nat) : Rd enc sz w (some ⟨b, o + a * sz, none⟩) ((l.drop a).take n) := by
  rcases h with rfl | ⟨b', o', hA, h⟩
  · exact .inl (by simp)
  · cases hA
    refine .inr ⟨b, o + a * sz, rfl, fun i x hx j hj => ?_⟩
    rw [List.getElem?_take] at hx
    split at hx
    · rw [List.getElem?_drop] at hx
      rw [← h _ x hx j hj, Nat.add_mul, show o + (a * sz + i * sz) + j = o + a * sz + i * sz + j by omega]
    · cases hx
/-- Three rows, let lie beside what lies still already: a node's cells. -/
theorem Sat.node_lies {W w : World} {v1 v2 v3 : Value} {n : Nd} {x : Hp} {F : As}
    (h : Sat W w (row v1 2 1 n.ends.length (vi n.ends) * (row v2 2 1 n.slots.length (vi n.slots) * (row v3 2 1 n.gaps.length (vi n.gaps) * (RO x * F))))) :
    ∃ y, x.Le y ∧ Sat W w (RO y * F) ∧ NdH y [.bool n.inner, .int .i64 n.lo, v1, v2, v3] n := by
  obtain ⟨A1, c1, rfl⟩ := row_shape h
  obtain ⟨A2, c2, rfl⟩ := row_shape h.rot
  obtain ⟨A3, c3, rfl⟩ := row_shape h.right.rot
  rw [vi_flat, vi_flat, vi_flat] at h
  obtain ⟨x1, h1, r1⟩ := Sat.freeze (sz := 1) (fun _ => rfl) h
  obtain ⟨x2, h2, r2⟩ := Sat.freeze (sz := 1) (fun _ => rfl) h1.rot
  obtain ⟨x3, h3, r3⟩ := Sat.freeze (sz := 1) (fun _ => rfl) (h2.of_eq (B := row (.slice A3 n.gaps.length c3) 2 1 n.gaps.length (n.gaps.flatMap encI) * (RO x2 * (RO x1 * (RO x * F)))) (by ac_rfl))
  obtain ⟨h4, l3, l2⟩ := Sat.merge h3
  obtain ⟨h5, l4, l1⟩ := Sat.merge h4
  obtain ⟨h6, l5, l0⟩ := Sat.merge h5
  refine ⟨_, l0, h6, A1, c1, A2, c2, A3, c3, rfl, ?_, ?_, ?_⟩
  · exact r1.mono (sz := 1) (fun _ => rfl) (l1.trans l5)
  · exact r2.mono (sz := 1) (fun _ => rfl) ((l2.trans l4).trans l5)
  · exact r3.mono (sz := 1) (fun _ => rfl) ((l3.trans l4).trans l5)
end Go.Proofs.Ytpiobilidhmedaa
