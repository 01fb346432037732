/-
  What lies still: cells of a part of the heap that nobody writes any more, and lists read from them.
-/
import Derived.Test.YtpiobilidhmedaaD1
namespace Go.Sl
open Go Go.RowKit
/-- A cell of a part of the heap. -/
def hcell (x : Hp) (b o : Nat) : Option Value := match x b with
  | some (.cells c _ _) => c[o]?
  | _ => none
theorem hcell_mono {x y : Hp} (le : x.Le y) {b o : Nat} {v : Value} (h : hcell x b o = some v) : hcell y b o = some v := by
  unfold hcell at h ⊢
  cases hx : x b with
  | none => rw [hx] at h; cases h
  | some c => rw [hx] at h; rw [le b c hx]; exact h
theorem hcell_hp (w : World) (b o : Nat) : hcell (hp w) b o = w.cell? ⟨b, o, none⟩ := by
  unfold hcell hp World.cell?
  simp only [Option.isSome_none, Bool.false_eq_true, if_false]
  split <;> simp_all
theorem hcell_one (b o : Nat) (vs : List Value) (T : TypeId) (f : Nat × Nat) : hcell (Hp.one b (.cells vs.toArray T f)) b o = vs[o]? := by simp [hcell, Hp.one]
theorem Sat.ro_le {W w : World} {x : Hp} {F : As} (h : Sat W w (RO x * F)) : x.Le (hp w) := by
  obtain ⟨y, hy, hl⟩ := h.left.own
  have hy' : y = x := hy
  subst hy'; exact hl
theorem Sat.merge {W w : World} {x y : Hp} {F : As} (h : Sat W w (RO x * (RO y * F))) : Sat W w (RO (x.un y) * F) ∧ x.Le (x.un y) ∧ y.Le (x.un y) := by
  have h2 : Sat W w ((RO x * RO y) * F) := h.of_eq (star_assoc _ _ _).symm
  have hd : x.Dj y := by
    obtain ⟨z, ⟨a, b, d, _, ha, hb⟩, _⟩ := h2.left.own
    have ha' : a = x := ha
    have hb' : b = y := hb
    subst ha'; subst hb'; exact d
  exact ⟨h2.mono (star_mono RO_un (fun _ e => e)), Hp.le_un_left _ _, Hp.le_un_right hd⟩
theorem Sat.ro_emp {W w : World} {F : As} (h : Sat W w F) : Sat W w (RO Hp.emp * F) := h.of_eq (one_star F).symm
theorem Sat.pt_ro {W w : World} {b : Nat} {vs : List Value} {T : TypeId} {F : As} (h : Sat W w (pt b vs T * F)) : Sat W w (RO (Hp.one b (.cells vs.toArray T (0, 0))) * F) := h
/-- A slice at an address reads as a list, out of what lies still. -/
def RdH {α : Type} (enc : α → List Value) (sz : Nat) (x : Hp) (A : Option Addr) (l : List α) : Prop :=
  l = [] ∨ ∃ b o, A = some ⟨b, o, none⟩ ∧ ∀ i y, l[i]? = some y → ∀ j, j < sz → hcell x b (o + i * sz + j) = (enc y)[j]?
section
variable {α : Type} {enc : α → List Value} {sz : Nat}
theorem RdH.mono (he : ∀ x, (enc x).length = sz) {x y : Hp} {A : Option Addr} {l : List α} (le : x.Le y) (h : RdH enc sz x A l) : RdH enc sz y A l := by
  rcases h with h | ⟨b, o, hA, h⟩
  · exact .inl h
  · refine .inr ⟨b, o, hA, fun i z hz j hj => ?_⟩
    have h1 := h i z hz j hj
    have hlt : j < (enc z).length := by rw [he]; exact hj
    rw [List.getElem?_eq_getElem hlt] at h1 ⊢
    exact hcell_mono le h1
end
end Go.Sl
namespace Go.Proofs.Ytpiobilidhmedaa
open Go.RowKit Go.Sl Go.Ct
section
variable {α : Type} {enc : α → List Value} {sz : Nat}
theorem RdH.rd (he : ∀ x, (enc x).length = sz) {x : Hp} {w : World} {A : Option Addr} {l : List α} (le : x.Le (hp w)) (h : RdH enc sz x A l) : Rd enc sz w A l := by
  rcases RdH.mono he le h with h | ⟨b, o, hA, h⟩
  · exact .inl h
  · exact .inr ⟨b, o, hA, fun i z hz j hj => by rw [← hcell_hp]; exact h i z hz j hj⟩
theorem Rd.rdh {w : World} {A : Option Addr} {l : List α} (h : Rd enc sz w A l) : RdH enc sz (hp w) A l := by
  rcases h with h | ⟨b, o, hA, h⟩
  · exact .inl h
  · exact .inr ⟨b, o, hA, fun i z hz j hj => by rw [hcell_hp]; exact h i z hz j hj⟩
/-- A row of the call's own, let lie. -/
theorem Sat.freeze (he : ∀ x, (enc x).length = sz) {W w : World} {b : Option Addr} {cap : Nat} {T : TypeId} {l : List α} {F : As} (h : Sat W w (row (.slice b l.length cap) T sz l.length (l.flatMap enc) * F)) :
    ∃ x, Sat W w (RO x * F) ∧ RdH enc sz x b l := by
  rcases row_cases h with ⟨_, h2, _, h4⟩ | ⟨g, cap', cur, h1, h2, h3, h4, h5, h6⟩
  · exact ⟨Hp.emp, h4.ro_emp, .inl (List.length_eq_zero_iff.1 h2)⟩
  · cases h1
    refine ⟨_, h6.pt_ro, .inr ⟨g, 0, rfl, fun i y hy j hj => ?_⟩⟩
    rw [hcell_one, Nat.zero_add, ← flat_get he l i j y hy hj, ← h5, List.getElem?_take, if_pos]
    have hlt := (List.getElem?_eq_some_iff.1 hy).1
    have := Nat.mul_le_mul_right sz (show i + 1 ≤ l.length from hlt)
    rw [Nat.succ_mul] at this; omega
end
/-- A node. -/
structure Nd where
  inner : Bool
  lo : Int
  ends : List Int
  slots : List Int
  gaps : List Int
/-- A node's cells, its lists out of what lies still. -/
def NdH (x : Hp) (c : List Value) (n : Nd) : Prop := ∃ A1 c1 A2 c2 A3 c3, c = [.bool n.inner, .int .i64 n.lo, .slice A1 n.ends.length c1, .slice A2 n.slots.length c2, .slice A3 n.gaps.length c3] ∧
  RdH encI 1 x A1 n.ends ∧ RdH encI 1 x A2 n.slots ∧ RdH encI 1 x A3 n.gaps
theorem NdH.mono {x y : Hp} (le : x.Le y) {c : List Value} {n : Nd} (h : NdH x c n) : NdH y c n := by
  obtain ⟨A1, c1, A2, c2, A3, c3, rfl, r1, r2, r3⟩ := h
  exact ⟨A1, c1, A2, c2, A3, c3, rfl, r1.mono (sz := 1) (fun _ => rfl) le, r2.mono (sz := 1) (fun _ => rfl) le, r3.mono (sz := 1) (fun _ => rfl) le⟩
end Go.Proofs.Ytpiobilidhmedaa
