/-
  Arguments opened: a slice of areas and a slice of numbers read as lists.
-/
import Derived.Test.YtpiobilidhmedaaRows
import Derived.Test.YtpiobilidhmedaaB1
import Derived.ProofKit
import Derived.Deep.Slices
import Derived.Deep.Fields
import Derived.ChangeSame
namespace Go.Proofs.Ytpiobilidhmedaa
open Go.ChangeShapes Go.WideShapes Go.ChangeAt Go.RowKit Go.Deep Go.Sl
theorem Try.own : ownKnob Try.prog.godebug = none := by kernel_rfl
theorem Try.laidOut : laidOutB Try.prog = true := by kernel_rfl
section
variable {H : Type} {enc : TypeId × Value → H} {P : Program} {w : World} {base : Nat} {spare : Nat → Bool} {held : Bool}
theorem open_slice_fields {t e : TypeId} {fs : Array Field} {fuel : Nat} {cs : List Value} {x : DataW H × List MemPlace} (ht : P.underlying t = some (.slice e)) (he : P.underlying e = some (.struct fs))
    (hone : oneCellFields P fs = true) (hC : P.cellsOf e = fs.size) (h : DataW.trod enc P w base spare held fuel t cs = some x) :
    (cs = [.slice none 0 0] ∧ x = (.nil, [])) ∨
    ∃ (a : Addr) (len cap m : Nat) (D : Nat → DataW H) (Pl : Nat → List MemPlace), cs = [.slice (some a) len cap] ∧ base ≤ a.block ∧ len ≤ cap ∧ cap ≤ maxLen ∧ m = (if spare a.block then cap else len) ∧
      x = (.slice ((List.range len).map D) ((List.range (m - len)).map fun j => D (len + j)), MemPlace.row a (m * fs.size) ++ (List.range m).flatMap Pl) ∧
      ∀ i, i < m → ∃ (ys : List (DataW H × List MemPlace)) (n : Nat), D i = .agg (ys.map (·.1)) ∧ Pl i = ys.flatMap (·.2) ∧ ys.length = fs.size ∧
        ∀ (j : Nat) (f : Field), fs[j]? = some f → ∃ (v : Value) (y : DataW H × List MemPlace), w.cell? (a.add (i * fs.size + j)) = some v ∧ ys[j]? = some y ∧ DataW.trod enc P w base spare held n f.type [v] = some y := by
  rcases open_slice ht h with h0 | ⟨a, len, cap, m, n, D, Pl, hcs, hb, hl, hm, hmm, hx, hi⟩
  · exact .inl h0
  · refine .inr ⟨a, len, cap, m, D, Pl, hcs, hb, hl, hm, hmm, by rw [hC] at hx; exact hx, fun i him => ?_⟩
    obtain ⟨cs', hc, ht'⟩ := hi i him
    rw [hC] at hc
    obtain ⟨ys, n', hn', hy, hlen, hyl, hf⟩ := DataW.trod_struct he ht'
    obtain ⟨_, hcl, hat⟩ := World.cells?_some hc
    simp only [Prod.mk.injEq] at hy
    refine ⟨ys, n', hy.1, hy.2, hyl, fun j f hj => ?_⟩
    obtain ⟨ho, hk⟩ := hone_of hone j f hj
    have hjl : j < fs.size := (Array.getElem?_eq_some_iff.1 hj).1
    have hcell := hat j hjl
    have hv : cs'[j]? = some (cs'[j]'(by omega)) := List.getElem?_eq_getElem (by omega)
    have h1 := hf j f hj
    rw [ho, hk] at h1
    have hone' : (cs'.drop j).take 1 = [cs'[j]'(by omega)] := by
      rw [List.drop_eq_getElem_cons (by omega)]
      rfl
    rw [hone'] at h1
    have hys : ys[j]? = some (ys[j]'(by omega)) := List.getElem?_eq_getElem (by omega)
    refine ⟨_, _, ?_, hys, h1.trans hys⟩
    rw [← Go.Deep.add_add, hcell, hv]
end

theorem exists_list {α : Type} (R : Nat → α → Prop) (n : Nat) (h : ∀ i, i < n → ∃ x, R i x) : ∃ l : List α, l.length = n ∧ ∀ i x, l[i]? = some x → R i x := by
  induction n with
  | zero => exact ⟨[], rfl, fun i x hx => by cases hx⟩
  | succ n ih =>
    obtain ⟨l, hl, hR⟩ := ih (fun i hi => h i (by omega))
    obtain ⟨x, hx⟩ := h n (by omega)
    refine ⟨l ++ [x], by simp [hl], fun i y hy => ?_⟩
    by_cases hi : i < n
    · rw [List.getElem?_append_left (by omega)] at hy
      exact hR i y hy
    · have hlt := (List.getElem?_eq_some_iff.1 hy).1
      simp at hlt
      have : i = n := by omega
      subst this
      rw [List.getElem?_append_right (by omega), hl, Nat.sub_self] at hy
      simp at hy; subst hy; exact hx
/-- Cells at an address read as a list, whatever the address. -/
theorem rd_of_add {α : Type} {enc : α → List Value} {sz : Nat} (he : ∀ x, (enc x).length = sz) (hsz : 0 < sz) {w : World} {a : Addr} {l : List α}
    (h : ∀ i x, l[i]? = some x → ∀ j, j < sz → w.cell? (a.add (i * sz + j)) = (enc x)[j]?) : Rd enc sz w (some a) l := by
  by_cases hl : l = []
  · exact .inl hl
  · right
    obtain ⟨b, off, spot⟩ := a
    have h0 : l[0]? = some (l[0]'(List.length_pos_iff.2 hl)) := by simp
    have c0 := h 0 _ h0 0 hsz
    rw [List.getElem?_eq_getElem (by rw [he]; exact hsz)] at c0
    have hspot : spot = none := by simpa [Addr.add] using World.cell?_spot c0
    subst hspot
    refine ⟨b, off, rfl, fun i x hx j hj => ?_⟩
    have := h i x hx j hj
    have hadd : (⟨b, off, none⟩ : Addr).add (i * sz + j) = ⟨b, off + (i * sz + j), none⟩ := by unfold Addr.add; split <;> simp_all
    rw [hadd, ← Nat.add_assoc] at this
    exact this
theorem open_areas {H : Type} {enc : TypeId × Value → H} {W : World} {v : Value} {d : DataW H} {p : List MemPlace} {fuel : Nat}
    (hv : ∃ a len cap, v = .slice a len cap) (h : DataW.trod enc Try.prog W 0 (fun _ => true) true fuel 22 v.cells.toList = some (d, p)) :
    ∃ (A : Option Addr) (c : Nat) (l : List Ar), v = .slice A l.length c ∧ l.length ≤ c ∧ Rd Ar.cells 6 W A l := by
  obtain ⟨a0, len, cap, rfl⟩ := hv
  rcases open_slice_fields Try.underlying22 Try.underlying130 (by kernel_rfl) (by kernel_rfl) h with ⟨hcs, _⟩ | ⟨a, len', cap', m, D, Pl, hcs, _, hl, _, hm, _, hf⟩
  · simp [Value.cells] at hcs
    obtain ⟨rfl, rfl, rfl⟩ := hcs
    exact ⟨none, 0, [], rfl, Nat.le_refl _, .inl rfl⟩
  · simp [Value.cells] at hcs
    obtain ⟨rfl, rfl, rfl⟩ := hcs
    simp only [if_true] at hm
    have hex : ∀ i, i < len → ∃ x : Ar, ∀ j, j < 6 → W.cell? (a.add (i * 6 + j)) = x.cells[j]? := by
      intro i hi
      obtain ⟨ys, n, _, _, _, hfl⟩ := hf i (by omega)
      obtain ⟨v0, y0, c0, _, t0⟩ := hfl 0 _ rfl
      obtain ⟨v1, y1, c1, _, t1⟩ := hfl 1 _ rfl
      obtain ⟨v2, y2, c2, _, t2⟩ := hfl 2 _ rfl
      obtain ⟨v3, y3, c3, _, t3⟩ := hfl 3 _ rfl
      obtain ⟨v4, y4, c4, _, t4⟩ := hfl 4 _ rfl
      obtain ⟨v5, y5, c5, _, t5⟩ := hfl 5 _ rfl
      obtain ⟨n0, e0, _⟩ := DataW.trod_int Try.underlying2 t0
      obtain ⟨n1, e1, _⟩ := DataW.trod_int Try.underlying2 t1
      obtain ⟨n2, e2, _⟩ := DataW.trod_int Try.underlying3 t2
      obtain ⟨n3, e3, _⟩ := DataW.trod_bool Try.underlying4 t3
      obtain ⟨n4, e4, _⟩ := DataW.trod_int Try.underlying3 t4
      obtain ⟨n5, e5, _⟩ := DataW.trod_int Try.underlying2 t5
      cases e0; cases e1; cases e2; cases e3; cases e4; cases e5
      refine ⟨⟨n0, n1, n2, n3, n4, n5⟩, fun j hj => ?_⟩
      have : j = 0 ∨ j = 1 ∨ j = 2 ∨ j = 3 ∨ j = 4 ∨ j = 5 := by omega
      rcases this with rfl | rfl | rfl | rfl | rfl | rfl
      · exact c0
      · exact c1
      · exact c2
      · exact c3
      · exact c4
      · exact c5
    obtain ⟨l, hlen, hR⟩ := exists_list _ len hex
    subst hlen
    exact ⟨some a, cap, l, rfl, hl, rd_of_add (sz := 6) (fun _ => rfl) (by decide) hR⟩
theorem open_nums {H : Type} {enc : TypeId × Value → H} {W : World} {v : Value} {d : DataW H} {p : List MemPlace} {fuel : Nat}
    (hv : ∃ a len cap, v = .slice a len cap) (h : DataW.trod enc Try.prog W 0 (fun _ => true) true fuel 23 v.cells.toList = some (d, p)) :
    ∃ (A : Option Addr) (c : Nat) (l : List Int), v = .slice A l.length c ∧ l.length ≤ c ∧ Rd encI 1 W A l := by
  obtain ⟨a0, len, cap, rfl⟩ := hv
  rcases open_ints Try.underlying23 Try.underlying2 (by kernel_rfl) h with ⟨hcs, _⟩ | ⟨a, len', cap', zs, hcs, _, hl, _, hz, _, hcell, _⟩
  · simp [Value.cells] at hcs
    obtain ⟨rfl, rfl, rfl⟩ := hcs
    exact ⟨none, 0, [], rfl, Nat.le_refl _, .inl rfl⟩
  · simp [Value.cells] at hcs
    obtain ⟨rfl, rfl, rfl⟩ := hcs
    simp only [if_true] at hz
    have hlen : (zs.take len).length = len := by simp; omega
    refine ⟨some a, cap, zs.take len, by rw [hlen], by rw [hlen]; exact hl, rd_of_add (sz := 1) (fun _ => rfl) (by decide) fun i x hx j hj => ?_⟩
    have hj0 : j = 0 := by omega
    subst hj0
    have hi := (List.getElem?_eq_some_iff.1 hx).1
    rw [hlen] at hi
    have := hcell i (by omega)
    rw [List.getElem?_take, if_pos hi] at hx
    rw [Nat.mul_one, Nat.add_zero, this, List.getD_eq_getElem?_getD, hx]
    rfl
end Go.Proofs.Ytpiobilidhmedaa
