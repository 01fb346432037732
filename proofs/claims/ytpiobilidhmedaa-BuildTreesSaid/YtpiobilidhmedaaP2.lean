/-
  samaralaw18.BuildTrees answers true for every input, and leaves its arguments as they were. No condition.
-/
import Derived.Test.YtpiobilidhmedaaOp
import Derived.Test.YtpiobilidhmedaaG6
import Derived.Lib.SmallJoins
import Derived.OpenShut
namespace Go.Proofs.Ytpiobilidhmedaa
open Go.ChangeShapes Go.WideShapes Go.ChangeAt Go.RowKit Go.Deep Go.Sl Go.Joins
theorem open_u8s {H : Type} {enc : TypeId × Value → H} {W : World} {v : Value} {d : DataW H} {p : List MemPlace} {fuel : Nat}
    (hv : ∃ a len cap, v = .slice a len cap) (h : DataW.trod enc Try.prog W 0 (fun _ => true) true fuel 33 v.cells.toList = some (d, p)) :
    ∃ (A : Option Addr) (c : Nat) (l : List Int), v = .slice A l.length c ∧ l.length ≤ c ∧ Rd encU 1 W A l ∧ ∀ x ∈ l, 0 ≤ x ∧ x ≤ 255 := by
  obtain ⟨a0, len, cap, rfl⟩ := hv
  rcases open_ints Try.underlying33 Try.underlying5 (by kernel_rfl) h with ⟨hcs, _⟩ | ⟨a, len', cap', zs, hcs, _, hl, _, hz, _, hcell, hwf⟩
  · simp [Value.cells] at hcs
    obtain ⟨rfl, rfl, rfl⟩ := hcs
    exact ⟨none, 0, [], rfl, Nat.le_refl _, .inl rfl, by simp⟩
  · simp [Value.cells] at hcs
    obtain ⟨rfl, rfl, rfl⟩ := hcs
    simp only [if_true] at hz
    have hlen : (zs.take len).length = len := by simp; omega
    refine ⟨some a, cap, zs.take len, by rw [hlen], by rw [hlen]; exact hl, rd_of_add (sz := 1) (fun _ => rfl) (by decide) fun i x hx j hj => ?_, fun x hx => bounds_u8 (hwf x (List.mem_of_mem_take hx))⟩
    have hj0 : j = 0 := by omega
    subst hj0
    have hi := (List.getElem?_eq_some_iff.1 hx).1
    rw [hlen] at hi
    have := hcell i (by omega)
    rw [List.getElem?_take, if_pos hi] at hx
    rw [Nat.mul_one, Nat.add_zero, this, List.getD_eq_getElem?_getD, hx]
    rfl
set_option maxRecDepth 100000 in
theorem open_entry {H : Type} {enc : TypeId × Value → H} {W : World} {v : Value} {d : DataW H} {p : List MemPlace} {base : Nat}
    (hv : Value.okWide Try.prog W .any base 31 v) (h : DataW.Trod enc Try.prog W 0 (fun _ => true) true 31 v d p) : ∃ a b c : Int, v = .agg #[.int .i64 a, .int .i64 b, .int .i64 c] := by
  obtain ⟨c0, c1, c2, y0, y1, y2, m, rfl, rfl, rfl, hy0, hy1, hy2⟩ := open_agg3 Try.underlying31 (by kernel_rfl) (by kernel_rfl) hv h
  obtain ⟨a, e0, _, _⟩ := DataW.trod_int Try.underlying2 hy0
  obtain ⟨b, e1, _, _⟩ := DataW.trod_int Try.underlying2 hy1
  obtain ⟨c, e2, _, _⟩ := DataW.trod_int Try.underlying2 hy2
  simp at e0 e1 e2
  subst e0 e1 e2
  exact ⟨a, b, c, rfl⟩
set_option maxRecDepth 100000 in
theorem open_pair {H : Type} {enc : TypeId × Value → H} {W : World} {v : Value} {d : DataW H} {p : List MemPlace} {base : Nat}
    (hv : Value.okWide Try.prog W .any base 34 v) (h : DataW.Trod enc Try.prog W 0 (fun _ => true) true 34 v d p) : ∃ a b : Int, v = .agg #[.int .i64 a, .int .i64 b] := by
  obtain ⟨cs, rfl, hsz⟩ : ∃ cs, v = .agg cs ∧ cs.size = Try.prog.cellsOf 34 := by
    have : ∃ cs, v = .agg cs ∧ cs.size = Try.prog.cellsOf 34 ∧ Row.okWide Try.prog W .any base 34 cs := by
      simpa [Value.okWide, Try.underlying34] using hv
    obtain ⟨cs, h1, h2, _⟩ := this
    exact ⟨cs, h1, h2⟩
  have hc : Try.prog.cellsOf 34 = 2 := by kernel_rfl
  have hc3 : Try.prog.cellsOf 3 = 1 := by kernel_rfl
  obtain ⟨c0, c1, rfl⟩ := array2 (hsz.trans hc)
  obtain ⟨fuel, hf⟩ := h
  obtain ⟨xs, m, _, _, _, hxl, hx⟩ := DataW.trod_array Try.underlying34 hf
  have g0 := hx 0 (by omega)
  have g1 := hx 1 (by omega)
  rw [hc3] at g0 g1
  have e0 : (List.drop (0 * 1) (Value.agg #[c0, c1]).cells.toList).take 1 = [c0] := by simp [Value.cells]
  have e1 : (List.drop (1 * 1) (Value.agg #[c0, c1]).cells.toList).take 1 = [c1] := by simp [Value.cells]
  rw [e0] at g0
  rw [e1] at g1
  obtain ⟨y0, hy0⟩ : ∃ y, xs[0]? = some y := ⟨xs[0], by simp⟩
  obtain ⟨y1, hy1⟩ : ∃ y, xs[1]? = some y := ⟨xs[1], by simp⟩
  rw [hy0] at g0
  rw [hy1] at g1
  obtain ⟨a, k0, _, _⟩ := DataW.trod_int Try.underlying3 g0
  obtain ⟨b, k1, _, _⟩ := DataW.trod_int Try.underlying3 g1
  simp at k0 k1
  subst k0 k1
  exact ⟨a, b, rfl⟩

set_option maxRecDepth 100000 in
theorem buildTrees_lifted (os : Os) (started : os.Started) (H : Type) (enc : TypeId × Value → H) :
    ReturnsInHanded {} Try.checked os 4 .any (Rows.buildTreesSpec.pre6 enc Try.prog Try.f4 Rows.buildTreesRow.domain false) (Rows.buildTreesSpec.post enc Try.prog Try.f4 false true false false) := by
  refine returnsInHanded_of_change (C := Try.checked) Try.own started (by kernel_rfl) Try.func4
    (ChangeSpec.witness6 (enc := enc) (C := Try.checked) false ⟨#[], #[.slice none 0 0, .agg #[.int .i64 0, .int .i64 0, .int .i64 0], .agg #[.int .i64 0, .int .i64 0]], []⟩ 8 (by kernel_rfl) (by kernel_rfl) (by kernel_rfl) (by kernel_rfl)) ?_
  intro W base args ds gs before hval0 hW hcnd _
  have hval : ∀ (j : Nat) t v, Try.f4.params[j]? = some t → args[j]? = some v → Value.okWide Try.prog W .any base t v := hval0
  have hW' := hW
  obtain ⟨p, q, hA0, hV, rfl, hfz, hnd⟩ := hW
  have hA : DataW.TrodAll enc Try.prog W 0 (fun _ => true) true Try.f4.params.toList args.toList ds p := hA0
  rw [Try.params4] at hA hval
  obtain ⟨v0, v1, v2, d0, d1, d2, p0, p1, p2, rfl, rfl, rfl, h0, h1, h2⟩ := trodAll_three hA
  obtain ⟨rfl, rfl⟩ := trodVars_none hV
  have h0k := h0
  have h1k := h1
  have h2k := h2
  obtain ⟨m0, m1, m2, rfl⟩ := open_entry (hval 1 31 v1 rfl rfl) h1
  obtain ⟨c0, c1, rfl⟩ := open_pair (hval 2 34 v2 rfl rfl) h2
  obtain ⟨f0, hf0⟩ := h0
  obtain ⟨A, ca, l, rfl, hla, hrA, hu⟩ := open_u8s (okWide_slice Try.underlying33 (hval 0 33 v0 rfl rfl)) hf0
  clear hA0 hval0
  have hlt : ∀ x ∈ p0 ++ (p1 ++ p2), x.block < W.heap.size := fun x hx => by simpa using hW'.lt x (by simpa using hx)
  refine (buildTrees_calls A ca l m0 m1 m2 c0 c1 W hrA hu).mono fun e W' ⟨he, hS⟩ => ?_
  subst he
  have hb := hS.below0
  refine ⟨_, rfl, ⟨_, _, _, [], _, [], hW', trodAll_mk1 (shut_bool Try.underlying4 _), trodAll_mk3 (Below.trod Try.laidOut (by kernel_rfl) (of_decide_eq_true (by kernel_rfl)) h0k hb (fun x hx => hlt x (by simp [hx])))
    (Below.trod Try.laidOut (by kernel_rfl) (of_decide_eq_true (by kernel_rfl)) h1k hb (fun x hx => hlt x (by simp [hx]))) (Below.trod Try.laidOut (by kernel_rfl) (of_decide_eq_true (by kernel_rfl)) h2k hb (fun x hx => hlt x (by simp [hx]))), rfl, hb.frame _, fun h => by cases h⟩⟩

theorem buildTrees_holds : Rows.BuildTreesSaid :=
  OpenClaim.holds_of_wide 4 Try.f4 rfl rfl rfl rfl rfl rfl rfl ⟨rfl, rfl, rfl, rfl, rfl⟩ rfl rfl rfl rfl rfl (by kernel_rfl) Try.func4 (by kernel_rfl)
    (of_decide_eq_true (by kernel_rfl)) (by unfold Func.isWrapper; first | (rw [if_pos (by decide +kernel)]; kernel_rfl) | (rw [if_neg (by decide +kernel)]; exact ⟨rfl, rfl⟩))
    (fun os started H enc _ => buildTrees_lifted os started H enc)
#print axioms buildTrees_holds
end Go.Proofs.Ytpiobilidhmedaa
