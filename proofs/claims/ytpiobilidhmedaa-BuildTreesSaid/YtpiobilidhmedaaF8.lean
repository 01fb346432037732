/-
  Plain: pieces of a list, parts that go on in one another, the nodes and the next level's parts that come of them, and that these are formed.
-/
import Derived.Test.YtpiobilidhmedaaF7
namespace Go.Proofs.Ytpiobilidhmedaa
open Go.RowKit Go.Sl Go.Ct
set_option linter.unusedVariables false
set_option linter.unusedSimpArgs false

/-- A piece's size, and where it begins. -/
def pcs (n i : Nat) : Nat := n / ((n + 7) / 8) + if i < n % ((n + 7) / 8) then 1 else 0
def plc (n i : Nat) : Nat := i * (n / ((n + 7) / 8)) + min i (n % ((n + 7) / 8))
theorem piece_pcs (n i : Nat) : piece n i = (pcs n i : Int) := by
  unfold piece pcs
  split <;> simp
theorem plc_zero (n : Nat) : plc n 0 = 0 := by simp [plc]
theorem plc_succ (n i : Nat) : plc n (i + 1) = plc n i + pcs n i := by
  unfold plc pcs
  generalize n / ((n + 7) / 8) = q
  generalize n % ((n + 7) / 8) = r
  rw [Nat.succ_mul]
  split <;> omega
theorem plc_all (n : Nat) (h : 1 ≤ n) : plc n ((n + 7) / 8) = n := by
  unfold plc
  have h1 : n % ((n + 7) / 8) < (n + 7) / 8 := Nat.mod_lt _ (by omega)
  have h2 := Nat.div_add_mod n ((n + 7) / 8)
  generalize n / ((n + 7) / 8) = q at *
  generalize n % ((n + 7) / 8) = r at *
  generalize (n + 7) / 8 = k at *
  omega
theorem pcs_bd (n i : Nat) (h1 : 1 ≤ n) (h2 : n ≤ 64) (hi : i < (n + 7) / 8) : 1 ≤ pcs n i ∧ pcs n i ≤ 8 := by
  have : ∀ n, n < 65 → 1 ≤ n → ∀ i, i < 9 → i < (n + 7) / 8 → 1 ≤ pcs n i ∧ pcs n i ≤ 8 := by decide +kernel
  exact this n (by omega) h1 i (by omega) hi
theorem plc_mono (n : Nat) {i j : Nat} (h : i ≤ j) : plc n i ≤ plc n j := by
  induction h with
  | refl => exact Nat.le_refl _
  | step _ ih => rw [plc_succ]; omega
theorem plc_le (n i : Nat) (h1 : 1 ≤ n) (hi : i < (n + 7) / 8) : plc n i + pcs n i ≤ n := by
  rw [← plc_succ]
  have := plc_mono n (show i + 1 ≤ (n + 7) / 8 from hi)
  rw [plc_all n h1] at this
  exact this

/-- A list's piece. -/
def sub {α : Type} (l : List α) (i : Nat) : List α := (l.drop (plc l.length i)).take (pcs l.length i)
theorem sub_length {α : Type} (l : List α) (i : Nat) (h1 : 1 ≤ l.length) (hi : i < (l.length + 7) / 8) : (sub l i).length = pcs l.length i := by
  have := plc_le l.length i h1 hi
  simp [sub]; omega
theorem sub_get {α : Type} (l : List α) (i j : Nat) (hj : j < pcs l.length i) : (sub l i)[j]? = l[plc l.length i + j]? := by
  simp [sub, List.getElem?_take, hj]
theorem sub_get_lt {α : Type} {l : List α} {i j : Nat} {x : α} (h : (sub l i)[j]? = some x) : j < pcs l.length i := by
  have := (List.getElem?_eq_some_iff.1 h).1
  simp [sub] at this; omega
theorem sub_map {α β : Type} (f : α → β) (l : List α) (i : Nat) : sub (l.map f) i = (sub l i).map f := by simp [sub, List.map_drop, List.map_take]

/-- Parts that go on in one another, each such as a node's entry. -/
structure PtsOk (inner : Bool) (ps : List (En × Int)) : Prop where
  ent : ∀ (i : Nat) (x : En × Int), ps[i]? = some x → EntOk inner x.1.lo x.1.e x.1.h x.2
  next : ∀ (i : Nat) (x y : En × Int), ps[i]? = some x → ps[i + 1]? = some y → x.1.e = y.1.lo
  lo : ∀ (i : Nat) (x : En × Int), ps[i]? = some x → 65536 ≤ x.1.lo ∧ x.1.lo % 4096 = 0
theorem PtsOk.sub {inner : Bool} {ps : List (En × Int)} (h : PtsOk inner ps) (i : Nat) : PtsOk inner (sub ps i) := by
  refine ⟨fun j x hj => ?_, fun j x y hj hk => ?_, fun j x hj => ?_⟩
  · rw [sub_get _ _ _ (sub_get_lt hj)] at hj
    exact h.ent _ _ hj
  · rw [sub_get _ _ _ (sub_get_lt hj)] at hj
    rw [sub_get _ _ _ (sub_get_lt hk)] at hk
    exact h.next _ _ _ hj hk
  · rw [sub_get _ _ _ (sub_get_lt hj)] at hj
    exact h.lo _ _ hj
theorem PtsOk.gap {inner : Bool} {ps : List (En × Int)} (h : PtsOk inner ps) {i : Nat} {x : En × Int} (hx : ps[i]? = some x) : 0 ≤ x.2 ∧ x.2 ≤ x.1.e - x.1.lo := by
  have ok := h.ent i x hx
  have := ok.lt
  cases inner with
  | true => exact (ok.inn rfl).2
  | false =>
    have hg := ok.leaf rfl
    split at hg <;> omega
theorem nodeOf_fm {inner : Bool} {ps : List (En × Int)} (h : PtsOk inner ps) (h1 : 1 ≤ ps.length) (h8 : ps.length ≤ 8) : Fm (nodeOf ps inner) := by
  obtain ⟨x0, hx0⟩ : ∃ x, ps[0]? = some x := ⟨ps[0], by simp⟩
  have hlo : (nodeOf ps inner).lo = x0.1.lo := by
    cases ps with
    | nil => cases hx0
    | cons y l => simp at hx0; subst hx0; rfl
  refine ⟨by simpa [nodeOf] using h1, by simpa [nodeOf] using h8, by simp [nodeOf], by simp [nodeOf], by rw [hlo]; exact (h.lo 0 _ hx0).1, by rw [hlo]; exact (h.lo 0 _ hx0).2, ?_⟩
  intro i e s g he hs hg
  simp only [nodeOf, List.getElem?_map] at he hs hg
  obtain ⟨x, hx⟩ : ∃ x, ps[i]? = some x := by
    cases hp : ps[i]? with
    | none => rw [hp] at he; cases he
    | some x => exact ⟨x, rfl⟩
  rw [hx] at he hs hg
  simp only [Option.map_some, Option.some.injEq] at he hs hg
  subst he hs hg
  have hst : (nodeOf ps inner).start i = x.1.lo := by
    cases i with
    | zero =>
      rw [hx0] at hx; cases hx
      exact hlo
    | succ j =>
      obtain ⟨y, hy⟩ : ∃ y, ps[j]? = some y := by
        have := (List.getElem?_eq_some_iff.1 hx).1
        exact ⟨ps[j], by simp⟩
      have : (nodeOf ps inner).start (j + 1) = y.1.e := by simp [Nd.start, nodeOf, List.getD_eq_getElem?_getD, hy]
      rw [this]
      exact h.next _ _ _ hy hx
  rw [hst]
  exact h.ent i x hx

/-- The next level's part of a piece. -/
def upN (ps : List (En × Int)) (hs : List Int) (i : Nat) : En × Int :=
  (⟨((sub ps i).headD (⟨0, 0, 0⟩, 0)).1.lo, ((sub ps i).getLastD (⟨0, 0, 0⟩, 0)).1.e, hs.getD i 0⟩, mx ((sub ps i).map (·.2)))
def levelN (ps : List (En × Int)) (hs : List Int) (inner : Bool) : List (Int × Nd) := (List.range ((ps.length + 7) / 8)).map fun i => (hs.getD i 0, nodeOf (sub ps i) inner)
def levelU (ps : List (En × Int)) (hs : List Int) : List (En × Int) := (List.range ((ps.length + 7) / 8)).map fun i => upN ps hs i
theorem levelN_length (ps : List (En × Int)) (hs : List Int) (inner : Bool) : (levelN ps hs inner).length = (ps.length + 7) / 8 := by simp [levelN]
theorem levelU_length (ps : List (En × Int)) (hs : List Int) : (levelU ps hs).length = (ps.length + 7) / 8 := by simp [levelU]
theorem levelU_get {ps : List (En × Int)} {hs : List Int} {i : Nat} (hi : i < (ps.length + 7) / 8) : (levelU ps hs)[i]? = some (upN ps hs i) := by simp [levelU, hi]
theorem levelN_get {ps : List (En × Int)} {hs : List Int} {inner : Bool} {i : Nat} (hi : i < (ps.length + 7) / 8) : (levelN ps hs inner)[i]? = some (hs.getD i 0, nodeOf (sub ps i) inner) := by simp [levelN, hi]

theorem mx_bd (l : List Int) (a b : Int) (hl : 1 ≤ l.length) (h : ∀ x ∈ l, a ≤ x ∧ x ≤ b) : a ≤ mx l ∧ mx l ≤ b := by
  have go : ∀ (m : List Int) (z : Int), a ≤ z ∧ z ≤ b → (∀ x ∈ m, a ≤ x ∧ x ≤ b) → a ≤ m.foldl max z ∧ m.foldl max z ≤ b := by
    intro m
    induction m with
    | nil => exact fun z hz _ => hz
    | cons y m ih =>
      intro z hz hm
      have hy := hm y List.mem_cons_self
      exact ih _ (by omega) (fun x hx => hm x (List.mem_cons_of_mem _ hx))
  unfold mx
  refine go l _ ?_ h
  cases l with
  | nil => simp at hl
  | cons y l => exact h y List.mem_cons_self
/-- The first one's begin lies at most at each one's end. -/
theorem PtsOk.le {inner : Bool} {ps : List (En × Int)} (h : PtsOk inner ps) {i j : Nat} (hij : i ≤ j) {x y : En × Int} (hx : ps[i]? = some x) (hy : ps[j]? = some y) : x.1.lo ≤ y.1.lo ∧ x.1.e ≤ y.1.e := by
  induction hij generalizing y with
  | refl => rw [hx] at hy; cases hy; omega
  | step hle ih =>
    rename_i m
    have hlt := (List.getElem?_eq_some_iff.1 hy).1
    obtain ⟨z, hz⟩ : ∃ z, ps[m]? = some z := ⟨ps[m], by simp⟩
    have h1 := ih hz
    have h2 := h.next _ _ _ hz hy
    have h3 := (h.ent _ _ hz).lt
    have h4 := (h.ent _ _ hy).lt
    omega
theorem head_last {α : Type} (l : List α) (d : α) (h : 1 ≤ l.length) : l[0]? = some (l.headD d) ∧ l[l.length - 1]? = some (l.getLastD d) := by
  cases l with
  | nil => simp at h
  | cons x l =>
    refine ⟨rfl, ?_⟩
    rw [List.getLastD_eq_getLast?, ← List.getLast?_eq_getElem?]
    cases hl : (x :: l).getLast? with
    | none => simp at hl
    | some y => rfl
theorem levelU_ok {inner : Bool} {ps : List (En × Int)} (h : PtsOk inner ps) (h1 : 1 ≤ ps.length) (h64 : ps.length ≤ 64) (hs : List Int) (hh : ∀ i, i < (ps.length + 7) / 8 → 0 < hs.getD i 0) : PtsOk true (levelU ps hs) := by
  have key : ∀ i, i < (ps.length + 7) / 8 → ∃ a z : En × Int, ps[plc ps.length i]? = some a ∧ ps[plc ps.length (i + 1) - 1]? = some z ∧ (upN ps hs i).1.lo = a.1.lo ∧ (upN ps hs i).1.e = z.1.e := by
    intro i hi
    have hb := pcs_bd _ _ h1 h64 hi
    have hl := sub_length ps i h1 hi
    obtain ⟨e1, e2⟩ := head_last (sub ps i) (⟨0, 0, 0⟩, 0) (by omega)
    rw [sub_get _ _ _ (by omega)] at e1
    rw [sub_get _ _ _ (by omega), hl] at e2
    rw [plc_succ]
    refine ⟨_, (sub ps i).getLastD (⟨0, 0, 0⟩, 0), e1, ?_, rfl, rfl⟩
    rw [show plc ps.length i + pcs ps.length i - 1 = plc ps.length i + (pcs ps.length i - 1) by omega]
    exact e2
  have len := levelU_length ps hs
  refine ⟨fun i x hx => ?_, fun i x y hx hy => ?_, fun i x hx => ?_⟩
  · have hi := (List.getElem?_eq_some_iff.1 hx).1
    rw [len] at hi
    rw [levelU_get hi] at hx
    cases hx
    obtain ⟨a, z, ha, hz, e1, e2⟩ := key i hi
    have hb := pcs_bd _ _ h1 h64 hi
    have hl := sub_length ps i h1 hi
    have hle := h.le (by rw [plc_succ]; omega) ha hz
    have lta := (h.ent _ _ ha).lt
    have hz' := h.ent _ _ hz
    have hg : 0 ≤ (upN ps hs i).2 ∧ (upN ps hs i).2 ≤ z.1.e - a.1.lo := by
      refine mx_bd _ _ _ (by rw [List.length_map]; omega) fun g hg => ?_
      obtain ⟨q, hq, rfl⟩ := List.mem_map.1 hg
      obtain ⟨j, hj⟩ := List.getElem?_of_mem hq
      have hjlt := sub_get_lt hj
      rw [sub_get _ _ _ hjlt] at hj
      have g1 := h.gap hj
      have g2 := h.le (by omega) ha hj
      have g3 := h.le (by rw [plc_succ]; omega) hj hz
      omega
    rw [e1, e2]
    exact ⟨by omega, hz'.le, hz'.al, by have := hh i hi; show 0 ≤ hs.getD i 0; omega, fun _ => ⟨hh i hi, hg.1, hg.2⟩, fun k => by cases k⟩
  · have hi := (List.getElem?_eq_some_iff.1 hx).1
    have hi2 := (List.getElem?_eq_some_iff.1 hy).1
    rw [len] at hi hi2
    rw [levelU_get hi] at hx
    rw [levelU_get hi2] at hy
    cases hx; cases hy
    obtain ⟨_, z, _, hz, _, e2⟩ := key i hi
    obtain ⟨a, _, ha, _, e1, _⟩ := key (i + 1) hi2
    rw [e1, e2]
    have hb := pcs_bd _ _ h1 h64 hi
    refine h.next _ _ _ hz ?_
    rw [← ha]; congr 1; rw [plc_succ]; omega
  · have hi := (List.getElem?_eq_some_iff.1 hx).1
    rw [len] at hi
    rw [levelU_get hi] at hx
    cases hx
    obtain ⟨a, z, ha, hz, e1, e2⟩ := key i hi
    rw [e1]
    exact h.lo _ _ ha

/-- Entries' parts. -/
def gapOf (x : En) : Int := if x.h = 0 then x.e - x.lo else 0
def parts (l : List En) : List (En × Int) := l.map fun x => (x, gapOf x)
theorem parts_length (l : List En) : (parts l).length = l.length := by simp [parts]
theorem parts_fst (l : List En) : (parts l).map (·.1) = l := by simp [parts, List.map_map, Function.comp_def]
theorem parts_ok {l : List En} (h : formedB l = true) : PtsOk false (parts l) := by
  obtain ⟨hs, h1, h64⟩ := (formedB_iff l).1 h
  have get : ∀ (i : Nat) (x : En × Int), (parts l)[i]? = some x → ∃ y, l[i]? = some y ∧ x = (y, gapOf y) := by
    intro i x hx
    simp only [parts, List.getElem?_map, Option.map_eq_some_iff] at hx
    obtain ⟨y, hy, rfl⟩ := hx
    exact ⟨y, hy, rfl⟩
  have ok : ∀ (i : Nat) (y : En), l[i]? = some y → EnOk y := by
    intro i y hy
    have := hs i (List.getElem?_eq_some_iff.1 hy).1
    simp only [stepE, hy, Bool.and_eq_true, decide_eq_true_eq] at this
    exact this.1
  refine ⟨fun i x hx => ?_, fun i x y hx hy => ?_, fun i x hx => ?_⟩
  · obtain ⟨y, hy, rfl⟩ := get i x hx
    have o := ok i y hy
    exact ⟨o.lt, o.hi, o.al2, o.h0, (fun k => by cases k), fun _ => rfl⟩
  · obtain ⟨x', hx', rfl⟩ := get i x hx
    obtain ⟨y', hy', rfl⟩ := get (i + 1) y hy
    have := hs (i + 1) (List.getElem?_eq_some_iff.1 hy').1
    simp only [stepE, hy', Nat.add_sub_cancel, hx', Bool.and_eq_true, decide_eq_true_eq, Bool.or_eq_true, beq_iff_eq] at this
    exact this.2.resolve_left (by omega)
  · obtain ⟨y, hy, rfl⟩ := get i x hx
    have o := ok i y hy
    exact ⟨o.lo1, o.al⟩
/-- The whole tree's nodes with their handles. -/
def treeL (ps : List (En × Int)) (hs : List Int) : List (Int × Nd) :=
  levelN ps hs false ++ if (ps.length + 7) / 8 = 1 then [] else levelN (levelU ps hs) (hs.drop ((ps.length + 7) / 8)) true
end Go.Proofs.Ytpiobilidhmedaa
