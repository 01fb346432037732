/-
  A region whose order is open, walked by one tree of steps: what only reads is walked once, in whatever order it may come up; what writes is walked where it comes up, and behind it each reading that may still come is shown to read the same.
  For every program that follows mixed orders, every region that the tree's check takes.
-/
import Derived.Still
import Derived.StillTactics
import Derived.WalkKit
namespace Go.Ct
open Go

/-- The steps: an operation that reads; one that writes (with the readings that may come behind it), beside what else may come up there; the end. -/
inductive CT where
  | fin
  | stop
  | rd (i : Nat) (t : CT)
  | wr (i : Nat) (obl : List Nat) (t more : CT)

def CT.heads : CT → List Nat
  | .wr i _ _ more => i :: more.heads
  | _ => []

def depB (b : Array Nat) (j i : Nat) : Bool := (b.getD j 0).testBit i

def CT.ok (ops : Array Oper) (b : Array Nat) : CT → List Nat → List Nat → Bool → Bool
  | .fin, rem, _, alt => !alt && rem.isEmpty
  | .stop, _, _, alt => alt
  | .rd i t, rem, pend, alt => !alt && rem.contains i && rem.all (fun x => !depB b i x) && ((ops[i]?).bind (·.dst)).isSome &&
      (List.range ops.size).all (fun x => match ops[x]? with
        | some o => !(match (ops[i]?).bind (·.dst) with | some d => (o.looksAt ops).contains d | none => false) || depB b x i
        | none => true) && t.ok ops b (rem.erase i) (i :: pend) false
  | .wr i obl t more, rem, pend, alt =>
      (alt || rem.all (fun x => (CT.wr i obl t more).heads.contains x || rem.any (fun y => depB b x y))) &&
      rem.contains i && rem.all (fun x => !depB b i x) && pend.all (fun p => depB b i p || obl.contains p) && t.ok ops b (rem.erase i) pend false && more.ok ops b rem pend true

/-- No two operations leave their value in one place; what one looks at, another leaves there ahead of it or behind it; what it waits for stands ahead in the text. -/
def sane (ops : Array Oper) (b : Array Nat) : Bool :=
  Region.noSelect ops && (List.range ops.size).all fun s => match ops[s]? with
    | none => true
    | some os => os.after.all (fun e => !Region.binds .any e || decide (e.on < s)) && match os.dst with
      | none => true
      | some d => (List.range ops.size).all fun x => match ops[x]? with
        | none => true
        | some o => (x == s || o.dst != some d) && (!(o.looksAt ops).contains d || depB b x s || depB b s x)

def check (ops : Array Oper) (ct : CT) (n : Nat) : Bool :=
  sane ops (Region.before ops) && ct.ok ops (Region.before ops) (List.range ops.size) [] false && ops.all (fun o => match o.dst with | some d => decide (d < n) | none => true)

section
variable {P : Program} {ops : Array Oper} {Q : Exit → Act → World → Prop}

def valOf (a : Act) (dst : Option Tmp) : Value := match dst with | some d => a.tmps.getD d undef | none => undef

def Obl (P : Program) (ops : Array Oper) : List Nat → Act → World → Prop
  | [], _, _ => True
  | p :: ps, a, w => (match ops[p]? with | some o => YieldsAt P ops w o (valOf a o.dst) a | none => True) ∧ Obl P ops ps a w

theorem Obl.mem {obl : List Nat} {a : Act} {w : World} (h : Obl P ops obl a w) {p : Nat} (hp : p ∈ obl) {o : Oper} (ho : ops[p]? = some o) : YieldsAt P ops w o (valOf a o.dst) a := by
  induction obl with
  | nil => cases hp
  | cons q qs ih =>
    rcases List.mem_cons.1 hp with rfl | hp
    · have := h.1; simp only [ho] at this; exact this
    · exact ih h.2 hp

def wpC (P : Program) (ops : Array Oper) (Q : Exit → Act → World → Prop) : CT → Act → World → Prop
  | .fin, a, w => Q .normal a w
  | .stop, _, _ => True
  | .rd i t, a, w => stOp P ops w i (fun a' => wpC P ops Q t a' w) a
  | .wr i obl t more, a, w => wpOp P ops Q i (fun a' w' => Obl P ops obl a' w' ∧ wpC P ops Q t a' w') a w ∧ wpC P ops Q more a w

/-- j waits for i. -/
inductive Dep (ops : Array Oper) : Nat → Nat → Prop
  | one {j : Nat} {o : Oper} {e : Edge} : ops[j]? = some o → e ∈ o.after → Region.binds .any e = true → Dep ops j e.on
  | step {j i : Nat} {o : Oper} {e : Edge} : ops[j]? = some o → e ∈ o.after → Region.binds .any e = true → Dep ops e.on i → Dep ops j i

theorem inner_dep (acc : Array Nat) (i : Nat) (es : List Edge) (s0 : Nat)
    (h : (es.foldl (fun s e => if Region.binds .any e then s ||| 2 ^ e.on ||| acc.getD e.on 0 else s) s0).testBit i = true) :
    s0.testBit i = true ∨ ∃ e ∈ es, Region.binds .any e = true ∧ (e.on = i ∨ (acc.getD e.on 0).testBit i = true) := by
  induction es generalizing s0 with
  | nil => exact .inl h
  | cons e es ih =>
    rw [List.foldl_cons] at h
    rcases ih _ h with h1 | ⟨e', he, hb, hd⟩
    · by_cases hb : Region.binds .any e = true
      · rw [if_pos hb] at h1
        simp only [Nat.testBit_or, Bool.or_eq_true] at h1
        rcases h1 with (h1 | h1) | h1
        · exact .inl h1
        · right; refine ⟨e, List.mem_cons_self, hb, .inl ?_⟩
          simp only [Nat.testBit_two_pow, decide_eq_true_eq] at h1
          exact h1
        · exact .inr ⟨e, List.mem_cons_self, hb, .inr h1⟩
      · rw [if_neg hb] at h1; exact .inl h1
    · exact .inr ⟨e', List.mem_cons_of_mem _ he, hb, hd⟩

theorem before_go (l : List Oper) (acc : Array Nat) (k : Nat) (hk : acc.size = k) (hl : ∀ j, l[j]? = ops[k + j]?)
    (h : ∀ j i, (acc.getD j 0).testBit i = true → Dep ops j i) :
    ∀ j i, ((l.foldl (fun acc o => acc.push (o.after.foldl (fun s e => if Region.binds .any e then s ||| 2 ^ e.on ||| acc.getD e.on 0 else s) 0)) acc).getD j 0).testBit i = true → Dep ops j i := by
  induction l generalizing acc k with
  | nil => exact h
  | cons o l ih =>
    rw [List.foldl_cons]
    refine ih _ (k + 1) (by simp [hk]) (fun j => by have := hl (j + 1); simpa [Nat.add_assoc, Nat.add_comm 1 j] using this) ?_
    intro j i hb
    by_cases hj : j < acc.size
    · have e1 : (acc.push (o.after.foldl (fun s e => if Region.binds .any e then s ||| 2 ^ e.on ||| acc.getD e.on 0 else s) 0)).getD j 0 = acc.getD j 0 := by
        simp only [Array.getD_eq_getD_getElem?, Array.getElem?_push_lt hj, Array.getElem?_eq_getElem hj]
      rw [e1] at hb; exact h j i hb
    · by_cases hj2 : j = acc.size
      · subst hj2
        simp only [Array.getD_eq_getD_getElem?, Array.getElem?_push_size, Option.getD_some] at hb
        have h0 : ops[acc.size]? = some o := by have := hl 0; rw [hk]; simpa using this.symm
        rw [← Array.foldl_toList] at hb
        have hb' := inner_dep acc i o.after.toList 0 (by simpa only [Array.getD_eq_getD_getElem?] using hb)
        rcases hb' with h1 | ⟨e, he, hbd, h1⟩
        · simp at h1
        · have he' : e ∈ o.after := Array.mem_toList_iff.1 he
          rcases h1 with rfl | h1
          · exact .one h0 he' hbd
          · exact .step h0 he' hbd (h _ _ h1)
      · have : (acc.push (o.after.foldl (fun s e => if Region.binds .any e then s ||| 2 ^ e.on ||| acc.getD e.on 0 else s) 0)).getD j 0 = 0 := by
          rw [Array.getD_eq_getD_getElem?, Array.getElem?_eq_none (by simp; omega)]; rfl
        rw [this] at hb; simp at hb

theorem dep_of {j i : Nat} (h : depB (Region.before ops) j i = true) : Dep ops j i := by
  unfold depB Region.before at h
  rw [← Array.foldl_toList] at h
  exact before_go (ops := ops) ops.toList #[] 0 rfl (by simp) (by intro j i h; simp at h) j i h

def Closed (ops : Array Oper) (listed : Array Bool) : Prop := ∀ (j : Nat) (o : Oper), listed.getD j false = true → ops[j]? = some o → ∀ e ∈ o.after, Region.binds .any e = true → listed.getD e.on false = true

theorem Closed.dep {listed : Array Bool} (h : Closed ops listed) {j i : Nat} (hd : Dep ops j i) (hj : listed.getD j false = true) : listed.getD i false = true := by
  induction hd with
  | one ho he hb => exact h _ _ hj ho _ he hb
  | step ho he hb _ ih => exact ih (h _ _ hj ho _ he hb)
theorem Closed.ready {listed : Array Bool} (h : Closed ops listed) {j i : Nat} (hr : j ∈ Region.ready .any ops listed) (hd : Dep ops j i) : listed.getD i false = true := by
  obtain ⟨_, o, ho, hall⟩ := mem_ready.1 hr
  cases hd with
  | one ho' he hb => rw [ho] at ho'; cases ho'; exact hall _ he hb
  | step ho' he hb hd' => rw [ho] at ho'; cases ho'; exact h.dep hd' (hall _ he hb)
theorem Closed.set {listed : Array Bool} (h : Closed ops listed) {j : Nat} (hr : j ∈ Region.ready .any ops listed) : Closed ops (listed.setIfInBounds j true) := by
  intro k o hk ho e he hb
  by_cases hkj : j = k
  · subst hkj
    obtain ⟨_, o', ho', hall⟩ := mem_ready.1 hr
    rw [ho] at ho'; cases ho'
    exact getD_set_true (hall e he hb)
  · rw [getD_set_ne false hkj] at hk
    exact getD_set_true (h k o hk ho e he hb)

/-- Two frames that part only where some readings, not yet come up, will leave their values. -/
structure Agree (ops : Array Oper) (S : List Nat) (aD aC : Act) : Prop where
  defers : aD.defers = aC.defers
  size : aD.tmps.size = aC.tmps.size
  at_ : ∀ t, (∀ s ∈ S, ∀ o, ops[s]? = some o → o.dst ≠ some t) → aD.tmps[t]? = aC.tmps[t]?

theorem Agree.refl {S : List Nat} (a : Act) : Agree ops S a a := ⟨rfl, rfl, fun _ _ => rfl⟩
theorem Agree.nil {aD aC : Act} (h : Agree ops [] aD aC) : aD = aC := by
  obtain ⟨t1, d1⟩ := aD
  obtain ⟨t2, d2⟩ := aC
  have hd : d1 = d2 := h.defers
  have ht : t1 = t2 := by
    apply Array.ext_getElem?
    intro i
    exact h.at_ i (by simp)
  subst hd; subst ht; rfl

theorem put_at {a : Act} {dst : Option Tmp} {v : Value} {t : Nat} (h : dst ≠ some t) : (a.put dst v).tmps[t]? = a.tmps[t]? := by
  cases dst with
  | none => rfl
  | some d => simp only [Act.put]; exact Array.getElem?_setIfInBounds_ne (fun e => h (by rw [e]))
theorem put_size {a : Act} {dst : Option Tmp} {v : Value} : (a.put dst v).tmps.size = a.tmps.size := by
  cases dst <;> simp [Act.put]
theorem put_defers' {a : Act} {dst : Option Tmp} {v : Value} : (a.put dst v).defers = a.defers := by
  cases dst <;> rfl
theorem put_same {a : Act} {d : Tmp} {v : Value} (h : d < a.tmps.size) : (a.put (some d) v).tmps[d]? = some v := by
  simp only [Act.put]; rw [Array.getElem?_setIfInBounds_self_of_lt h]

theorem Agree.put {S : List Nat} {aD aC : Act} (h : Agree ops S aD aC) (dst : Option Tmp) (v : Value) : Agree ops S (aD.put dst v) (aC.put dst v) := by
  refine ⟨by rw [put_defers', put_defers']; exact h.defers, by rw [put_size, put_size]; exact h.size, fun t ht => ?_⟩
  cases dst with
  | none => exact h.at_ t ht
  | some d =>
    by_cases hd : d = t
    · subst hd
      simp only [Act.put]
      by_cases hlt : d < aD.tmps.size
      · rw [Array.getElem?_setIfInBounds_self_of_lt hlt, Array.getElem?_setIfInBounds_self_of_lt (by rw [← h.size]; exact hlt)]
      · have h1 : aD.tmps.size ≤ d := Nat.le_of_not_lt hlt
        have h2 : aC.tmps.size ≤ d := h.size ▸ h1
        rw [Array.getElem?_eq_none (by rw [Array.size_setIfInBounds]; exact h1), Array.getElem?_eq_none (by rw [Array.size_setIfInBounds]; exact h2)]
    · rw [put_at (by simpa using hd), put_at (by simpa using hd)]; exact h.at_ t ht
theorem Agree.defer {S : List Nat} {aD aC : Act} (h : Agree ops S aD aC) (d : Deferred) : Agree ops S { aD with defers := d :: aD.defers } { aC with defers := d :: aC.defers } :=
  ⟨by simp [h.defers], h.size, h.at_⟩

/-- What an operation looks at reads the same in both. -/
def Clear (ops : Array Oper) (S : List Nat) (o : Oper) : Prop := ∀ t ∈ o.looksAt ops, ∀ s ∈ S, ∀ os, ops[s]? = some os → os.dst ≠ some t

theorem Agree.exec {S : List Nat} {aD aC : Act} (h : Agree ops S aD aC) {o : Oper} (hs : ∀ cs b, o.op ≠ .select cs b) (hc : Clear ops S o) : execOp aD.eval o = execOp aC.eval o :=
  execOp_congr o hs fun x hx => by
    cases x with
    | tmp t =>
      have := h.at_ t (hc t (List.mem_append_left _ (List.mem_filterMap.2 ⟨.tmp t, by simpa using hx, rfl⟩)))
      simp [Act.eval, this]
    | _ => rfl
theorem Agree.wanted {S : List Nat} {aD aC : Act} (h : Agree ops S aD aC) {o : Oper} (hc : Clear ops S o) : Region.wanted o (yielded ops aD.tmps) = Region.wanted o (yielded ops aC.tmps) := by
  unfold Region.wanted
  cases hg : o.guard with
  | none => rfl
  | some gw =>
    obtain ⟨g, want⟩ := gw
    have hy : yielded ops aD.tmps g = yielded ops aC.tmps g := by
      unfold yielded
      cases ht : (ops[g]?).bind (·.dst) with
      | none => rfl
      | some t =>
        have := h.at_ t (hc t (by simp [Oper.looksAt, hg, ht]))
        simp [this]
    simp only [hy]

theorem wpOp_agree {S : List Nat} {aD aC : Act} {w : World} {j : Nat} {o : Oper} {K : Act → World → Prop} (hj : ops[j]? = some o) (hs : ∀ cs b, o.op ≠ .select cs b)
    (hQ : ∀ c (a a' : Act) w, a.defers = a'.defers → Q (.panic c) a w → Q (.panic c) a' w) (h : Agree ops S aD aC) (hc : Clear ops S o) (hw : wpOp P ops Q j K aC w) :
    wpOp P ops Q j (fun a' w' => ∃ aC', Agree ops S a' aC' ∧ K aC' w') aD w := by
  have he := h.exec hs hc
  have hwt := h.wanted hc
  unfold wpOp at *
  simp only [hj] at *
  rw [hwt]
  split
  · rename_i hwd
    simp only [hwd, if_true] at hw
    rcases hw with hw | ⟨hasks, hlets⟩
    case inr => exact .inr ⟨by unfold Oper.asks at *; rw [he]; exact hasks, hlets⟩
    refine .inl ?_
    unfold Oper.wp at *
    rw [he]
    generalize (execOp aC.eval o).run P w = r at *
    cases r with
    | ok n w' =>
      cases n <;> simp only [Oper.upon] at hw ⊢
      case value u => exact ⟨_, h.put _ u, hw⟩
      case skip => exact ⟨_, h.put _ undef, hw⟩
      case defer d => exact ⟨_, (h.defer d).put _ undef, hw⟩
      case enter f args =>
        refine Calls.mono hw fun e w'' he => ?_
        cases e with
        | returned u => exact ⟨_, h.put _ u, he⟩
        | panicked c => exact hQ _ _ _ _ h.defers.symm he
        | outgrown => exact he
      case row row args => exact Rows.mono hw fun u w'' he => ⟨_, h.put _ u, he⟩
    | halt x w' =>
      cases x <;> simp only [Oper.upon] at hw ⊢
      case panic u => exact hQ _ _ _ _ h.defers.symm hw
  · rename_i hwd
    simp only [hwd] at hw
    exact ⟨_, h.put _ undef, hw⟩

theorem YieldsAt.wpOp {i : Nat} {o : Oper} {v : Value} {a : Act} {w : World} (hi : ops[i]? = some o) (hy : YieldsAt P ops w o v a) {K : Act → World → Prop} (h : K (a.put o.dst v) w) : wpOp P ops Q i K a w :=
  wpOp_of_stOp (K := fun a' => K a' w) (fun _ h => h) (YieldsAt.stOp hi hy h)

structure Sane (ops : Array Oper) : Prop where
  sel : Region.noSelect ops = true
  low : ∀ (s : Nat) (os : Oper), ops[s]? = some os → ∀ e ∈ os.after, Region.binds .any e = true → e.on < s
  apart : ∀ (s : Nat) (os : Oper) (d : Tmp) (x : Nat) (o : Oper), ops[s]? = some os → os.dst = some d → ops[x]? = some o → x ≠ s → o.dst ≠ some d
  looks : ∀ (s : Nat) (os : Oper) (d : Tmp) (x : Nat) (o : Oper), ops[s]? = some os → os.dst = some d → ops[x]? = some o → d ∈ o.looksAt ops → depB (Region.before ops) x s = true ∨ depB (Region.before ops) s x = true

theorem sane_spec (h : sane ops (Region.before ops) = true) : Sane ops := by
  unfold sane at h
  rw [Bool.and_eq_true, List.all_eq_true] at h
  obtain ⟨h0, h⟩ := h
  have get : ∀ s os, ops[s]? = some os → s ∈ List.range ops.size := fun s os hs => List.mem_range.2 (Array.getElem?_eq_some_iff.1 hs).1
  refine ⟨h0, ?_, ?_, ?_⟩
  · intro s os hs e he hb
    have := h s (get s os hs)
    simp only [hs, Bool.and_eq_true, Array.all_eq_true_iff_forall_mem] at this
    have := this.1 e he
    simpa [hb] using this
  · intro s os d x o hs hd hx hne
    have := h s (get s os hs)
    simp only [hs, hd, Bool.and_eq_true, List.all_eq_true] at this
    have := this.2 x (get x o hx)
    simp only [hx, Bool.and_eq_true, Bool.or_eq_true, beq_iff_eq, hne, false_or, bne_iff_ne] at this
    exact this.1
  · intro s os d x o hs hd hx hl
    have := h s (get s os hs)
    simp only [hs, hd, Bool.and_eq_true, List.all_eq_true] at this
    have := this.2 x (get x o hx)
    have hc : (o.looksAt ops).contains d = true := by simpa using hl
    simp only [hx, hc, Bool.and_eq_true, Bool.or_eq_true, Bool.not_true, Bool.false_eq_true, false_or] at this
    exact this.2

theorem ready_all (hS : Sane ops) {listed : Array Bool} (hsz : listed.size = ops.size) (hr : Region.ready .any ops listed = []) : ∀ i, i < ops.size → listed.getD i true = true := by
  intro i
  induction i using Nat.strongRecOn with
  | _ i ih =>
    intro hi
    cases hc : listed.getD i true with
    | true => rfl
    | false =>
      exfalso
      have ho : ops[i]? = some ops[i] := by simp [hi]
      have : i ∈ Region.ready .any ops listed := mem_ready.2 ⟨hc, ops[i], ho, fun e he hb => by
        have hlt := hS.low i _ ho e he hb
        have := ih e.on hlt (by omega)
        have hlt' : e.on < listed.size := by omega
        simp only [Array.getD_eq_getD_getElem?, Array.getElem?_eq_getElem hlt', Option.getD_some] at this ⊢
        exact this⟩
      rw [hr] at this
      cases this

theorem getD_tf {listed : Array Bool} {i : Nat} (hi : i < listed.size) : listed.getD i true = listed.getD i false := by
  simp only [Array.getD_eq_getD_getElem?, Array.getElem?_eq_getElem hi, Option.getD_some]

theorem CT.alt {b : Array Nat} {rem pend : List Nat} : ∀ (t : CT), t.ok ops b rem pend true = true → ∀ h ∈ t.heads, ∀ (a : Act) (w : World), wpC P ops Q t a w →
    ∃ obl t', rem.contains h = true ∧ (rem.all fun x => !depB b h x) = true ∧ (pend.all fun p => depB b h p || obl.contains p) = true ∧ t'.ok ops b (rem.erase h) pend false = true ∧
      wpOp P ops Q h (fun a' w' => Obl P ops obl a' w' ∧ wpC P ops Q t' a' w') a w
  | .fin, _, h, hh, _, _, _ => by simp [CT.heads] at hh
  | .stop, _, h, hh, _, _, _ => by simp [CT.heads] at hh
  | .rd _ _, _, h, hh, _, _, _ => by simp [CT.heads] at hh
  | .wr i obl t more, hok, h, hh, a, w, hw => by
    simp only [CT.ok, Bool.and_eq_true] at hok
    obtain ⟨⟨⟨⟨⟨_, h1⟩, h2⟩, h3⟩, h4⟩, h5⟩ := hok
    rcases List.mem_cons.1 hh with rfl | hh
    · exact ⟨obl, t, h1, h2, h3, h4, hw.1⟩
    · exact CT.alt more h5 h hh a w hw.2

theorem wpOp_size {j : Nat} {o : Oper} {K : Act → World → Prop} {a : Act} {w : World} (hj : ops[j]? = some o) (h : wpOp P ops Q j K a w) : wpOp P ops Q j (fun a' w' => a'.tmps.size = a.tmps.size ∧ K a' w') a w := by
  unfold wpOp at *
  simp only [hj] at *
  split
  · rename_i hwd
    simp only [hwd, if_true] at h
    refine h.imp ?_ id
    intro h
    unfold Oper.wp at *
    generalize (execOp a.eval o).run P w = r at *
    cases r with
    | ok n w' =>
      cases n <;> simp only [Oper.upon] at h ⊢
      case value u => exact ⟨put_size, h⟩
      case skip => exact ⟨put_size, h⟩
      case defer d => exact ⟨put_size, h⟩
      case enter f args => exact Calls.mono h fun e w'' he => by cases e with
        | returned u => exact ⟨put_size, he⟩
        | panicked c => exact he
        | outgrown => exact he
      case row row args => exact Rows.mono h fun u w'' he => ⟨put_size, he⟩
    | halt x w' =>
      cases x <;> simp only [Oper.upon] at h ⊢
      case panic u => exact h
  · rename_i hwd
    simp only [hwd] at h
    exact ⟨put_size, h⟩

structure Inv (P : Program) (ops : Array Oper) (rem pend S : List Nat) (listed : Array Bool) (aD aC : Act) (w : World) : Prop where
  nd : rem.Nodup
  ndS : S.Nodup
  sub : ∀ s ∈ S, s ∈ pend
  off : ∀ s ∈ S, s ∉ rem
  inR : ∀ s ∈ S, s < ops.size
  inR' : ∀ s ∈ rem, s < ops.size
  size : listed.size = ops.size
  list : ∀ i, i < ops.size → (listed.getD i true = false ↔ i ∈ rem ∨ i ∈ S)
  closed : Closed ops listed
  agree : Agree ops S aD aC
  yields : ∀ s ∈ S, ∀ (o : Oper), ops[s]? = some o → YieldsAt P ops w o (valOf aC o.dst) aC
  nodep : ∀ s ∈ pend, ∀ x ∈ rem, depB (Region.before ops) s x = false
  dst : ∀ s ∈ pend, ∀ (o : Oper), ops[s]? = some o → ∃ d, o.dst = some d
  raw : ∀ s ∈ pend, ∀ (os : Oper) (d : Tmp), ops[s]? = some os → os.dst = some d → ∀ (x : Nat) (o : Oper), ops[x]? = some o → d ∈ o.looksAt ops → depB (Region.before ops) x s = true
  tmps : ∀ (s : Nat) (o : Oper) (d : Tmp), ops[s]? = some o → o.dst = some d → d < aC.tmps.size

theorem Inv.clear {rem pend S : List Nat} {listed : Array Bool} {aD aC : Act} {w : World} (hI : Inv P ops rem pend S listed aD aC w) {j : Nat} {o : Oper}
    (hr : j ∈ Region.ready .any ops listed) (ho : ops[j]? = some o) : Clear ops S o := by
  intro t ht s hs os hos hd
  have := hI.raw s (hI.sub s hs) os t hos hd j o ho ht
  have hl := hI.closed.ready hr (dep_of this)
  have hun := (hI.list s (hI.inR s hs)).2 (.inr hs)
  rw [getD_tf (by rw [hI.size]; exact hI.inR s hs)] at hun
  rw [hun] at hl; cases hl

theorem getD_set_self {listed : Array Bool} {j : Nat} (h : j < listed.size) : (listed.setIfInBounds j true).getD j true = true := by
  simp [h]

theorem sim (hS : Sane ops) (hQ : ∀ c (a a' : Act) w, a.defers = a'.defers → Q (.panic c) a w → Q (.panic c) a' w) :
    ∀ (fuel : Nat) (t : CT) (rem pend S : List Nat) (listed : Array Bool) (aD aC : Act) (w : World),
      t.ok ops (Region.before ops) rem pend false = true → Inv P ops rem pend S listed aD aC w → fuel = S.length + rem.length → wpC P ops Q t aC w → wpAny P .any ops Q fuel listed aD w := by
  intro fuel
  induction fuel using Nat.strongRecOn with
  | _ fuel IH =>
    intro t
    have runS : ∀ (t : CT) (rem pend S : List Nat) (listed : Array Bool) (aD aC : Act) (w : World), t.ok ops (Region.before ops) rem pend false = true → Inv P ops rem pend S listed aD aC w → fuel = S.length + rem.length →
        wpC P ops Q t aC w → ∀ fuel', fuel = fuel' + 1 → ∀ j ∈ Region.ready .any ops listed, j ∈ S → wpOp P ops Q j (wpAny P .any ops Q fuel' (listed.setIfInBounds j true)) aD w := by
      intro t rem pend S listed aD aC w hok hI hf hw fuel' hf' j hj hjS
      obtain ⟨_, o, ho, _⟩ := mem_ready.1 hj
      obtain ⟨d, hd⟩ := hI.dst j (hI.sub j hjS) o ho
      have hcl := hI.clear hj ho
      have hsel : ∀ cs b, o.op ≠ .select cs b := fun cs b => Region.noSelect_spec hS.sel j o cs b ho
      have hy : YieldsAt P ops w o (valOf aC o.dst) aD := (hI.yields j hjS o ho).of_same (hI.agree.exec hsel hcl) (hI.agree.wanted hcl)
      refine YieldsAt.wpOp ho hy ?_
      have hjn := hI.inR j hjS
      have hlen : (S.erase j).length + 1 = S.length := by rw [List.length_erase_of_mem hjS]; have := List.length_pos_of_mem hjS; omega
      refine IH fuel' (by omega) t rem pend (S.erase j) (listed.setIfInBounds j true) _ aC w hok ?_ (by omega) hw
      have mem : ∀ s, s ∈ S.erase j → s ∈ S := fun s hs => List.mem_of_mem_erase hs
      refine ⟨hI.nd, hI.ndS.erase _, fun s hs => hI.sub s (mem s hs), fun s hs => hI.off s (mem s hs), fun s hs => hI.inR s (mem s hs), hI.inR', by simp [hI.size], ?_, hI.closed.set hj, ?_, fun s hs => hI.yields s (mem s hs), hI.nodep, hI.dst, hI.raw, hI.tmps⟩
      · intro i hi
        by_cases hij : j = i
        · subst hij
          rw [getD_set_self (by rw [hI.size]; exact hi)]
          constructor
          · intro h; cases h
          · rintro (h | h)
            · exact absurd h (hI.off j hjS)
            · exact absurd h (by rw [hI.ndS.mem_erase_iff]; simp)
        · rw [getD_set_ne true hij, hI.list i hi, hI.ndS.mem_erase_iff]
          simp [Ne.symm hij]
      · refine ⟨by rw [put_defers']; exact hI.agree.defers, by rw [put_size]; exact hI.agree.size, fun t' ht => ?_⟩
        by_cases hdt : d = t'
        · subst hdt
          have hlt := hI.tmps j o d ho hd
          rw [hd, put_same (by rw [hI.agree.size]; exact hlt)]
          simp [valOf, hlt]
        · rw [put_at (by rw [hd]; simpa using hdt)]
          refine hI.agree.at_ t' (fun s hs os hos => ?_)
          by_cases hsj : s = j
          · subst hsj; rw [ho] at hos; cases hos; rw [hd]; simpa using hdt
          · exact ht s (by rw [hI.ndS.mem_erase_iff]; exact ⟨hsj, hs⟩) os hos
    have inS : ∀ (rem pend S : List Nat) (listed : Array Bool) (aD aC : Act) (w : World), Inv P ops rem pend S listed aD aC w → ∀ j ∈ Region.ready .any ops listed, j ∈ rem ∨ j ∈ S := by
      intro rem pend S listed aD aC w hI j hj
      obtain ⟨h0, o, ho, _⟩ := mem_ready.1 hj
      exact (hI.list j (Array.getElem?_eq_some_iff.1 ho).1).1 h0
    have none : ∀ (rem pend S : List Nat) (listed : Array Bool) (aD aC : Act) (w : World), Inv P ops rem pend S listed aD aC w → Region.ready .any ops listed = [] → rem = [] ∧ S = [] := by
      intro rem pend S listed aD aC w hI hr
      have hall := ready_all hS hI.size hr
      constructor
      · cases hrem : rem with
        | nil => rfl
        | cons x xs =>
          exfalso
          have hx : x ∈ rem := by rw [hrem]; exact List.mem_cons_self
          have := (hI.list x (hI.inR' x hx)).2 (.inl hx)
          rw [hall x (hI.inR' x hx)] at this; cases this
      · cases hS' : S with
        | nil => rfl
        | cons x xs =>
          exfalso
          have hx : x ∈ S := by rw [hS']; exact List.mem_cons_self
          have := (hI.list x (hI.inR x hx)).2 (.inr hx)
          rw [hall x (hI.inR x hx)] at this; cases this
    induction t with
    | stop => intro rem pend S listed aD aC w hok; simp [CT.ok] at hok
    | fin =>
      intro rem pend S listed aD aC w hok hI hf hw
      have hrem : rem = [] := by simpa [CT.ok] using hok
      have fin : Region.ready .any ops listed = [] → Q .normal aD w := fun hr => by
        obtain ⟨_, hS0⟩ := none rem pend S listed aD aC w hI hr
        have hag := hI.agree
        rw [hS0] at hag
        rw [hag.nil]; exact hw
      cases fuel with
      | zero =>
        have hS0 : S = [] := List.eq_nil_of_length_eq_zero (by omega)
        have hr : Region.ready .any ops listed = [] := by
          cases hr : Region.ready .any ops listed with
          | nil => rfl
          | cons j js =>
            have := inS rem pend S listed aD aC w hI j (by rw [hr]; exact List.mem_cons_self)
            rw [hrem, hS0] at this; simp at this
        exact ⟨hr, fin hr⟩
      | succ fuel' =>
        refine ⟨fin, fun j hj => ?_⟩
        rcases inS rem pend S listed aD aC w hI j hj with h | h
        · rw [hrem] at h; cases h
        · exact runS .fin rem pend S listed aD aC w hok hI hf hw fuel' rfl j hj h
    | rd i t ih =>
      intro rem pend S listed aD aC w hok hI hf hw
      simp only [CT.ok, Bool.and_eq_true] at hok
      obtain ⟨⟨⟨⟨⟨_, hc1⟩, hc2⟩, hc3⟩, hc4⟩, hok'⟩ := hok
      have hir : i ∈ rem := by simpa using hc1
      have hin := hI.inR' i hir
      obtain ⟨o, ho⟩ : ∃ o, ops[i]? = some o := ⟨ops[i], by simp [hin]⟩
      obtain ⟨d, hd⟩ : ∃ d, o.dst = some d := by
        simp only [ho, Option.bind_some] at hc3
        exact Option.isSome_iff_exists.1 hc3
      obtain ⟨v, hy, hK⟩ := yieldsAt_of_stOp ho hw
      have hlt := hI.tmps i o d ho hd
      have hnodep : ∀ x ∈ rem, depB (Region.before ops) i x = false := by
        intro x hx
        have := List.all_eq_true.1 hc2 x hx
        simpa using this
      have hraw : ∀ (x : Nat) (ox : Oper), ops[x]? = some ox → d ∈ ox.looksAt ops → depB (Region.before ops) x i = true := by
        intro x ox hx hl
        have := List.all_eq_true.1 hc4 x (List.mem_range.2 (Array.getElem?_eq_some_iff.1 hx).1)
        have hc : (ox.looksAt ops).contains d = true := by simpa using hl
        simp only [hx, ho, Option.bind_some, hd, hc, Bool.not_true, Bool.false_or] at this
        exact this
      have hiS : i ∉ S := fun h => hI.off i h hir
      have hval : valOf (aC.put o.dst v) o.dst = v := by
        rw [hd]
        have := put_same (v := v) hlt
        simp only [valOf, Array.getD_eq_getD_getElem?, this, Option.getD_some]
      have same : ∀ (s : Nat) (os : Oper), ops[s]? = some os → depB (Region.before ops) s i = false → ∀ u, YieldsAt P ops w os u aC → YieldsAt P ops w os u (aC.put o.dst v) := by
        intro s os hos hdep u hyu
        have hno : ∀ d', o.dst = some d' → d' ∉ os.looksAt ops := by
          intro d' hd' hl
          rw [hd] at hd'; cases hd'
          have := hraw s os hos hl
          rw [hdep] at this; cases this
        exact hyu.of_same (execOp_put os (fun cs b => Region.noSelect_spec hS.sel s os cs b hos) aC o.dst v hno) (wanted_put os aC o.dst v hno)
      have hself : depB (Region.before ops) i i = false := hnodep i hir
      have hlen : (rem.erase i).length + 1 = rem.length := by rw [List.length_erase_of_mem hir]; have := List.length_pos_of_mem hir; omega
      refine ih (rem.erase i) (i :: pend) (i :: S) listed aD (aC.put o.dst v) w hok' ?_ (by simp only [List.length_cons]; omega) hK
      refine ⟨hI.nd.erase _, List.nodup_cons.2 ⟨hiS, hI.ndS⟩, ?_, ?_, ?_, fun s hs => hI.inR' s (List.mem_of_mem_erase hs), hI.size, ?_, hI.closed, ?_, ?_, ?_, ?_, ?_, ?_⟩
      · intro s hs
        rcases List.mem_cons.1 hs with rfl | hs
        · exact List.mem_cons_self
        · exact List.mem_cons_of_mem _ (hI.sub s hs)
      · intro s hs
        rw [hI.nd.mem_erase_iff]
        rcases List.mem_cons.1 hs with rfl | hs
        · simp
        · exact fun h => hI.off s hs h.2
      · intro s hs
        rcases List.mem_cons.1 hs with rfl | hs
        · exact hin
        · exact hI.inR s hs
      · intro k hk
        rw [hI.list k hk, hI.nd.mem_erase_iff, List.mem_cons]
        by_cases hki : k = i
        · subst hki; simp [hir]
        · simp [hki]
      · refine ⟨by rw [put_defers']; exact hI.agree.defers, by rw [put_size]; exact hI.agree.size, fun t' ht => ?_⟩
        have h1 := ht i List.mem_cons_self o ho
        rw [put_at h1]
        exact hI.agree.at_ t' (fun s hs => ht s (List.mem_cons_of_mem _ hs))
      · intro s hs os hos
        rcases List.mem_cons.1 hs with rfl | hs
        · rw [ho] at hos; cases hos
          rw [hval]
          exact same s o ho hself v hy
        · have hne : s ≠ i := fun e => hiS (e ▸ hs)
          have hdep := hI.nodep s (hI.sub s hs) i hir
          have hv : valOf (aC.put o.dst v) os.dst = valOf aC os.dst := by
            obtain ⟨d', hd'⟩ := hI.dst s (hI.sub s hs) os hos
            have hdd : o.dst ≠ some d' := hS.apart s os d' i o hos hd' ho (Ne.symm hne)
            rw [hd']
            simp only [valOf, Array.getD_eq_getD_getElem?, put_at hdd]
          rw [hv]
          exact same s os hos hdep _ (hI.yields s hs os hos)
      · intro s hs x hx
        have hx' := List.mem_of_mem_erase hx
        rcases List.mem_cons.1 hs with rfl | hs
        · exact hnodep x hx'
        · exact hI.nodep s hs x hx'
      · intro s hs os hos
        rcases List.mem_cons.1 hs with rfl | hs
        · rw [ho] at hos; cases hos; exact ⟨d, hd⟩
        · exact hI.dst s hs os hos
      · intro s hs os d' hos hd' x ox hx hl
        rcases List.mem_cons.1 hs with rfl | hs
        · rw [ho] at hos; cases hos
          rw [hd] at hd'; cases hd'
          exact hraw x ox hx hl
        · exact hI.raw s hs os d' hos hd' x ox hx hl
      · intro s os d' hos hd'
        rw [put_size]; exact hI.tmps s os d' hos hd'
    | wr i obl t more _ _ =>
      intro rem pend S listed aD aC w hok hI hf hw
      have hok0 := hok
      simp only [CT.ok, Bool.and_eq_true, Bool.false_or] at hok
      obtain ⟨⟨⟨⟨⟨hblk, hc1⟩, hc2⟩, hc3⟩, hc4⟩, hc5⟩ := hok
      have hir : i ∈ rem := by simpa using hc1
      have hpos := List.length_pos_of_mem hir
      obtain ⟨fuel', rfl⟩ : ∃ f, fuel = f + 1 := ⟨fuel - 1, by omega⟩
      refine ⟨fun hr => ?_, fun j hj => ?_⟩
      · obtain ⟨h0, _⟩ := none rem pend S listed aD aC w hI hr
        rw [h0] at hir; cases hir
      · rcases inS rem pend S listed aD aC w hI j hj with hjr | hjS
        case inr => exact runS _ rem pend S listed aD aC w hok0 hI hf hw fuel' rfl j hj hjS
        have hjh : j ∈ (CT.wr i obl t more).heads := by
          have := List.all_eq_true.1 hblk j hjr
          rw [Bool.or_eq_true] at this
          rcases this with h | h
          · simpa using h
          · exfalso
            obtain ⟨y, hy, hd⟩ := List.any_eq_true.1 h
            have hl := hI.closed.ready hj (dep_of hd)
            have hun := (hI.list y (hI.inR' y hy)).2 (.inl hy)
            rw [getD_tf (by rw [hI.size]; exact hI.inR' y hy)] at hun
            rw [hun] at hl; cases hl
        have hokalt : (CT.wr i obl t more).ok ops (Region.before ops) rem pend true = true := by
          simp only [CT.ok, Bool.and_eq_true, Bool.true_or]
          exact ⟨⟨⟨⟨⟨trivial, hc1⟩, hc2⟩, hc3⟩, hc4⟩, hc5⟩
        obtain ⟨obl', t', g1, g2, g3, g4, g5⟩ := CT.alt _ hokalt j hjh aC w hw
        obtain ⟨_, o, ho, _⟩ := mem_ready.1 hj
        have hcl := hI.clear hj ho
        have hsel : ∀ cs b, o.op ≠ .select cs b := fun cs b => Region.noSelect_spec hS.sel j o cs b ho
        have hjn := hI.inR' j hjr
        have hjS : j ∉ S := fun h => hI.off j h hjr
        have hlen : (rem.erase j).length + 1 = rem.length := by rw [List.length_erase_of_mem hjr]; omega
        have hnotS : ∀ s ∈ S, depB (Region.before ops) j s = false := by
          intro s hs
          cases hd : depB (Region.before ops) j s with
          | false => rfl
          | true =>
            exfalso
            have hl := hI.closed.ready hj (dep_of hd)
            have hun := (hI.list s (hI.inR s hs)).2 (.inr hs)
            rw [getD_tf (by rw [hI.size]; exact hI.inR s hs)] at hun
            rw [hun] at hl; cases hl
        refine wpOp_mono (fun a' w' h => ?_) (wpOp_agree ho hsel hQ hI.agree hcl (wpOp_size ho g5))
        obtain ⟨aC', hag, hsz', hobl, hwt⟩ := h
        refine IH fuel' (by omega) t' (rem.erase j) pend S (listed.setIfInBounds j true) a' aC' w' g4 ?_ (by omega) hwt
        refine ⟨hI.nd.erase _, hI.ndS, hI.sub, fun s hs h => hI.off s hs (List.mem_of_mem_erase h), hI.inR, fun s hs => hI.inR' s (List.mem_of_mem_erase hs), by simp [hI.size], ?_, hI.closed.set hj, hag, ?_, fun s hs x hx => hI.nodep s hs x (List.mem_of_mem_erase hx), hI.dst, hI.raw, fun s os d hos hd => by rw [hsz']; exact hI.tmps s os d hos hd⟩
        · intro k hk
          by_cases hij : j = k
          · subst hij
            rw [getD_set_self (by rw [hI.size]; exact hk)]
            constructor
            · intro h; cases h
            · rintro (h | h)
              · exact absurd h (by rw [hI.nd.mem_erase_iff]; simp)
              · exact absurd h hjS
          · rw [getD_set_ne true hij, hI.list k hk, hI.nd.mem_erase_iff]
            simp [Ne.symm hij]
        · intro s hs os hos
          have hp := List.all_eq_true.1 g3 s (hI.sub s hs)
          rw [hnotS s hs, Bool.false_or] at hp
          exact hobl.mem (by simpa using hp) hos

theorem wp_region_ct {id : Nat} {l : List Oper} {a : Act} {w : World} (ct : CT) (n : Nat) (hm : P.follows .mixedOrders = true) (hB : check l.toArray ct n = true) (hn : n ≤ a.tmps.size)
    (hQ : ∀ c (a a' : Act) w, a.defers = a'.defers → Q (.panic c) a w → Q (.panic c) a' w)
    (h : wpC P l.toArray Q ct a w.drew) : (Code.region id l.toArray true).wp P Q a w := by
  unfold check at hB
  rw [Bool.and_eq_true, Bool.and_eq_true] at hB
  obtain ⟨⟨h1, h2⟩, h3⟩ := hB
  refine wp_region_any hm ?_
  refine sim (sane_spec h1) hQ _ ct (List.range l.toArray.size) [] [] _ a a w.drew h2 ?_ (by simp) h
  refine ⟨List.nodup_range, List.nodup_nil, by simp, by simp, by simp, by simp, by simp, ?_, ?_, Agree.refl a, by simp, by simp, by simp, by simp, ?_⟩
  · intro i hi
    have : (Array.replicate l.toArray.size false).getD i true = false := by
      simp only [Array.getD_eq_getD_getElem?]
      rw [Array.getElem?_replicate, if_pos hi]; rfl
    rw [this]
    simpa using hi
  · intro j o hj
    have : (Array.replicate l.toArray.size false).getD j false = false := by
      simp only [Array.getD_eq_getD_getElem?]
      rw [Array.getElem?_replicate]; split <;> rfl
    rw [this] at hj; cases hj
  · intro s o d hs hd
    have := Array.all_eq_true_iff_forall_mem.1 h3 o (Array.mem_of_getElem? hs)
    rw [hd] at this
    have : d < n := by simpa using this
    exact Nat.lt_of_lt_of_le this hn

/-- The moves of a walk: an operation with no guard, with one; a reading, a writing. -/
def isB : Value → Bool → Bool
  | .bool b, want => b == want
  | _, _ => false
theorem isB_true (b : Bool) : isB (.bool b) true = b := by cases b <;> rfl
theorem isB_false (b : Bool) : isB (.bool b) false = !b := by cases b <;> rfl
theorem isB_undef (b : Bool) : isB undef b = false := rfl

theorem wanted_g {o : Oper} {j : Nat} {want : Bool} {d : Tmp} {a : Act} (hg : o.guard = some (j, want)) (hd : (ops[j]?).bind (·.dst) = some d) : Region.wanted o (yielded ops a.tmps) = isB (a.tmps.getD d undef) want := by
  unfold Region.wanted yielded
  simp only [hg, hd]
  cases h : a.tmps[d]? with
  | none => simp [h, isB, undef]
  | some v => cases v <;> simp [h, isB]

theorem wpC_rdp {i : Nat} {t : CT} {o : Oper} {a : Act} {w : World} (hi : ops[i]? = some o) (hg : o.guard = none)
    (h : ∀ K : Act → Prop, (∀ a', wpC P ops Q t a' w → K a') → o.still P a w K) : wpC P ops Q (.rd i t) a w := by
  show stOp P ops w i _ a
  unfold stOp
  simp only [hi, Region.wanted, hg, if_true]
  exact h _ (fun _ h => h)

theorem wpC_rdg {i j : Nat} {want : Bool} {d : Tmp} {t : CT} {o : Oper} {a : Act} {w : World} (hi : ops[i]? = some o) (hg : o.guard = some (j, want)) (hd : (ops[j]?).bind (·.dst) = some d)
    (h : ∀ K : Act → Prop, (∀ a', wpC P ops Q t a' w → K a') → if isB (a.tmps.getD d undef) want = true then o.still P a w K else K (a.put o.dst undef)) : wpC P ops Q (.rd i t) a w := by
  show stOp P ops w i _ a
  unfold stOp
  simp only [hi, wanted_g hg hd]
  exact h _ (fun _ h => h)

def Behind (Q : Exit → Act → World → Prop) (R : Act → World → Prop) : Exit → Act → World → Prop
  | .normal, a, w => R a w
  | e, a, w => Q e a w

theorem behind {o : Oper} {K : Act → World → Prop} {a : Act} {w : World} {l : Array Oper}
    (h : o.wp P a w (wpList P l (Behind Q K) []) (Behind Q K) ∨ (o.asks P a w ∧ LetsOut (Behind Q K))) : o.wp P a w K Q ∨ (o.asks P a w ∧ LetsOut Q) := by
  rcases h with h | ⟨h1, a0, w0, h2⟩
  · left
    unfold Oper.wp at *
    generalize (execOp a.eval o).run P w = r at *
    cases r with
    | ok n w' =>
      cases n <;> simp only [Oper.upon] at h ⊢ <;> first
        | exact h
        | exact Calls.mono h (fun e w'' he => by cases e with
            | returned v => exact he
            | panicked c => exact he
            | outgrown => obtain ⟨a0, w0, h2⟩ := he; exact ⟨a0, w0, h2⟩)
        | exact Rows.mono h (fun _ _ he => he)
    | halt x w' => cases x <;> simp only [Oper.upon] at h ⊢ <;> exact h
  · exact .inr ⟨h1, a0, w0, h2⟩

theorem wpC_wrp {i : Nat} {obl : List Nat} {t : CT} {o : Oper} {a : Act} {w : World} (hi : ops[i]? = some o) (hg : o.guard = none)
    (h : ∀ R : Act → World → Prop, (∀ a' w', Obl P ops obl a' w' → wpC P ops Q t a' w' → R a' w') → wpList P #[] (Behind Q R) [o] a w) : wpC P ops Q (.wr i obl t .stop) a w := by
  refine ⟨?_, trivial⟩
  have h := h (fun a' w' => Obl P ops obl a' w' ∧ wpC P ops Q t a' w') (fun _ _ h1 h2 => ⟨h1, h2⟩)
  unfold wpOp
  unfold wpList at h
  simp only [Region.wanted, hg, if_true] at h
  simp only [hi, Region.wanted, hg, if_true]
  exact behind h

theorem wpC_wrg {i j : Nat} {want : Bool} {d : Tmp} {obl : List Nat} {t : CT} {o : Oper} {a : Act} {w : World} (hi : ops[i]? = some o) (hg : o.guard = some (j, want)) (hd : (ops[j]?).bind (·.dst) = some d)
    (hw : isB (a.tmps.getD d undef) want = true)
    (h : ∀ R : Act → World → Prop, (∀ a' w', Obl P ops obl a' w' → wpC P ops Q t a' w' → R a' w') → wpList P #[] (Behind Q R) [⟨o.dst, o.op, o.type, o.pos, o.after, none⟩] a w) : wpC P ops Q (.wr i obl t .stop) a w := by
  refine ⟨?_, trivial⟩
  have h := h (fun a' w' => Obl P ops obl a' w' ∧ wpC P ops Q t a' w') (fun _ _ h1 h2 => ⟨h1, h2⟩)
  unfold wpOp
  unfold wpList at h
  simp only [Region.wanted, if_true] at h
  simp only [hi, wanted_g hg hd, hw, if_true]
  exact behind h

theorem wpC_wrs {i j : Nat} {want : Bool} {d : Tmp} {obl : List Nat} {t : CT} {o : Oper} {a : Act} {w : World} (hi : ops[i]? = some o) (hg : o.guard = some (j, want)) (hd : (ops[j]?).bind (·.dst) = some d)
    (hw : isB (a.tmps.getD d undef) want = false) (h1 : Obl P ops obl (a.put o.dst undef) w) (h2 : wpC P ops Q t (a.put o.dst undef) w) : wpC P ops Q (.wr i obl t .stop) a w := by
  refine ⟨?_, trivial⟩
  unfold wpOp
  simp only [hi, wanted_g hg hd, hw]
  exact ⟨h1, h2⟩

theorem wpC_or {i : Nat} {obl : List Nat} {t more : CT} {a : Act} {w : World} (h1 : wpC P ops Q (.wr i obl t .stop) a w) (h2 : wpC P ops Q more a w) : wpC P ops Q (.wr i obl t more) a w := ⟨h1.1, h2⟩
theorem wpC_fin {a : Act} {w : World} (h : Q .normal a w) : wpC P ops Q .fin a w := h
theorem obl_nil {a : Act} {w : World} : Obl P ops [] a w := trivial
theorem obl_cons {p : Nat} {ps : List Nat} {o : Oper} {a : Act} {w : World} (hi : ops[p]? = some o) (hg : o.guard = none) (hr : (execOp a.eval o).run P w = .ok (.value (valOf a o.dst)) w)
    (h : Obl P ops ps a w) : Obl P ops (p :: ps) a w := ⟨by simp only [hi]; exact .inl ⟨by simp [Region.wanted, hg], .inl hr⟩, h⟩
theorem obl_consg {p j : Nat} {want : Bool} {d : Tmp} {ps : List Nat} {o : Oper} {a : Act} {w : World} (hi : ops[p]? = some o) (hg : o.guard = some (j, want)) (hd : (ops[j]?).bind (·.dst) = some d)
    (hw : isB (a.tmps.getD d undef) want = true) (hr : (execOp a.eval o).run P w = .ok (.value (valOf a o.dst)) w)
    (h : Obl P ops ps a w) : Obl P ops (p :: ps) a w := ⟨by simp only [hi]; exact .inl ⟨by rw [wanted_g hg hd]; exact hw, .inl hr⟩, h⟩
theorem obl_skip {p j : Nat} {want : Bool} {d : Tmp} {ps : List Nat} {o : Oper} {a : Act} {w : World} (hi : ops[p]? = some o) (hg : o.guard = some (j, want)) (hd : (ops[j]?).bind (·.dst) = some d)
    (hw : isB (a.tmps.getD d undef) want = false) (hr : valOf a o.dst = undef)
    (h : Obl P ops ps a w) : Obl P ops (p :: ps) a w := ⟨by simp only [hi]; exact .inr ⟨by rw [wanted_g hg hd]; exact hw, hr⟩, h⟩

end
attribute [go_sem] valOf isB_true isB_false isB_undef
attribute [irreducible] wpC
end Go.Ct
