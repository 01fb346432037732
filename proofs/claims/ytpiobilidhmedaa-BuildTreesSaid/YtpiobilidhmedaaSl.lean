/-
  A small logic of owned blocks over the model's worlds: heaplets, their separating product, what a world satisfies, and the laws by which a walk's own steps (a store, a new block, a draw) carry that on.
  No condition: every theorem here is for every program and world.
-/
import Derived.WalkKit
import Derived.Deep.Draws
namespace Go.Sl
open Go Go.RowKit

/-- A part of the heap: some blocks with what they hold. -/
def Hp : Type := Nat → Option Obj

def Hp.emp : Hp := fun _ => none
def Hp.one (b : Nat) (o : Obj) : Hp := fun k => if k = b then some o else none
def Hp.un (a b : Hp) : Hp := fun k => (a k).or (b k)
def Hp.Dj (a b : Hp) : Prop := ∀ k, a k = none ∨ b k = none
def Hp.Le (a b : Hp) : Prop := ∀ k o, a k = some o → b k = some o

theorem Hp.Le.refl (a : Hp) : a.Le a := fun _ _ h => h
theorem Hp.Le.trans {a b c : Hp} (h : a.Le b) (k : b.Le c) : a.Le c := fun _ _ e => k _ _ (h _ _ e)
theorem Hp.Dj.symm {a b : Hp} (h : a.Dj b) : b.Dj a := fun k => (h k).symm
theorem Hp.un_comm {a b : Hp} (h : a.Dj b) : a.un b = b.un a := by
  funext k
  unfold Hp.un
  rcases h k with e | e <;> simp [e]
theorem Hp.un_assoc (a b c : Hp) : (a.un b).un c = a.un (b.un c) := by funext k; simp [Hp.un, Option.or_assoc]
theorem Hp.emp_un (a : Hp) : Hp.emp.un a = a := by funext k; simp [Hp.un, Hp.emp]
theorem Hp.dj_un_left {a b c : Hp} : (a.un b).Dj c ↔ a.Dj c ∧ b.Dj c := by
  unfold Hp.Dj Hp.un
  constructor
  · intro h
    refine ⟨fun k => ?_, fun k => ?_⟩
    · rcases h k with e | e
      · left; cases ha : a k <;> simp_all
      · exact .inr e
    · rcases h k with e | e
      · left; cases ha : a k <;> simp_all
      · exact .inr e
  · rintro ⟨h1, h2⟩ k
    rcases h1 k with e | e
    · rcases h2 k with e' | e'
      · left; simp [e, e']
      · exact .inr e'
    · exact .inr e
theorem Hp.le_un_left (a b : Hp) : a.Le (a.un b) := fun k o h => by simp [Hp.un, h]
theorem Hp.le_un_right {a b : Hp} (h : a.Dj b) : b.Le (a.un b) := by rw [Hp.un_comm h]; exact Hp.le_un_left b a
theorem Hp.un_le {a b c : Hp} (h : a.Le c) (k : b.Le c) : (a.un b).Le c := by
  intro i o e
  unfold Hp.un at e
  cases ha : a i with
  | none => rw [ha] at e; exact k i o (by simpa using e)
  | some x => rw [ha] at e; simp at e; subst e; exact h i _ ha

/-- An assertion on a part of the heap. -/
def As : Type := Hp → Prop

def star (A B : As) : As := fun h => ∃ a b : Hp, a.Dj b ∧ h = a.un b ∧ A a ∧ B b
instance : Mul As := ⟨star⟩
def emp : As := fun h => h = Hp.emp
instance : One As := ⟨emp⟩

theorem star_def (A B : As) (h : Hp) : (A * B) h ↔ ∃ a b : Hp, a.Dj b ∧ h = a.un b ∧ A a ∧ B b := Iff.rfl

theorem star_comm (A B : As) : A * B = B * A := by
  funext h
  apply propext
  constructor
  · rintro ⟨a, b, d, rfl, ha, hb⟩; exact ⟨b, a, d.symm, Hp.un_comm d, hb, ha⟩
  · rintro ⟨a, b, d, rfl, ha, hb⟩; exact ⟨b, a, d.symm, Hp.un_comm d, hb, ha⟩

theorem star_assoc (A B C : As) : A * B * C = A * (B * C) := by
  funext h
  apply propext
  constructor
  · rintro ⟨x, c, d, rfl, ⟨a, b, d2, rfl, ha, hb⟩, hc⟩
    obtain ⟨d3, d4⟩ := Hp.dj_un_left.1 d
    exact ⟨a, b.un c, (Hp.dj_un_left.2 ⟨d2.symm, d3.symm⟩).symm, Hp.un_assoc _ _ _, ha, b, c, d4, rfl, hb, hc⟩
  · rintro ⟨a, x, d, rfl, ha, b, c, d2, rfl, hb, hc⟩
    obtain ⟨d3, d4⟩ := Hp.dj_un_left.1 d.symm
    exact ⟨a.un b, c, Hp.dj_un_left.2 ⟨d4.symm, d2⟩, (Hp.un_assoc _ _ _).symm, ⟨a, b, d3.symm, rfl, ha, hb⟩, hc⟩

theorem one_star (A : As) : (1 : As) * A = A := by
  funext h
  apply propext
  constructor
  · rintro ⟨a, b, _, rfl, ha, hb⟩
    have ha' : a = Hp.emp := ha
    subst ha'
    rw [Hp.emp_un]; exact hb
  · intro ha; exact ⟨Hp.emp, h, fun _ => .inl rfl, (Hp.emp_un h).symm, rfl, ha⟩
theorem star_one (A : As) : A * (1 : As) = A := by rw [star_comm, one_star]
theorem star_left_comm (A B C : As) : A * (B * C) = B * (A * C) := by rw [← star_assoc, star_comm A B, star_assoc]

instance : Std.Associative (α := As) (· * ·) := ⟨star_assoc⟩
instance : Std.Commutative (α := As) (· * ·) := ⟨star_comm⟩

theorem star_mono {A A' B B' : As} (h1 : ∀ h, A h → A' h) (h2 : ∀ h, B h → B' h) : ∀ h, (A * B) h → (A' * B') h := by
  rintro h ⟨a, b, d, e, ha, hb⟩; exact ⟨a, b, d, e, h1 _ ha, h2 _ hb⟩

/-- The whole heap of a world. -/
def hp (w : World) : Hp := fun k => w.heap[k]?

/-- The world w has, of blocks of its own, what A says; its streams are W's. -/
structure Sat (W w : World) (A : As) : Prop where
  os : w.os = W.os
  tape : w.tape = W.tape
  output : w.output = W.output
  own : ∃ h : Hp, A h ∧ h.Le (hp w)

theorem Sat.mono {W w : World} {A B : As} (h : Sat W w A) (k : ∀ x, A x → B x) : Sat W w B :=
  ⟨h.os, h.tape, h.output, let ⟨x, hx, hl⟩ := h.own; ⟨x, k x hx, hl⟩⟩
theorem Sat.of_eq {W w : World} {A B : As} (h : Sat W w A) (e : A = B) : Sat W w B := e ▸ h
theorem Sat.left {W w : World} {A B : As} (h : Sat W w (A * B)) : Sat W w A :=
  ⟨h.os, h.tape, h.output, let ⟨_, ⟨a, b, _, e, ha, _⟩, hl⟩ := h.own; ⟨a, ha, fun k o hk => hl k o (by rw [e]; exact Hp.le_un_left a b k o hk)⟩⟩
theorem Sat.right {W w : World} {A B : As} (h : Sat W w (A * B)) : Sat W w B := (h.of_eq (star_comm A B)).left
theorem Sat.drew {W w : World} {A : As} (h : Sat W w A) : Sat W w.drew A := ⟨h.os, h.tape, h.output, h.own⟩
theorem Sat.drewN {W w : World} {A : As} (h : Sat W w A) (n : Nat) : Sat W (w.drewN n) A := ⟨h.os, h.tape, h.output, h.own⟩

/-- Exactly this part. -/
def RO (I : Hp) : As := fun h => h = I
/-- All that was there in w. -/
def Old (w : World) : As := RO (hp w)

theorem Sat.refl (w : World) : Sat w w (Old w) := ⟨rfl, rfl, rfl, hp w, rfl, Hp.Le.refl _⟩

theorem RO_un {I J : Hp} (h : Hp) : (RO I * RO J) h → RO (I.un J) h := by
  rintro ⟨a, b, _, rfl, ha, hb⟩
  have ha' : a = I := ha
  have hb' : b = J := hb
  subst ha'; subst hb'; rfl

theorem Sat.below {W w : World} {A : As} (h : Sat W w (A * Old W)) : Below W.heap.size W w := by
  obtain ⟨x, hx, hl⟩ := h.right.own
  have hx' : x = hp W := hx
  subst hx'
  have hb : ∀ k, k < W.heap.size → w.heap[k]? = W.heap[k]? := by
    intro k hk
    have e : hp W k = some W.heap[k] := by simp [hp, hk]
    have := hl k _ e
    simp only [hp] at this
    rw [this]; simp [hk]
  refine ⟨h.os, h.tape, h.output, ?_, hb⟩
  by_cases hz : W.heap.size = 0
  · omega
  · have := hb (W.heap.size - 1) (by omega)
    rw [Array.getElem?_eq_getElem (by omega : W.heap.size - 1 < W.heap.size)] at this
    have := (Array.getElem?_eq_some_iff.1 this).1
    omega

/-- What a call that changes nothing that was there leaves to its caller. -/
theorem Sat.lift {W w w' : World} {F A : As} (h : Sat W w F) (k : Sat w w' (A * Old w)) : Sat W w' (A * F) := by
  obtain ⟨f, hf, hfl⟩ := h.own
  obtain ⟨x, ⟨a, b, d, rfl, ha, hb⟩, hl⟩ := k.own
  have hb' : b = hp w := hb
  subst hb'
  refine ⟨k.os.trans h.os, k.tape.trans h.tape, k.output.trans h.output, a.un f, ⟨a, f, ?_, rfl, ha, hf⟩, ?_⟩
  · intro i
    rcases d i with e | e
    · exact .inl e
    · right
      cases hfi : f i with
      | none => rfl
      | some o => rw [hfl i o hfi] at e; cases e
  · refine Hp.un_le (fun i o e => hl i o (Hp.le_un_left _ _ i o e)) (fun i o e => hl i o ?_)
    exact Hp.le_un_right d i o (hfl i o e)
theorem Sat.lift0 {W w w' : World} {F : As} (h : Sat W w F) (k : Below w.heap.size w w') : Sat W w' F := by
  obtain ⟨f, hf, hfl⟩ := h.own
  refine ⟨k.os.trans h.os, k.tape.trans h.tape, k.output.trans h.output, f, hf, fun i o e => ?_⟩
  have := hfl i o e
  have hi : i < w.heap.size := (Array.getElem?_eq_some_iff.1 (this : w.heap[i]? = some o)).1
  show w'.heap[i]? = some o
  rw [k.block i hi]; exact this
theorem Sat.below0 {W w : World} (h : Sat W w (Old W)) : Below W.heap.size W w := by
  have : Sat W w (1 * Old W) := h.of_eq (one_star _).symm
  exact this.below
theorem Sat.of_below {W w : World} (h : Below W.heap.size W w) : Sat W w (Old W) := (Sat.refl W).lift0 h

/-- One block, its cells. -/
def pt (b : Nat) (vs : List Value) (T : TypeId) : As := fun h => h = Hp.one b (.cells vs.toArray T (0, 0))

theorem one_le {b : Nat} {o : Obj} {h : Hp} : (Hp.one b o).Le h ↔ h b = some o := by
  constructor
  · intro k; exact k b o (by simp [Hp.one])
  · intro k i x e
    unfold Hp.one at e
    split at e
    · rename_i hi; cases e; rw [hi]; exact k
    · cases e

theorem Sat.blk {W w : World} {b : Nat} {vs : List Value} {T : TypeId} {F : As} (h : Sat W w (pt b vs T * F)) : w.heap[b]? = some (.cells vs.toArray T (0, 0)) := by
  obtain ⟨x, hx, hl⟩ := h.left.own
  have hx' : x = Hp.one b (.cells vs.toArray T (0, 0)) := hx
  subst hx'
  exact one_le.1 hl

theorem Sat.cell {W w : World} {b : Nat} {vs : List Value} {T : TypeId} {F : As} (h : Sat W w (pt b vs T * F)) (i : Nat) : w.cell? ⟨b, i, none⟩ = vs[i]? := by
  simp [World.cell?, h.blk]
theorem Sat.frozen {W w : World} {b : Nat} {vs : List Value} {T : TypeId} {F : As} (h : Sat W w (pt b vs T * F)) (i : Nat) : w.frozen? ⟨b, i, none⟩ = false := by
  simp [World.frozen?, h.blk]
theorem Sat.lt {W w : World} {b : Nat} {vs : List Value} {T : TypeId} {F : As} (h : Sat W w (pt b vs T * F)) : b < w.heap.size := (Array.getElem?_eq_some_iff.1 h.blk).1

/-- A store into an owned block. -/
theorem Sat.set {W w : World} {b : Nat} {vs : List Value} {T : TypeId} {F : As} (h : Sat W w (pt b vs T * F)) (i : Nat) (v : Value) :
    Sat W (w.setCell ⟨b, i, none⟩ v) (pt b (vs.set i v) T * F) := by
  have hb := h.blk
  obtain ⟨x, ⟨a, f, d, rfl, ha, hf⟩, hl⟩ := h.own
  have ha' : a = Hp.one b (.cells vs.toArray T (0, 0)) := ha
  subst ha'
  refine ⟨h.os, h.tape, h.output, (Hp.one b (.cells (vs.set i v).toArray T (0, 0))).un f, ⟨_, f, ?_, rfl, rfl, hf⟩, ?_⟩
  · intro k
    rcases d k with e | e
    · left; unfold Hp.one at *; split at e
      · cases e
      · rename_i hk; simp [hk]
    · exact .inr e
  · refine Hp.un_le (one_le.2 ?_) ?_
    · show (w.setCell ⟨b, i, none⟩ v).heap[b]? = _
      simp only [World.setCell, Array.getElem?_modify, if_true, hb]
      simp
    · intro k o e
      have hk : k ≠ b := by
        rintro rfl
        rcases d k with e' | e'
        · simp [Hp.one] at e'
        · rw [e'] at e; cases e
      show (w.setCell ⟨b, i, none⟩ v).heap[k]? = some o
      rw [Below.heap_setCell _ _ _ _ hk]
      exact hl k o (Hp.le_un_right d k o e)

/-- A new block. -/
theorem Sat.alloc_any {W w : World} {F : As} (h : Sat W w F) (o : Obj) : Sat W (w.alloc o) F := by
  obtain ⟨f, hf, hl⟩ := h.own
  refine ⟨h.os, h.tape, h.output, f, hf, fun k x e => ?_⟩
  have := hl k x e
  have hi : k < w.heap.size := (Array.getElem?_eq_some_iff.1 (this : w.heap[k]? = some x)).1
  show (w.alloc o).heap[k]? = some x
  rw [Below.heap_alloc _ _ _ hi]; exact this

theorem Sat.alloc_own {W w : World} {F : As} (h : Sat W w F) (o : Obj) : Sat W (w.alloc o) (RO (Hp.one w.heap.size o) * F) := by
  obtain ⟨f, hf, hl⟩ := h.own
  have hlt : ∀ k x, f k = some x → k < w.heap.size := fun k x e => (Array.getElem?_eq_some_iff.1 (hl k x e : w.heap[k]? = some x)).1
  refine ⟨h.os, h.tape, h.output, (Hp.one w.heap.size o).un f, ⟨_, f, ?_, rfl, rfl, hf⟩, ?_⟩
  · intro k
    cases e : f k with
    | none => exact .inr rfl
    | some x => left; have := hlt k x e; simp only [Hp.one]; rw [if_neg (by omega)]
  · refine Hp.un_le (one_le.2 ?_) (fun k x e => ?_)
    · show (w.alloc o).heap[w.heap.size]? = some o
      exact heap_alloc_new w o
    · show (w.alloc o).heap[k]? = some x
      rw [Below.heap_alloc _ _ _ (hlt k x e)]; exact hl k x e
theorem Sat.alloc {W w : World} {F : As} (h : Sat W w F) (vs : List Value) (T : TypeId) : Sat W (w.alloc (.cells vs.toArray T)) (pt w.heap.size vs T * F) := h.alloc_own _

/-- Two owned blocks are two. -/
theorem Sat.ne {W w : World} {b b' : Nat} {vs vs' : List Value} {T T' : TypeId} {F : As} (h : Sat W w (pt b vs T * (pt b' vs' T' * F))) : b ≠ b' := by
  rintro rfl
  obtain ⟨x, ⟨a, f, d, rfl, ha, hf⟩, hl⟩ := h.own
  obtain ⟨p, q, _, rfl, hp', _⟩ := hf
  have ha' : a = Hp.one b (.cells vs.toArray T (0, 0)) := ha
  have hp'' : p = Hp.one b (.cells vs'.toArray T' (0, 0)) := hp'
  subst ha'; subst hp''
  rcases d b with e | e
  · simp [Hp.one] at e
  · simp [Hp.one, Hp.un] at e


/-- A block of somebody else's behind an owned one: kept where the owned one is written. -/
theorem Sat.rot {W w : World} {A B C : As} (h : Sat W w (A * (B * C))) : Sat W w (B * (A * C)) := h.of_eq (star_left_comm A B C)
theorem Sat.swap {W w : World} {A B : As} (h : Sat W w (A * B)) : Sat W w (B * A) := h.of_eq (star_comm A B)

/-- A slice's cells, in a block of its own, with whatever room is behind them. -/
def row (v : Value) (T : TypeId) (sz n : Nat) (xs : List Value) : As := fun h =>
  xs.length = n * sz ∧ ((v = .slice none 0 0 ∧ n = 0 ∧ h = Hp.emp) ∨
    ∃ g cap, ∃ cur : List Value, v = .slice (some ⟨g, 0, none⟩) n cap ∧ n ≤ cap ∧ cap ≤ maxLen ∧ cur.length = cap * sz ∧ cur.take (n * sz) = xs ∧ h = Hp.one g (.cells cur.toArray T (0, 0)))

theorem row_nil (T : TypeId) (sz : Nat) : (row (.slice none 0 0) T sz 0 []) = (1 : As) := by
  funext h
  apply propext
  constructor
  · rintro ⟨_, ⟨_, _, rfl⟩ | ⟨g, cap, cur, hv, _⟩⟩
    · rfl
    · cases hv
  · intro e
    have e' : h = Hp.emp := e
    exact ⟨by simp, .inl ⟨rfl, rfl, e'⟩⟩

theorem Sat.row_start {W w : World} {F : As} (h : Sat W w F) (T : TypeId) (sz : Nat) : Sat W w (row (.slice none 0 0) T sz 0 [] * F) := by
  rw [row_nil, one_star]; exact h

theorem row_cases {W w : World} {v : Value} {T : TypeId} {sz n : Nat} {xs : List Value} {F : As} (h : Sat W w (row v T sz n xs * F)) :
    (v = .slice none 0 0 ∧ n = 0 ∧ xs = [] ∧ Sat W w F) ∨
    ∃ g cap, ∃ cur : List Value, v = .slice (some ⟨g, 0, none⟩) n cap ∧ n ≤ cap ∧ cap ≤ maxLen ∧ cur.length = cap * sz ∧ cur.take (n * sz) = xs ∧ Sat W w (pt g cur T * F) := by
  obtain ⟨x, ⟨a, f, d, rfl, ⟨hlen, hr⟩, hf⟩, hl⟩ := h.own
  rcases hr with ⟨rfl, rfl, rfl⟩ | ⟨g, cap, cur, rfl, h1, h2, h3, h4, rfl⟩
  · left
    refine ⟨rfl, rfl, List.eq_nil_of_length_eq_zero (by simpa using hlen), h.right⟩
  · right
    exact ⟨g, cap, cur, rfl, h1, h2, h3, h4, h.os, h.tape, h.output, _, ⟨_, f, d, rfl, rfl, hf⟩, hl⟩

theorem Sat.row_len {W w : World} {v : Value} {T : TypeId} {sz n : Nat} {xs : List Value} {F : As} (h : Sat W w (row v T sz n xs * F)) : xs.length = n * sz := by
  obtain ⟨x, ⟨a, f, d, rfl, ⟨hlen, hr⟩, hf⟩, hl⟩ := h.own
  exact hlen

theorem row_of_pt {g cap n sz : Nat} {T : TypeId} {cur xs : List Value} (h1 : n ≤ cap) (h2 : cap ≤ maxLen) (h3 : cur.length = cap * sz) (h4 : cur.take (n * sz) = xs) (h5 : xs.length = n * sz) :
    ∀ h, pt g cur T h → row (.slice (some ⟨g, 0, none⟩) n cap) T sz n xs h := fun _ e => ⟨h5, .inr ⟨g, cap, cur, rfl, h1, h2, h3, h4, e⟩⟩

theorem Sat.row_of {W w : World} {g cap n sz : Nat} {T : TypeId} {cur xs : List Value} {F : As} (h : Sat W w (pt g cur T * F)) (h1 : n ≤ cap) (h2 : cap ≤ maxLen) (h3 : cur.length = cap * sz)
    (h4 : cur.take (n * sz) = xs) (h5 : xs.length = n * sz) : Sat W w (row (.slice (some ⟨g, 0, none⟩) n cap) T sz n xs * F) :=
  h.mono (star_mono (row_of_pt h1 h2 h3 h4 h5) (fun _ e => e))
theorem Sat.row_full {W w : World} {g n sz : Nat} {T : TypeId} {cur : List Value} {F : As} (h : Sat W w (pt g cur T * F)) (h2 : n ≤ maxLen) (h3 : cur.length = n * sz) :
    Sat W w (row (.slice (some ⟨g, 0, none⟩) n n) T sz n cur * F) :=
  h.row_of (Nat.le_refl _) h2 h3 (by rw [← h3, List.take_length]) h3

/-- What an owned slice is, and what its cells hold. -/
theorem Sat.row_open {W w : World} {v : Value} {T : TypeId} {sz n : Nat} {xs : List Value} {F : As} (h : Sat W w (row v T sz n xs * F)) :
    (v = .slice none 0 0 ∧ n = 0 ∧ xs = []) ∨ ∃ g cap, v = .slice (some ⟨g, 0, none⟩) n cap ∧ n ≤ cap ∧ cap ≤ maxLen ∧ g < w.heap.size ∧
      (∀ j, j < n * sz → w.cell? ⟨g, j, none⟩ = xs[j]?) ∧ (∀ j, w.frozen? ⟨g, j, none⟩ = false) := by
  rcases row_cases h with ⟨h1, h2, h3, _⟩ | ⟨g, cap, cur, h1, h2, h3, h4, h5, h6⟩
  · exact .inl ⟨h1, h2, h3⟩
  · refine .inr ⟨g, cap, h1, h2, h3, h6.lt, fun j hj => ?_, h6.frozen⟩
    rw [h6.cell, ← h5, List.getElem?_take, if_pos hj]

theorem Sat.row_set {W w : World} {g cap : Nat} {T : TypeId} {sz n : Nat} {xs : List Value} {F : As} (h : Sat W w (row (.slice (some ⟨g, 0, none⟩) n cap) T sz n xs * F)) (j : Nat) (u : Value) :
    Sat W (w.setCell ⟨g, j, none⟩ u) (row (.slice (some ⟨g, 0, none⟩) n cap) T sz n (xs.set j u) * F) := by
  have hlen := h.row_len
  rcases row_cases h with ⟨h1, _⟩ | ⟨g', cap', cur, h1, h2, h3, h4, h5, h6⟩
  · cases h1
  · cases h1
    exact (h6.set j u).row_of h2 h3 (by simpa using h4) (by rw [List.take_set, h5]) (by simpa using hlen)

section
variable {P : Program}
theorem run_append_sat {W w : World} (t ty e : TypeId) (i : TypeInfo) (z : Value) (size bytes : Nat) (ht : P.underlying t = some (.slice e)) (hi : P.info? e = some i) (hz : i.zero = some z)
    (hsize : i.size = size) (hby : i.bytes = bytes) (hzs : z.cells.size = size) (hsz : 0 < size)
    (v : Value) (n : Nat) (xs : List Value) (F : As) (hown : Sat W w (row v e size n xs * F))
    (a : Addr) (m c : Nat) (news : List Value) (hl : news.length = m * size) (hnews : ∀ j u, news[j]? = some u → w.cell? (a.add j) = some u) (h1 : ∀ u ∈ news, u.oneCell' = true)
    (h63 : n + m ≤ maxLen) (hbytes : (n + m) * bytes ≤ 140737488355328) :
    ∃ v' w', (Builtin.append_ #[t, t] ty #[v, .slice (some a) m c]).run P w = .ok v' w' ∧ Sat W w' (row v' e size (n + m) (xs ++ news) * F) := by
  subst hsize
  subst hby
  have hsmall : n + m ≤ 9223372036854775807 := by simp only [maxLen] at h63; omega
  have hxl := hown.row_len
  have hlen : (xs ++ news).length = (n + m) * i.size := by rw [List.length_append, hxl, hl, Nat.add_mul]
  have grown : ∀ (old : Nat), old < n + m → Sat W w F →
      Sat W (w.drew.alloc (.cells (xs.toArray ++ news.toArray ++ Builtin.zeroCells z.cells (grownCap w (n + m) old e - (n + m))) e))
        (row (.slice (some ⟨w.heap.size, 0, none⟩) (n + m) (grownCap w (n + m) old e)) e i.size (n + m) (xs ++ news) * F) := by
    intro old ho hF
    have hge := grownCap_ge w (n + m) old e
    have hcm : grownCap w (n + m) old e ≤ maxLen := grownCap_le_maxLen w (n + m) old e h63
    have hd : (xs.toArray ++ news.toArray ++ Builtin.zeroCells z.cells (grownCap w (n + m) old e - (n + m))) = (xs ++ news ++ (Builtin.zeroCells z.cells (grownCap w (n + m) old e - (n + m))).toList).toArray := by simp
    rw [hd]
    have hs := hF.drew.alloc (xs ++ news ++ (Builtin.zeroCells z.cells (grownCap w (n + m) old e - (n + m))).toList) e
    refine Sat.row_of hs hge hcm ?_ ?_ hlen
    · simp only [List.length_append, Array.length_toList, size_zeroCells, hzs]
      rw [hxl, hl, ← Nat.add_mul, ← Nat.add_mul]
      congr 1
      omega
    · rw [← hlen]; exact List.take_left
  rcases row_cases hown with ⟨rfl, rfl, rfl, hF⟩ | ⟨g, cap, cur, rfl, hnc, hcm, hcs, htake, hpt⟩
  · by_cases hm : m = 0
    · subst hm
      have hn : news = [] := List.eq_nil_of_length_eq_zero (by simpa using hl)
      subst hn
      refine ⟨.slice none 0 0, w, ?_, by simpa using hown⟩
      simp [Builtin.append_, run_underlying ht, sizeOf, typeInfo, hi, Builtin.lenOf, Builtin.firstCells, loadCells, loadCellsFrom]
    · have hr := run_append_nil (P := P) w t ty e i z ht hi hz a m c news hl hnews (by omega) (by omega) (by have hb := hbytes; simp only [Nat.zero_add] at hb; omega)
      have hgr := grown 0 (by omega) hF
      simp only [Nat.zero_add, List.nil_append, Array.empty_append] at hgr ⊢
      exact ⟨_, _, hr, hgr⟩
  · have hg := hpt.blk
    by_cases hroom : n + m ≤ cap
    · have hfit : n * i.size + news.length ≤ cur.toArray.size := by rw [hl, List.size_toArray, hcs, ← Nat.add_mul]; exact Nat.mul_le_mul_right _ hroom
      have hr := run_append_room (P := P) w t ty e i ht hi g n cap cur.toArray hg a m c news hl hnews h1 hroom hfit
      refine ⟨_, _, hr, ?_⟩
      simp only [List.size_toArray] at hfit
      have hset : Sat W (w.setRow g (cur.toArray.toList.take (n * i.size) ++ news ++ cur.toArray.toList.drop (n * i.size + news.length)).toArray) (pt g (cur.take (n * i.size) ++ news ++ cur.drop (n * i.size + news.length)) e * F) := by
        obtain ⟨x, ⟨a', f, d, rfl, ha, hf⟩, hle⟩ := hpt.own
        have ha' : a' = Hp.one g (.cells cur.toArray e (0, 0)) := ha
        subst ha'
        refine ⟨hown.os, hown.tape, hown.output, (Hp.one g (.cells (cur.take (n * i.size) ++ news ++ cur.drop (n * i.size + news.length)).toArray e (0, 0))).un f, ⟨_, f, ?_, rfl, rfl, hf⟩, ?_⟩
        · intro k
          rcases d k with e' | e'
          · left; unfold Hp.one at *; split at e'
            · cases e'
            · rename_i hk; simp [hk]
          · exact .inr e'
        · refine Hp.un_le (one_le.2 ?_) ?_
          · exact setRow_heap w g _ _ e _ hg
          · intro k o e'
            have hk : k ≠ g := by
              rintro rfl
              rcases d k with e2 | e2
              · simp [Hp.one] at e2
              · rw [e2] at e'; cases e'
            show (w.setRow g _).heap[k]? = some o
            rw [setRow_other w g k _ hk]
            exact hle k o (Hp.le_un_right d k o e')
      refine hset.row_of hroom hcm ?_ ?_ hlen
      · simp only [List.length_append, List.length_take, List.length_drop]
        omega
      · rw [htake, ← hlen]
        exact List.take_left
    · have holds : ∀ j u, xs[j]? = some u → w.cell? ((⟨g, 0, none⟩ : Addr).add j) = some u := by
        intro j u hu
        have hadd : (⟨g, 0, none⟩ : Addr).add j = ⟨g, j, none⟩ := by unfold Addr.add; split <;> simp_all
        rw [hadd, hpt.cell]
        rw [← htake, List.getElem?_take] at hu
        split at hu
        · exact hu
        · cases hu
      have hr := run_append_grow (P := P) w t ty e i z ht hi hz ⟨g, 0, none⟩ n cap xs hxl holds a m c news hl hnews (by omega) (by omega) (growslice_fits (by omega) hbytes)
      exact ⟨_, _, hr, grown cap (by omega) hpt.right⟩

theorem wp_append_sat {W w : World} {o : Oper} {a : Act} {K : Act → World → Prop} {Q : Exit → Act → World → Prop} (s x : Operand) (t : TypeId)
    (ho : o.op = .call { callee := .builtin .append, args := #[s, x], argTypes := #[t, t] })
    (e : TypeId) (i : TypeInfo) (z : Value) (size bytes : Nat) (ht : P.underlying t = some (.slice e)) (hi : P.info? e = some i) (hz : i.zero = some z)
    (hsize : i.size = size) (hby : i.bytes = bytes) (hzs : z.cells.size = size) (hsz : 0 < size)
    (v : Value) (n : Nat) (xs : List Value) (F : As) (hs : a.eval s = v) (hown : Sat W w (row v e size n xs * F))
    (ad : Addr) (m c : Nat) (news : List Value) (hx : a.eval x = .slice (some ad) m c) (hl : news.length = m * size) (hnews : ∀ j u, news[j]? = some u → w.cell? (ad.add j) = some u) (h1 : ∀ u ∈ news, u.oneCell' = true)
    (h63 : n + m ≤ maxLen) (hbytes : (n + m) * bytes ≤ 140737488355328)
    (h : ∀ v' w', Sat W w' (row v' e size (n + m) (xs ++ news) * F) → K (a.put o.dst v') w') : o.wp P a w K Q := by
  obtain ⟨v', w', hr, h2⟩ := run_append_sat (P := P) t o.type e i z size bytes ht hi hz hsize hby hzs hsz v n xs F hown ad m c news hl hnews h1 h63 hbytes
  unfold Oper.wp execOp
  simp only [ho, resolve, invoke, builtin, Sem.run_bind, Sem.run_pure, Result.andThen_ok, List.map_toArray, List.map_cons, List.map_nil, hs, hx, hr]
  exact h v' w' h2

theorem wpList_append_sat {W w : World} {ops : Array Oper} {rest : List Oper} {o : Oper} {a : Act} {Q : Exit → Act → World → Prop} (hgd : o.guard = none) (s x : Operand) (t : TypeId)
    (ho : o.op = .call { callee := .builtin .append, args := #[s, x], argTypes := #[t, t] })
    (e : TypeId) (i : TypeInfo) (z : Value) (size bytes : Nat) (ht : P.underlying t = some (.slice e)) (hi : P.info? e = some i) (hz : i.zero = some z)
    (hsize : i.size = size) (hby : i.bytes = bytes) (hzs : z.cells.size = size) (hsz : 0 < size)
    (v : Value) (n : Nat) (xs : List Value) (F : As) (hs : a.eval s = v) (hown : Sat W w (row v e size n xs * F))
    (ad : Addr) (m c : Nat) (news : List Value) (hx : a.eval x = .slice (some ad) m c) (hl : news.length = m * size) (hnews : ∀ j u, news[j]? = some u → w.cell? (ad.add j) = some u) (h1 : ∀ u ∈ news, u.oneCell' = true)
    (h63 : n + m ≤ maxLen) (hbytes : (n + m) * bytes ≤ 140737488355328)
    (h : ∀ v' w', Sat W w' (row v' e size (n + m) (xs ++ news) * F) → wpList P ops Q rest (a.put o.dst v') w') : wpList P ops Q (o :: rest) a w :=
  wpList_plain hgd fun _ hK => wp_append_sat s x t ho e i z size bytes ht hi hz hsize hby hzs hsz v n xs F hs hown ad m c news hx hl hnews h1 h63 hbytes fun v' w' h2 => hK _ _ (h v' w' h2)
end

end Go.Sl
