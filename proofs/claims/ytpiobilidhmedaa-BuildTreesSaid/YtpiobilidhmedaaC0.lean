/-
  Whole arrays by value, in and out of owned blocks: alloc, box, load, store of an array of any size as one step each.
-/
import Derived.Test.YtpiobilidhmedaaE2
import Derived.Deep.WholeRow
namespace Go.Sl
open Go Go.RowKit
set_option linter.unusedVariables false
set_option linter.unusedSimpArgs false
theorem Sat.setRow {W w : World} {b : Nat} {vs : List Value} {T : TypeId} {F : As} (h : Sat W w (pt b vs T * F)) (us : List Value) :
    Sat W (w.setRow b us.toArray) (pt b us T * F) := by
  have hb := h.blk
  obtain ⟨x, ⟨a, f, d, rfl, ha, hf⟩, hl⟩ := h.own
  have ha' : a = Hp.one b (.cells vs.toArray T (0, 0)) := ha
  subst ha'
  refine ⟨h.os, h.tape, h.output, (Hp.one b (.cells us.toArray T (0, 0))).un f, ⟨_, f, ?_, rfl, rfl, hf⟩, ?_⟩
  · intro k
    rcases d k with e | e
    · left; unfold Hp.one at *; split at e
      · cases e
      · rename_i hk; simp [hk]
    · exact .inr e
  · refine Hp.un_le (one_le.2 ?_) ?_
    · exact setRow_heap w b _ _ T (0, 0) hb
    · intro k o e
      have hk : k ≠ b := by
        rintro rfl
        rcases d k with e' | e'
        · simp [Hp.one] at e'
        · rw [e'] at e; cases e
      show (w.setRow b us.toArray).heap[k]? = some o
      rw [setRow_other _ _ _ _ hk]
      exact hl k o (Hp.le_un_right d k o e)

section
variable {P : Program}
/-- A new variable of a type, whatever its size. -/
theorem wpList_alloc_sat {W w : World} {ops : Array Oper} {rest : List Oper} {o : Oper} {a : Act} {Q : Exit → Act → World → Prop} (hg : o.guard = none) (t : TypeId) (hop : o.op = Op.alloc t)
    (z : List Value) (size bytes : Nat) (hinfo : (P.info? t).map (fun i => (i.zero, i.size, i.bytes)) = some (some (.agg z.toArray), size, bytes)) (F : As) (hS : Sat W w F)
    (h : ∀ w', Sat W w' (pt w.heap.size z t * F) → wpList P ops Q rest (a.put o.dst (.pointer (some ⟨w.heap.size, 0, none⟩))) w') : wpList P ops Q (o :: rest) a w := by
  obtain ⟨i, hi, hz0, hsz, hby⟩ := info_parts hinfo
  refine wpList_plain hg fun K hK' => ?_
  have hzero : ∀ w, (zeroValue t).run P w = .ok (.agg z.toArray) w := fun w => by simp [zeroValue, typeInfo, hi, hz0]
  unfold Oper.wp
  simp [execOp, hop, Instr.alloc, hzero, newVar, newRow, Result.andThen, Value.cells]
  exact hK' _ _ (h _ (hS.alloc z t))
/-- A boxed value. -/
theorem wpList_box_sat {W w : World} {ops : Array Oper} {rest : List Oper} {o : Oper} {a : Act} {Q : Exit → Act → World → Prop} (hg : o.guard = none) (t : TypeId) (x : Operand) (hop : o.op = Op.box t x)
    (z : List Value) (hx : a.eval x = .agg z.toArray) (F : As) (hS : Sat W w F)
    (h : ∀ w', Sat W w' (pt w.heap.size z t * F) → wpList P ops Q rest (a.put o.dst (.pointer (some ⟨w.heap.size, 0, none⟩))) w') : wpList P ops Q (o :: rest) a w := by
  refine wpList_plain hg fun K hK' => ?_
  unfold Oper.wp
  simp [execOp, hop, Instr.box, hx, newVar, newRow, Result.andThen, Value.cells]
  exact hK' _ _ (h _ (hS.alloc z t))
/-- A whole variable. -/
theorem wpList_load_sat {W w : World} {ops : Array Oper} {rest : List Oper} {o : Oper} {a : Act} {Q : Exit → Act → World → Prop} (hg : o.guard = none) (t : TypeId) (x : Operand) (hop : o.op = Op.load t x)
    (n : Nat) (e : TypeId) (ht : P.underlying t = some (.array n e)) (z : Option Value) (size bytes : Nat) (hinfo : (P.info? t).map (fun i => (i.zero, i.size, i.bytes)) = some (z, size, bytes))
    (b : Nat) (cs : List Value) (T : TypeId) (hx : a.eval x = .pointer (some ⟨b, 0, none⟩)) (hl : cs.length = size) (F : As) (hS : Sat W w (pt b cs T * F))
    (h : wpList P ops Q rest (a.put o.dst (.agg cs.toArray)) w) : wpList P ops Q (o :: rest) a w := by
  refine wpList_plain hg fun K hK' => ?_
  have hi : (P.info? t).map (·.size) = some cs.toArray.size := by
    cases hq : P.info? t with
    | none => rw [hq] at hinfo; cases hinfo
    | some i => rw [hq] at hinfo; simp at hinfo ⊢; omega
  have hrun := run_loadVar_row (P := P) w b T t cs.toArray (0, 0) _ hS.blk ht rfl hi
  unfold Oper.wp
  simp [execOp, hop, Instr.loadAt, Instr.sureAddr, hx, hrun, Result.andThen]
  exact hK' _ _ h
/-- A store of a whole variable. -/
theorem wpList_store_sat {W w : World} {ops : Array Oper} {rest : List Oper} {o : Oper} {a : Act} {Q : Exit → Act → World → Prop} (hg : o.guard = none) (t : TypeId) (x y : Operand) (hop : o.op = Op.store t x y) (hd : o.dst = none)
    (z : Option Value) (size bytes : Nat) (hinfo : (P.info? t).map (fun i => (i.zero, i.size, i.bytes)) = some (z, size, bytes))
    (b : Nat) (cs us : List Value) (T : TypeId) (hx : a.eval x = .pointer (some ⟨b, 0, none⟩)) (hy : a.eval y = .agg us.toArray) (hl : cs.length = size) (hu : us.length = size) (h1 : us.all (·.oneCell') = true) (F : As) (hS : Sat W w (pt b cs T * F))
    (h : ∀ w', Sat W w' (pt b us T * F) → wpList P ops Q rest a w') : wpList P ops Q (o :: rest) a w := by
  refine wpList_plain hg fun K hK' => ?_
  have hi : (P.info? t).map (·.size) = some us.toArray.size := by
    cases hq : P.info? t with
    | none => rw [hq] at hinfo; cases hinfo
    | some i => rw [hq] at hinfo; simp at hinfo ⊢; omega
  have hrun := run_storeVar_row (P := P) w b T t cs.toArray us.toArray hS.blk hi (by simp; omega) (by simpa using h1)
  unfold Oper.wp
  simp [execOp, hop, Instr.storeAt, Instr.sureAddr, hx, hy, hrun, Result.andThen]
  have e : a.put o.dst undef = a := by rw [hd]; rfl
  show K (a.put o.dst undef) (w.setRow b us.toArray)
  rw [e]
  exact hK' _ _ (h _ (hS.setRow us))
end
end Go.Sl
namespace Go.Proofs.Ytpiobilidhmedaa
open Go.RowKit Go.Sl Go.Ct
/-- A page. -/
structure Pg where
  m : Bool
  a : At
def Pg.cells (x : Pg) : List Value := [.bool x.m, .int .i64 x.a.p, .bool x.a.sh, .int .i64 x.a.b, .int .i64 x.a.o]
def Pg.none_ : Pg := ⟨false, ⟨0, false, 0, 0⟩⟩
/-- 512 pages. -/
def pgs (f : Nat → Pg) : List Value := (List.range 512).flatMap fun k => (f k).cells
def zeros177 : List Value := List.flatten (List.replicate 512 [.bool false, .int .i64 0, .bool false, .int .i64 0, .int .i64 0])
theorem info177 : (Try.prog.info? 177).map (fun i => (i.zero, i.size, i.bytes)) = some (some (.agg zeros177.toArray), 2560, 20480) := by kernel_rfl
theorem zeros177_eq : zeros177 = pgs (fun _ => Pg.none_) := by
  unfold zeros177 pgs
  rw [List.flatMap_def]
  refine congrArg List.flatten (List.ext_getElem? fun i => ?_)
  simp only [List.getElem?_replicate, List.getElem?_map]
  by_cases h : i < 512 <;> simp [h, Pg.cells, Pg.none_]
theorem flat5_length (g : Nat → List Value) (hg : ∀ k, (g k).length = 5) (n : Nat) : ((List.range n).flatMap g).length = n * 5 := by
  induction n with
  | zero => simp
  | succ n ih => rw [List.range_succ, List.flatMap_append, List.length_append, ih]; simp [hg]; omega
theorem pgs_length (f : Nat → Pg) : (pgs f).length = 2560 := flat5_length _ (fun _ => rfl) 512
theorem pgs_one (f : Nat → Pg) : (pgs f).all (·.oneCell') = true := by
  rw [List.all_eq_true]
  intro v hv
  simp only [pgs, List.mem_flatMap] at hv
  obtain ⟨k, _, hk⟩ := hv
  simp only [Pg.cells, List.mem_cons, List.not_mem_nil, or_false] at hk
  rcases hk with rfl | rfl | rfl | rfl | rfl <;> rfl
theorem flat5_get (g : Nat → List Value) (hg : ∀ k, (g k).length = 5) (n k j : Nat) (hk : k < n) (hj : j < 5) : ((List.range n).flatMap g)[k * 5 + j]? = (g k)[j]? := by
  induction n with
  | zero => omega
  | succ n ih =>
    have hlen := flat5_length g hg n
    rw [List.range_succ, List.flatMap_append]
    by_cases h : k < n
    · rw [List.getElem?_append_left (by omega), ih h]
    · have : k = n := by omega
      subst this
      rw [List.getElem?_append_right (by omega), hlen]
      simp
theorem pgs_get (f : Nat → Pg) (k j : Nat) (hk : k < 512) (hj : j < 5) : (pgs f)[k * 5 + j]? = (f k).cells[j]? := flat5_get _ (fun _ => rfl) 512 k j hk hj
theorem pgs_set (f : Nat → Pg) (k : Nat) (hk : k < 512) (x : Pg) :
    (((((pgs f).set (k * 5) (.bool x.m)).set (k * 5 + 1) (.int .i64 x.a.p)).set (k * 5 + 2) (.bool x.a.sh)).set (k * 5 + 3) (.int .i64 x.a.b)).set (k * 5 + 4) (.int .i64 x.a.o) = pgs (fun i => if i = k then x else f i) := by
  apply List.ext_getElem?
  intro i
  by_cases hi : i < 2560
  · have hq : i = (i / 5) * 5 + i % 5 := by omega
    generalize i / 5 = q at hq
    generalize hr : i % 5 = r at hq
    have hr5 : r < 5 := by omega
    subst hq
    rw [pgs_get _ q r (by omega) hr5]
    have hl := pgs_length f
    simp only [List.getElem?_set, List.length_set, hl]
    by_cases hqk : q = k
    · subst hqk
      have : r = 0 ∨ r = 1 ∨ r = 2 ∨ r = 3 ∨ r = 4 := by omega
      rcases this with rfl | rfl | rfl | rfl | rfl <;> simp [Pg.cells] <;> omega
    · have n0 : ∀ j, j < 5 → ¬ k * 5 + j = q * 5 + r := by intro j hj; omega
      have n1 : ¬ k * 5 = q * 5 + r := by omega
      simp only [n0 1 (by omega), n0 2 (by omega), n0 3 (by omega), n0 4 (by omega), n1, if_false, hqk]
      exact pgs_get f q r (by omega) hr5
  · rw [List.getElem?_eq_none (by simp [pgs_length]; omega), List.getElem?_eq_none (by simp [pgs_length]; omega)]
end Go.Proofs.Ytpiobilidhmedaa
