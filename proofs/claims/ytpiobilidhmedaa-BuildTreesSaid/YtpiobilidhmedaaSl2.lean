/-
  More of the logic of owned blocks: an element appended that has just been laid into a new block; the element types of this program.
-/
import Derived.Test.YtpiobilidhmedaaProg
import Derived.Test.YtpiobilidhmedaaSl
import Derived.KernelRfl
namespace Go.Sl
open Go Go.RowKit
section
variable {P : Program}
/-- One element more, that has just been laid into a new block. -/
theorem wpList_append_new {W w : World} {ops : Array Oper} {rest : List Oper} {o : Oper} {a : Act} {Q : Exit → Act → World → Prop} (hgd : o.guard = none) (s x : Operand) (t : TypeId)
    (ho : o.op = .call { callee := .builtin .append, args := #[s, x], argTypes := #[t, t] })
    (e : TypeId) (z : Value) (size bytes : Nat) (ht : P.underlying t = some (.slice e)) (hinfo : (P.info? e).map (fun i => (i.zero, i.size, i.bytes)) = some (some z, size, bytes))
    (hzs : z.cells.size = size) (hsz : 0 < size)
    (v : Value) (n : Nat) (xs : List Value) (F : As) (hs : a.eval s = v) (hown : Sat W w (row v e size n xs * F))
    (g : Nat) (cs : List Value) (hx : a.eval x = .slice (some ⟨g, 0, none⟩) 1 1) (hl : cs.length = size) (hb : w.heap[g]? = some (.cells cs.toArray e (0, 0))) (h1 : ∀ u ∈ cs, u.oneCell' = true)
    (h63 : n + 1 ≤ 1000000000000) (hbytes : (n + 1) * bytes ≤ 140737488355328)
    (h : ∀ v' w', Sat W w' (row v' e size (n + 1) (xs ++ cs) * F) → wpList P ops Q rest (a.put o.dst v') w') : wpList P ops Q (o :: rest) a w := by
  obtain ⟨i, hi, hz0, hz1, hz2⟩ := info_parts hinfo
  refine wpList_append_sat hgd s x t ho e i z size bytes ht hi hz0 hz1 hz2 hzs hsz v n xs F hs hown ⟨g, 0, none⟩ 1 1 cs hx (by rw [hl, Nat.one_mul]) ?_ h1 (by simp only [maxLen]; omega) hbytes h
  intro j u hu
  have hadd : (⟨g, 0, none⟩ : Addr).add j = ⟨g, j, none⟩ := by unfold Addr.add; split <;> simp_all
  rw [hadd]
  simp [World.cell?, hb, hu]
end


section
variable {P : Program}
/-- 'make([]T, n)' of a type of one cell. -/
theorem wpList_make1 {W w : World} {ops : Array Oper} {rest : List Oper} {o : Oper} {a : Act} {Q : Exit → Act → World → Prop} (hg : o.guard = none) (l c : Operand) (t : TypeId) (hop : o.op = Op.makeSlice t l c)
    (e : TypeId) (z : Value) (bytes : Nat) (ht : P.underlying t = some (.slice e)) (hinfo : (P.info? e).map (fun i => (i.zero, i.size, i.bytes)) = some (some z, 1, bytes)) (hz1 : z.cells = #[z])
    (F : As) (hS : Sat W w F) (kl kc : IntKind) (n : Nat) (hl : a.eval l = .int kl n) (hc : a.eval c = .int kc n) (b2 : bytes * n ≤ 281474976710656) (b3 : n ≤ 1000000000000)
    (h : ∀ w', Sat W w' (row (.slice (some ⟨w.heap.size, 0, none⟩) n n) e 1 n (List.replicate n z) * F) → wpList P ops Q rest (a.put o.dst (.slice (some ⟨w.heap.size, 0, none⟩) n n)) w') : wpList P ops Q (o :: rest) a w := by
  obtain ⟨i, hi, hz0, hsz, hby⟩ := info_parts hinfo
  refine wpList_plain hg fun K hK' => ?_
  have hb : (i.bytes : Int) * (n : Int) ≤ 281474976710656 := by
    rw [hby]
    have : ((bytes * n : Nat) : Int) ≤ 281474976710656 := by omega
    rwa [Int.natCast_mul] at this
  have hrun := run_make (P := P) w t e i z ht hi hz0 kl kc n n (by omega) (Int.le_refl _) hb (by omega)
  have hcell : (madeCells z.cells (n * i.size)) = (List.replicate n z).toArray := by
    rw [hsz, Nat.mul_one, hz1]
    apply Array.toList_inj.1
    rw [toList_madeCells_one]
  simp only [Int.toNat_natCast] at hrun
  rw [hcell] at hrun
  unfold Oper.wp
  simp [execOp, hop, hl, hc, hrun, Result.andThen]
  refine hK' _ _ (h _ ?_)
  have hs := hS.alloc (List.replicate n z) e
  simp only [List.toArray_replicate] at hs
  exact hs.row_full (by simp only [maxLen]; omega) (by simp)
end

end Go.Sl
namespace Go.Proofs.Ytpiobilidhmedaa
theorem info2 : (Try.prog.info? 2).map (fun i => (i.zero, i.size, i.bytes)) = some (some (.int .i64 0), 1, 8) := by kernel_rfl
theorem info3 : (Try.prog.info? 3).map (fun i => (i.zero, i.size, i.bytes)) = some (some (.int .i64 0), 1, 8) := by kernel_rfl
theorem info31 : (Try.prog.info? 31).map (fun i => (i.zero, i.size, i.bytes)) = some (some (.agg #[.int .i64 0, .int .i64 0, .int .i64 0]), 3, 24) := by kernel_rfl
theorem info130 : (Try.prog.info? 130).map (fun i => (i.zero, i.size, i.bytes)) = some (some (.agg #[.int .i64 0, .int .i64 0, .int .i64 0, .bool false, .int .i64 0, .int .i64 0]), 6, 48) := by kernel_rfl
end Go.Proofs.Ytpiobilidhmedaa
