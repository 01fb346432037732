/-
  What samararef07.Of answers of one formed area: its pages.
-/
import Derived.Test.YtpiobilidhmedaaC0
import Derived.Laws.CopyRow
namespace Go.Sl
open Go Go.RowKit
section
variable {P : Program}
/-- A store of a part of an owned block. -/
theorem wpList_store_part {W w : World} {ops : Array Oper} {rest : List Oper} {o : Oper} {a : Act} {Q : Exit → Act → World → Prop} (hg : o.guard = none) (t : TypeId) (x y : Operand) (hop : o.op = Op.store t x y) (hd : o.dst = none)
    (z : Option Value) (size bytes : Nat) (hinfo : (P.info? t).map (fun i => (i.zero, i.size, i.bytes)) = some (z, size, bytes))
    (b off : Nat) (cs us : List Value) (T : TypeId) (hx : a.eval x = .pointer (some ⟨b, off, none⟩)) (hy : a.eval y = .agg us.toArray) (hfit : off + size ≤ cs.length) (hu : us.length = size) (h1 : us.all (·.oneCell') = true) (F : As) (hS : Sat W w (pt b cs T * F))
    (h : ∀ w', Sat W w' (pt b (cs.take off ++ us ++ cs.drop (off + size)) T * F) → wpList P ops Q rest a w') : wpList P ops Q (o :: rest) a w := by
  refine wpList_plain hg fun K hK' => ?_
  have hrun : (storeVar t ⟨b, off, none⟩ (.agg us.toArray)).run P w = .ok () (w.setRow b (cs.take off ++ us ++ cs.drop (off + size)).toArray) := by
    have := run_storeCells_at (P := P) b off T us 0 cs.toArray w hS.blk (by simp; omega) (fun v hv => (List.all_eq_true.1 h1) v hv)
    cases hq : P.info? t with
    | none => rw [hq] at hinfo; cases hinfo
    | some i =>
      rw [hq] at hinfo
      have hs : us.length = i.size := by simp at hinfo; omega
      simp [storeVar, sizeOf, typeInfo, hq, Value.cells, hs, this]
      simp at hinfo
      rw [hinfo.2.1]
  unfold Oper.wp
  simp [execOp, hop, Instr.storeAt, Instr.sureAddr, hx, hy, hrun, Result.andThen]
  have e : a.put o.dst undef = a := by rw [hd]; rfl
  show K (a.put o.dst undef) _
  rw [e]
  refine hK' _ _ (h _ ?_)
  have := hS.setRow (cs.take off ++ us ++ cs.drop (off + size))
  simpa using this
/-- A part of an owned block that a variable of struct type takes. -/
theorem wpList_load_part {W w : World} {ops : Array Oper} {rest : List Oper} {o : Oper} {a : Act} {Q : Exit → Act → World → Prop} (hg : o.guard = none) (t : TypeId) (x : Operand) (hop : o.op = Op.load t x)
    (fs : Array Field) (ht : P.underlying t = some (.struct fs)) (z : Option Value) (size bytes : Nat) (hinfo : (P.info? t).map (fun i => (i.zero, i.size, i.bytes)) = some (z, size, bytes))
    (b off : Nat) (cs us : List Value) (T : TypeId) (hx : a.eval x = .pointer (some ⟨b, off, none⟩)) (hu : us.length = size) (hget : ∀ j, j < size → cs[off + j]? = us[j]?) (F : As) (hS : Sat W w (pt b cs T * F))
    (h : wpList P ops Q rest (a.put o.dst (.agg us.toArray)) w) : wpList P ops Q (o :: rest) a w := by
  refine wpList_plain hg fun K hK' => ?_
  have hrun : (loadVar t ⟨b, off, none⟩).run P w = .ok (.agg us.toArray) w := by
    have := run_loadCells_list (P := P) w ⟨b, off, none⟩ us (fun j v hv => by
      have hadd : (⟨b, off, none⟩ : Addr).add j = ⟨b, off + j, none⟩ := by unfold Addr.add; split <;> simp_all
      have hj := (List.getElem?_eq_some_iff.1 hv).1
      rw [hadd, hS.cell, hget j (by omega), hv])
    cases hq : P.info? t with
    | none => rw [hq] at hinfo; cases hinfo
    | some i =>
      rw [hq] at hinfo
      have hs : us.length = i.size := by simp at hinfo; omega
      simp [loadVar, isAgg, Go.underlying, ht, sizeOf, typeInfo, hq, ← hs, this]
  unfold Oper.wp
  simp [execOp, hop, Instr.loadAt, Instr.sureAddr, hx, hrun, Result.andThen]
  exact hK' _ _ h
end
end Go.Sl
namespace Go.Proofs.Ytpiobilidhmedaa
open Go.RowKit Go.Sl Go.Ct
set_option linter.unusedVariables false
set_option linter.unusedSimpArgs false

theorem info175 : (Try.prog.info? 175).map (fun i => (i.zero, i.size, i.bytes)) = some (some (.agg #[.bool false, .int .i64 0, .bool false, .int .i64 0, .int .i64 0]), 5, 40) := by kernel_rfl
theorem pgs_put (f : Nat → Pg) (k : Nat) (hk : k < 512) (x : Pg) : (pgs f).take (k * 5) ++ x.cells ++ (pgs f).drop (k * 5 + 5) = pgs (fun i => if i = k then x else f i) := by
  rw [← pgs_set f k hk x]
  have hl := pgs_length f
  apply List.ext_getElem?
  intro i
  simp only [List.append_assoc, List.getElem?_append, List.length_take, List.getElem?_set, List.length_set, hl, List.getElem?_take, List.getElem?_drop]
  rw [Nat.min_eq_left (by omega)]
  have hc : x.cells.length = 5 := rfl
  rw [hc]
  by_cases h1 : i < k * 5
  · have : ¬ k * 5 = i := by omega
    have h2 : ¬ k * 5 + 1 = i := by omega
    have h3 : ¬ k * 5 + 2 = i := by omega
    have h4 : ¬ k * 5 + 3 = i := by omega
    have h5 : ¬ k * 5 + 4 = i := by omega
    simp [h1, this, h2, h3, h4, h5]
  · by_cases h6 : i < k * 5 + 5
    · have : i = k * 5 ∨ i = k * 5 + 1 ∨ i = k * 5 + 2 ∨ i = k * 5 + 3 ∨ i = k * 5 + 4 := by omega
      rcases this with rfl | rfl | rfl | rfl | rfl <;> simp [Pg.cells] <;> first | omega | (rw [if_neg (by omega), if_pos (by omega)])
    · have : ¬ k * 5 = i := by omega
      have h2 : ¬ k * 5 + 1 = i := by omega
      have h3 : ¬ k * 5 + 2 = i := by omega
      have h4 : ¬ k * 5 + 3 = i := by omega
      have h5 : ¬ k * 5 + 4 = i := by omega
      have h7 : ¬ i - k * 5 < 5 := by omega
      have h8 : k * 5 + 5 + (i - k * 5 - 5) = i := by omega
      simp [h1, this, h2, h3, h4, h5, h7, h8]
/-- The pages of an area from s/4096 up to p, in a page map. -/
def ofTo (x : Ar) (p : Int) (k : Nat) : Pg := if x.s / 4096 ≤ (k : Int) ∧ (k : Int) < p then ⟨true, x.attr k⟩ else Pg.none_
def ofP (x : Ar) : Nat → Pg := ofTo x (x.e / 4096)
theorem ofTo_start (x : Ar) : ofTo x (x.s / 4096) = fun _ => Pg.none_ := by
  funext k; unfold ofTo; rw [if_neg (by omega)]
theorem ofTo_next (x : Ar) (k : Nat) (h : x.s / 4096 ≤ (k : Int)) : (fun i => if i = k then ⟨true, x.attr k⟩ else ofTo x k i) = ofTo x ((k : Int) + 1) := by
  funext i
  unfold ofTo
  by_cases hi : i = k
  · subst hi; rw [if_pos rfl, if_pos (by omega)]
  · rw [if_neg hi]
    by_cases h2 : x.s / 4096 ≤ (i : Int) ∧ (i : Int) < k
    · rw [if_pos h2, if_pos (by omega)]
    · rw [if_neg h2, if_neg (by omega)]
def PgsPost (f : Nat → Pg) (w : World) (e : Ending) (w' : World) : Prop := e = .returned (.agg (pgs f).toArray) ∧ Sat w w' (Old w)

set_option maxRecDepth 100000 in
set_option maxHeartbeats 8000000 in
theorem of_calls (b o c : Nat) (x : Ar) (w : World) (hA : Rd Ar.cells 6 w (some ⟨b, o, none⟩) [x]) (hok : x.Ok) :
    Calls Try.prog 95 #[.slice (some ⟨b, o, none⟩) 1 c] w (PgsPost (ofP x) w) := by
  have hS := Sat.refl w
  have hok2 := hok
  obtain ⟨k1, k2, k3, k4, k5, k6, k7, k8, k9, k10, k11, k12, k13⟩ := hok
  have HOK := Lib.hid hok2
  have q0 : 0 ≤ x.s := by omega
  have q1 : 0 ≤ x.e := by omega
  have q2 : x.s / 4096 ≤ x.e / 4096 := by omega
  have q3 : x.e / 4096 ≤ 512 := by omega
  have q4 : 16 ≤ x.s / 4096 := by omega
  clear hok2 k1 k2 k3 k4 k5 k6 k7 k8 k9 k10 k11 k12 k13
  go_enter Try.func95, Try.ntmps95
  go_wp2_with (first
    | (refine wpList_alloc_sat rfl 177 rfl zeros177 2560 20480 info177 _ hS ?_; rw [zeros177_eq]; intro w1 hS1; clear hS)
    | (refine wpList_alloc_sat rfl 177 rfl zeros177 2560 20480 info177 _ hS1 ?_; rw [zeros177_eq]; intro w2 hS2; clear hS1))
  generalize w.heap.size = r at *
  generalize w1.heap.size = g at *
  go_loopg [4] 2 (fun gk v4 w' => (gk = 2 ∧ v4 = .int .i64 0 ∧ Sat w w' (pt g (pgs fun _ => Pg.none_) 177 * (pt r (pgs fun _ => Pg.none_) 177 * Old w))) ∨ (gk = 1 ∧ v4 = .int .i64 1 ∧ Sat w w' (pt g (pgs (ofP x)) 177 * (pt r (pgs fun _ => Pg.none_) 177 * Old w))))
  case atStart => exact .inl ⟨rfl, rfl, hS2⟩
  case round =>
    clear hS2
    rcases hrel with ⟨rfl, rfl, hR⟩ | ⟨rfl, rfl, hR⟩
    · have hr1 := hA.below (sz := 6) (fun _ => rfl) hR.right.right.below0
      obtain ⟨c0, c1, c2, c3, c4, c5⟩ := hr1.area (k := 0) (x := x) rfl
      simp only [Nat.zero_mul, Nat.add_zero] at c0 c1 c2 c3 c4 c5
      go_wp2
      clear hr1 c0 c1 c2 c3 c4 c5
      go_loopg [5] (x.e / 4096 - x.s / 4096).toNat (fun gk v5 w' => ∃ p : Nat, (p : Int) + (gk : Int) = x.e / 4096 ∧ x.s / 4096 ≤ (p : Int) ∧ v5 = .int .i64 p ∧ Sat w w' (pt g (pgs (ofTo x p)) 177 * (pt r (pgs fun _ => Pg.none_) 177 * Old w)))
      case atStart =>
        refine ⟨(x.s / 4096).toNat, by omega, by omega, by go_num, ?_⟩
        rw [Int.toNat_of_nonneg (by omega), ofTo_start]
        exact hR
      case round =>
        clear hR
        obtain ⟨p, hgk, hp, rfl, hR⟩ := hrel
        have HG := Lib.hid hgk
        have hpe : (p : Int) ≤ x.e / 4096 := by omega
        clear hgk
        have hr1 := hA.below (sz := 6) (fun _ => rfl) hR.right.right.below0
        obtain ⟨c0, c1, c2, c3, c4, c5⟩ := hr1.area (k := 0) (x := x) rfl
        simp only [Nat.zero_mul, Nat.add_zero] at c0 c1 c2 c3 c4 c5
        by_cases hlt : (p : Int) < x.e / 4096
        · have hp5 : p < 512 := by omega
          have hp5' : (p : Int) < 512 := by omega
          go_wp2_with (first
            | (go_at_call 101; (with_reducible refine (attr_calls x p _ HOK.out hp hlt).mono ?_); rintro e w3 ⟨xo, rfl, rfl, hk⟩; have hS3 := hR.call0 hk; clear hk c0 c1 c2 c3 c4 c5)
            | (refine wpList_store_part rfl 175 _ _ rfl rfl _ 5 40 info175 g (p * 5) _ (Pg.cells ⟨true, x.attr p⟩) 177 rfl rfl (by rw [pgs_length]; omega) rfl rfl _ (hS3.alloc_any _) ?_; rw [pgs_put _ _ hp5, ofTo_next x p hp]; intro w4 hS4))
          go_roundg (gk - 1)
          case measure => have := HG.out; omega
          case rel => exact ⟨p + 1, by have := HG.out; omega, by omega, by go_num, hS4⟩
        · go_wp2
          have hpx : (p : Int) = x.e / 4096 := by omega
          rw [hpx] at hR
          go_roundg 1
          case measure => omega
          case rel => exact .inr ⟨rfl, by go_num, hR⟩
    · go_wp2_with (first
        | (refine wpList_load_sat rfl 177 _ rfl 512 175 Try.underlying177 _ 2560 20480 info177 g _ 177 rfl (pgs_length _) _ hR ?_)
        | (refine wpList_store_sat rfl 177 _ _ rfl rfl _ 2560 20480 info177 r _ (pgs (ofP x)) 177 rfl rfl (pgs_length _) (pgs_length _) (pgs_one _) _ hR.rot ?_; intro w3 hS3))
      have hrun := run_loadVar_row (P := Try.prog) w3 r 177 177 (pgs (ofP x)).toArray (0, 0) _ hS3.blk Try.underlying177 rfl (by
        have := info177
        cases hq : Try.prog.info? 177 with
        | none => rw [hq] at this; cases this
        | some i => rw [hq] at this; simp at this; simp [this.2.1, pgs_length])
      refine bodyPost_ret (v := .agg (pgs (ofP x)).toArray) ?_ rfl ⟨rfl, hS3.right.right⟩
      simp [results, Try.results95, asAddr, hrun, Result.andThen]
end Go.Proofs.Ytpiobilidhmedaa
