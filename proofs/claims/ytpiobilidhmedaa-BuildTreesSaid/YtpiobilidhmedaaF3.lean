/-
  What slot.Formed and samararef15.Formed answer of a formed node: true; what slot.Largest answers of one.
-/
import Derived.Test.YtpiobilidhmedaaF2
namespace Go.Proofs.Ytpiobilidhmedaa
open Go.RowKit Go.Sl Go.Ct
set_option linter.unusedVariables false
set_option linter.unusedSimpArgs false

/-- An entry of a node, that begins at a place. -/
structure EntOk (inner : Bool) (f e s g : Int) : Prop where
  lt : f < e
  le : e ≤ 2097152
  al : e % 4096 = 0
  s0 : 0 ≤ s
  inn : inner = true → 0 < s ∧ 0 ≤ g ∧ g ≤ e - f
  leaf : inner = false → g = if s = 0 then e - f else 0
/-- Where an entry begins. -/
def Nd.start (n : Nd) : Nat → Int
  | 0 => n.lo
  | j + 1 => n.ends.getD j 0
/-- A formed node. -/
structure Fm (n : Nd) : Prop where
  k1 : 1 ≤ n.ends.length
  k8 : n.ends.length ≤ 8
  ks : n.slots.length = n.ends.length
  kg : n.gaps.length = n.ends.length
  lo1 : 65536 ≤ n.lo
  loal : n.lo % 4096 = 0
  ent : ∀ i e s g, n.ends[i]? = some e → n.slots[i]? = some s → n.gaps[i]? = some g → EntOk n.inner (n.start i) e s g
theorem Fm.at {n : Nd} (h : Fm n) {i : Nat} (hi : i < n.ends.length) : ∃ e s g, n.ends[i]? = some e ∧ n.slots[i]? = some s ∧ n.gaps[i]? = some g ∧ EntOk n.inner (n.start i) e s g := by
  have h1 := h.ks
  have h2 := h.kg
  exact ⟨n.ends[i], n.slots[i], n.gaps[i], by simp, by simp, by simp, h.ent i _ _ _ (by simp) (by simp) (by simp)⟩
theorem Fm.start_ge {n : Nd} (h : Fm n) (i : Nat) (hi : i ≤ n.ends.length) : 65536 ≤ n.start i ∧ n.start i ≤ 2097152 ∨ i = 0 := by
  induction i with
  | zero => exact .inr rfl
  | succ i ih =>
    left
    obtain ⟨e, s, g, h1, _, _, h4⟩ := h.at (i := i) (by omega)
    have : n.start (i + 1) = e := by simp [Nd.start, List.getD_eq_getElem?_getD, h1]
    rw [this]
    have := h4.lt
    have := h4.le
    rcases ih (by omega) with h5 | h5
    · omega
    · subst h5
      have : n.start 0 = n.lo := rfl
      have := h.lo1
      omega
theorem Fm.start_bd {n : Nd} (h : Fm n) (i : Nat) (hi : i ≤ n.ends.length) : 65536 ≤ n.start i ∧ n.start i ≤ 2097152 := by
  rcases h.start_ge i hi with h1 | h1
  · exact h1
  · subst h1
    have h2 : n.start 0 = n.lo := rfl
    obtain ⟨e, s, g, _, _, _, h4⟩ := h.at (i := 0) (by have := h.k1; omega)
    have := h4.lt
    have := h4.le
    have := h.lo1
    omega

/-- A node's value. -/
def nv (n : Nd) (A1 A2 A3 : Option Addr) (c1 c2 c3 : Nat) : List Value := [.bool n.inner, .int .i64 n.lo, .slice A1 n.ends.length c1, .slice A2 n.slots.length c2, .slice A3 n.gaps.length c3]

set_option maxRecDepth 100000 in
set_option maxHeartbeats 4000000 in
theorem entry_calls (n : Nd) (A1 A2 A3 : Option Addr) (c1 c2 c3 : Nat) (i : Nat) (f e s g : Int) (w : World) (h1 : n.ends[i]? = some e) (h2 : n.slots[i]? = some s) (h3 : n.gaps[i]? = some g)
    (ok : EntOk n.inner f e s g) (hf1 : 65536 ≤ f) (hf2 : f ≤ 2097152) (rA1 : Rd encI 1 w A1 n.ends) (rA2 : Rd encI 1 w A2 n.slots) (rA3 : Rd encI 1 w A3 n.gaps) :
    Calls Try.prog 123 #[.agg #[.bool n.inner, .int .i64 n.lo, .slice A1 n.ends.length c1, .slice A2 n.slots.length c2, .slice A3 n.gaps.length c3], .int .i64 i, .int .i64 f] w (TruePost w) := by
  have hS := ((Sat.refl w).alloc (nv n A1 A2 A3 c1 c2 c3) 43)
  unfold nv at hS
  have l1 := (List.getElem?_eq_some_iff.1 h1).1
  have l2 := (List.getElem?_eq_some_iff.1 h2).1
  have l3 := (List.getElem?_eq_some_iff.1 h3).1
  obtain ⟨b1, o1, rfl⟩ := rA1.addr l1
  obtain ⟨b2, o2, rfl⟩ := rA2.addr l2
  obtain ⟨b3, o3, rfl⟩ := rA3.addr l3
  have hb := hS.right.below0
  have p1 := (rA1.below (sz := 1) (fun _ => rfl) hb).num h1
  have p2 := (rA2.below (sz := 1) (fun _ => rfl) hb).num h2
  have p3 := (rA3.below (sz := 1) (fun _ => rfl) hb).num h3
  clear hb
  have g1 : ¬ e ≤ f := by have := ok.lt; omega
  have g2 : 0 ≤ e := by have := ok.lt; omega
  have g2' : e ≤ 2097152 := ok.le
  have g3 : e % 4096 = 0 := ok.al
  have g3' : (e.tmod 4096 == 0) = true := by rw [tmod4b, beq_iff_eq]; exact g3
  have g4 : ¬ s < 0 := by have := ok.s0; omega
  have hin := ok.inn
  have hlf := ok.leaf
  have HI := Lib.hid hin
  have HL := Lib.hid hlf
  clear hin hlf ok h1 h2 h3
  generalize n.inner = inn at *
  cases inn with
  | true =>
    obtain ⟨i1, i2, i3⟩ := HI.out rfl
    have g5 : (s == 0) = false := by rw [beq_eq_false_iff_ne]; omega
    have g6 : g ≤ e - f := i3
    go_enter Try.func123, Try.ntmps123
    go_wp2
    refine wp_region_ct (.rd 0 (.rd 1 (.rd 2 (.rd 3 (.rd 4 (.rd 5 (.rd 6 (.rd 7 (.rd 8 (.rd 9 (.rd 10 (.rd 11 (.rd 12 (.rd 13 (.rd 14 (.rd 15 (.rd 16 (.rd 17 .fin)))))))))))))))))) 68 mixed (by kernel_rfl) (Nat.le_refl _) (fun c a a' w e h => ⟨e ▸ h.1, h.2⟩) ?_
    repeat' (first | (refine wpC_rdp rfl rfl (fun K hK => ?_); go_simp; (try go_bits)) | (refine wpC_rdg rfl rfl rfl (fun K hK => ?_); go_simp; (try go_bits)) | (refine hK _ ?_; clear hK K))
    refine wpC_fin ?_
    go_wp2
    go_ret
    exact ⟨rfl, hS.drew.right⟩
  | false =>
    have i1 := HL.out rfl
    by_cases hs : s = 0
    · subst hs
      rw [if_pos rfl] at i1
      subst i1
      have g5 : ((0 : Int) == 0) = true := rfl
      have hw : wrap64 (e - f) = e - f := IntWalk.wrap64_in _ (by omega)
      go_enter Try.func123, Try.ntmps123
      go_wp2
      refine wp_region_ct (.rd 0 (.rd 1 (.rd 2 (.rd 3 (.rd 4 (.rd 5 (.rd 6 (.rd 7 (.rd 8 (.rd 9 (.rd 10 (.rd 11 (.rd 12 (.rd 13 (.rd 14 (.rd 15 (.rd 16 (.rd 17 .fin)))))))))))))))))) 68 mixed (by kernel_rfl) (Nat.le_refl _) (fun c a a' w e h => ⟨e ▸ h.1, h.2⟩) ?_
      repeat' (first | (refine wpC_rdp rfl rfl (fun K hK => ?_); go_simp; (try go_bits)) | (refine wpC_rdg rfl rfl rfl (fun K hK => ?_); go_simp; (try go_bits)) | (refine hK _ ?_; clear hK K))
      refine wpC_fin ?_
      go_wp2
      go_ret
      exact ⟨rfl, hS.drew.right⟩
    · rw [if_neg hs] at i1
      subst i1
      have g5 : (s == 0) = false := by rw [beq_eq_false_iff_ne]; exact hs
      go_enter Try.func123, Try.ntmps123
      go_wp2
      refine wp_region_ct (.rd 0 (.rd 1 (.rd 2 (.rd 3 (.rd 4 (.rd 5 (.rd 6 (.rd 7 (.rd 8 (.rd 9 (.rd 10 (.rd 11 (.rd 12 (.rd 13 (.rd 14 (.rd 15 (.rd 16 (.rd 17 .fin)))))))))))))))))) 68 mixed (by kernel_rfl) (Nat.le_refl _) (fun c a a' w e h => ⟨e ▸ h.1, h.2⟩) ?_
      repeat' (first | (refine wpC_rdp rfl rfl (fun K hK => ?_); go_simp; (try go_bits)) | (refine wpC_rdg rfl rfl rfl (fun K hK => ?_); go_simp; (try go_bits)) | (refine hK _ ?_; clear hK K))
      refine wpC_fin ?_
      go_wp2
      go_ret
      exact ⟨rfl, hS.drew.right⟩
end Go.Proofs.Ytpiobilidhmedaa
