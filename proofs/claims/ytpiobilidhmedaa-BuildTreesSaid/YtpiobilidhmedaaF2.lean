/-
  What samararef15.Same and SameNode answer of equal ones: true.
-/
import Derived.Test.YtpiobilidhmedaaF1
namespace Go.Proofs.Ytpiobilidhmedaa
open Go.RowKit Go.Sl Go.Ct
set_option linter.unusedVariables false
set_option linter.unusedSimpArgs false

set_option maxRecDepth 100000 in
set_option maxHeartbeats 4000000 in
theorem same_calls (A B : Option Addr) (c d : Nat) (l : List Int) (w : World) (rA : Rd encI 1 w A l) (rB : Rd encI 1 w B l) (hl : l.length ≤ 1000000) :
    Calls Try.prog 37 #[.slice A l.length c, .slice B l.length d] w (TruePost w) := by
  have hS := Sat.refl w
  go_enter Try.func37, Try.ntmps37
  go_wp2
  go_loopg [5] l.length (fun gk v5 w' => ∃ i : Nat, i + gk = l.length ∧ v5 = .int .i64 i ∧ Sat w w' (Old w))
  case atStart => exact ⟨0, by omega, rfl, hS⟩
  case round =>
    clear hS
    obtain ⟨i, hgk, rfl, hR⟩ := hrel
    have HG := Lib.hid hgk
    have hi : i ≤ l.length := by omega
    clear hgk
    by_cases hlt : i < l.length
    · obtain ⟨b, o, rfl⟩ := rA.addr hlt
      obtain ⟨b2, o2, rfl⟩ := rB.addr hlt
      obtain ⟨x, hx⟩ : ∃ x, l[i]? = some x := ⟨l[i], by simp [hlt]⟩
      have c0 := (rA.below (sz := 1) (fun _ => rfl) hR.below0).num hx
      have d0 := (rB.below (sz := 1) (fun _ => rfl) hR.below0).num hx
      clear hx
      go_wp2
      refine wp_region_ct (.rd 0 (.rd 1 (.rd 2 (.rd 3 (.rd 4 (.rd 5 (.rd 6 (.rd 7 (.rd 8 .fin))))))))) 26 mixed (by kernel_rfl) (Nat.le_refl _) (fun c a a' w e h => ⟨e ▸ h.1, h.2⟩) ?_
      repeat' (first | (refine wpC_rdp rfl rfl (fun K hK => ?_); go_simp; (try go_bits)) | (refine wpC_rdg rfl rfl rfl (fun K hK => ?_); go_simp; (try go_bits)) | (refine hK _ ?_; clear hK K))
      refine wpC_fin ?_
      go_wp2
      go_roundg (gk - 1)
      case measure => have := HG.out; omega
      case rel => exact ⟨i + 1, by have := HG.out; omega, by go_num, hR.drew⟩
    · go_wp2
      go_ret
      exact ⟨rfl, hR⟩

/-- Node's bounds of size. -/
def NdSmall (n : Nd) : Prop := n.ends.length ≤ 1000000 ∧ n.slots.length ≤ 1000000 ∧ n.gaps.length ≤ 1000000

set_option maxRecDepth 100000 in
set_option maxHeartbeats 4000000 in
theorem sameNode_calls (n : Nd) (A1 A2 A3 B1 B2 B3 : Option Addr) (c1 c2 c3 d1 d2 d3 : Nat) (w : World) (hn : NdSmall n)
    (rA1 : Rd encI 1 w A1 n.ends) (rA2 : Rd encI 1 w A2 n.slots) (rA3 : Rd encI 1 w A3 n.gaps) (rB1 : Rd encI 1 w B1 n.ends) (rB2 : Rd encI 1 w B2 n.slots) (rB3 : Rd encI 1 w B3 n.gaps) :
    Calls Try.prog 27 #[.agg #[.bool n.inner, .int .i64 n.lo, .slice A1 n.ends.length c1, .slice A2 n.slots.length c2, .slice A3 n.gaps.length c3],
      .agg #[.bool n.inner, .int .i64 n.lo, .slice B1 n.ends.length d1, .slice B2 n.slots.length d2, .slice B3 n.gaps.length d3]] w (TruePost w) := by
  obtain ⟨n1, n2, n3⟩ := hn
  have hS := ((Sat.refl w).alloc [.bool n.inner, .int .i64 n.lo, .slice A1 n.ends.length c1, .slice A2 n.slots.length c2, .slice A3 n.gaps.length c3] 43).alloc
    [.bool n.inner, .int .i64 n.lo, .slice B1 n.ends.length d1, .slice B2 n.slots.length d2, .slice B3 n.gaps.length d3] 43
  have hsz : (w.alloc (Obj.cells #[.bool n.inner, .int .i64 n.lo, .slice A1 n.ends.length c1, .slice A2 n.slots.length c2, .slice A3 n.gaps.length c3] 43)).heap.size = w.heap.size + 1 := by simp
  rw [hsz] at hS
  clear hsz
  have hb := hS.right.right.below0
  go_enter Try.func27, Try.ntmps27
  go_wp2_with (first
    | (go_at_call 37; (with_reducible refine (same_calls A1 B1 c1 d1 n.ends _ (rA1.below (sz := 1) (fun _ => rfl) hS.right.right.below0) (rB1.below (sz := 1) (fun _ => rfl) hS.right.right.below0) n1).mono ?_); rintro e w1 ⟨rfl, hk⟩; have hS1 := hS.call0 hk; clear hk; have p1 := hS1.cell; have p2 := hS1.rot.cell; clear hS)
    | (go_at_call 37; (with_reducible refine (same_calls A2 B2 c2 d2 n.slots _ (rA2.below (sz := 1) (fun _ => rfl) hS1.right.right.below0) (rB2.below (sz := 1) (fun _ => rfl) hS1.right.right.below0) n2).mono ?_); rintro e w2 ⟨rfl, hk⟩; have hS2 := hS1.call0 hk; clear hk p1 p2; have p1 := hS2.cell; have p2 := hS2.rot.cell; clear hS1)
    | (go_at_call 37; (with_reducible refine (same_calls A3 B3 c3 d3 n.gaps _ (rA3.below (sz := 1) (fun _ => rfl) hS2.right.right.below0) (rB3.below (sz := 1) (fun _ => rfl) hS2.right.right.below0) n3).mono ?_); rintro e w3 ⟨rfl, hk⟩; have hS3 := hS2.call0 hk; clear hk p1 p2 hS2))
  go_ret
  exact ⟨rfl, hS3.right.right⟩
end Go.Proofs.Ytpiobilidhmedaa
