/-
  What samararef18.Entries answers: the same entries.
-/
import Derived.Test.YtpiobilidhmedaaE1
namespace Go.Proofs.Ytpiobilidhmedaa
open Go.RowKit Go.Sl Go.Ct
set_option linter.unusedVariables false
set_option linter.unusedSimpArgs false

def RefInv (A : List Ar) (H : List Int) (w : World) (gk : Nat) (v5 v6 v7 : Value) (w' : World) : Prop :=
  (∃ i : Nat, i + gk = A.length + 1 ∧ 1 ≤ gk ∧ v7 = .int .i64 i ∧ v6 = .int .i64 (entS A H i).2 ∧ RowE w w' (Old w) v5 (entS A H i).1) ∨
  (gk = 0 ∧ v7 = .int .i64 ((A.length : Int) + 1) ∧ RowE w w' (Old w) v5 (ents A H))

set_option maxRecDepth 100000 in
set_option maxHeartbeats 8000000 in
theorem rentries_calls (Aa Ha : Option Addr) (ca ch : Nat) (A : List Ar) (H : List Int) (w : World) (hA : Rd Ar.cells 6 w Aa A) (hH : Rd encI 1 w Ha H) (la : A.length ≤ 1000000) (lh : H.length ≤ 1000000)
    (hl : A.length = H.length) : Calls Try.prog 20 #[.slice Aa A.length ca, .slice Ha H.length ch] w (EntsPost A H w) := by
  have hS := Sat.refl w
  have HE := Lib.hid hl
  clear hl
  go_enter Try.func20, Try.ntmps20
  go_wp2
  go_loopg [5, 6, 7] (A.length + 1) (fun gk v5 v6 v7 w' => RefInv A H w gk v5 v6 v7 w')
  case atStart => exact .inl ⟨0, by omega, by omega, rfl, rfl, hS.row_start 31 3⟩
  case round =>
    clear hS
    rcases hrel with ⟨i, hgk, hg1, rfl, rfl, hRow⟩ | ⟨hgk, rfl, hRow⟩
    case inr =>
      have hle : ¬ (A.length : Int) + 1 ≤ (A.length : Int) := by omega
      go_wp2
      go_ret
      exact ⟨_, rfl, hRow⟩
    case inl =>
    have HG := Lib.hid hgk
    have hi : i ≤ A.length := by omega
    clear hgk
    by_cases hlt : i < A.length
    · have hltH : i < H.length := by rw [← HE.out]; exact hlt
      obtain ⟨b, o, rfl⟩ := hA.addr hlt
      obtain ⟨x, hx⟩ : ∃ x, A[i]? = some x := ⟨A[i], by simp [hlt]⟩
      obtain ⟨b2, o2, rfl⟩ := hH.addr hltH
      obtain ⟨y, hy⟩ : ∃ x, H[i]? = some x := ⟨H[i], by simp⟩
      have hbl := hRow.right.below0
      obtain ⟨c0, c1, c2, c3, c4, c5⟩ := (hA.below (sz := 6) (fun _ => rfl) hbl).area hx
      have d0 := (hH.below (sz := 1) (fun _ => rfl) hbl).num hy
      have hsucc := entS_succ hx hy
      have hlen := entS_bound (A := A) (H := H) la hi
      clear hbl
      generalize entS A H i = z at *
      obtain ⟨l, at_⟩ := z
      have HSU := Lib.hid hsucc
      have HX := Lib.hid hx
      have HY := Lib.hid hy
      clear hx hy hsucc
      unfold RowE at hRow
      simp only at hRow hlen HSU ⊢
      by_cases hat : at_ < x.s
      · go_wp2_with (at_builtin; refine wpList_append_new rfl _ _ 27 rfl 31 _ 3 24 Try.underlying27 info31 rfl (by decide) _ _ _ _ rfl (hRow.alloc_any _) _ [.int .i64 at_, .int .i64 x.s, .int .i64 0] rfl rfl (by first | exact heap_alloc_new _ _ | exact heap_alloc_new1 _ _ _) (by simp [Value.oneCell']) (by omega) (by omega) ?_; intro v' w1 hS1; have hd := hS1.right.below0; have d1 := (hH.below (sz := 1) (fun _ => rfl) hd).num HY.out; clear c0 c1 c2 c3 c4 c5 d0; obtain ⟨c0, c1, c2, c3, c4, c5⟩ := (hA.below (sz := 6) (fun _ => rfl) hd).area HX.out)
        refine wp_region_ct (.rd 0 (.rd 1 (.rd 2 (.rd 3 (.rd 4 (.rd 5 (.rd 6 (.rd 7 (.rd 8 (.rd 9 (.rd 10 (.rd 11 (.wr 12 [0] (.wr 13 [] (.wr 14 [] .fin .stop) .stop) .stop))))))))))))) 57 mixed (by kernel_rfl) (Nat.le_refl _) (fun c a a' w e h => ⟨e ▸ h.1, h.2⟩) ?_
        repeat' (first | (refine wpC_rdp rfl rfl (fun K hK => ?_); go_simp; (try go_bits)) | (refine wpC_rdg rfl rfl rfl (fun K hK => ?_); go_simp; (try go_bits)) | (refine hK _ ?_; clear hK K))
        refine wpC_wrp rfl rfl (fun R hR => ?_)
        go_wp2
        refine hR _ _ ?_ ?_
        · repeat (first | refine obl_cons rfl rfl (by go_simp <;> first | exact IntWalk.i64_in _ (by omega) | rfl) ?_ | refine obl_consg rfl rfl rfl (by go_simp) (by go_simp <;> first | exact IntWalk.i64_in _ (by omega) | rfl) ?_ | refine obl_skip rfl rfl rfl (by go_simp) (by go_simp) ?_)
          exact obl_nil
        clear hR R
        refine wpC_wrp rfl rfl (fun R hR => ?_)
        refine wpList_append_new rfl _ _ 27 rfl 31 _ 3 24 Try.underlying27 info31 rfl (by decide) _ _ _ _ rfl (hS1.drew.alloc_any _) _ [.int .i64 x.s, .int .i64 x.e, .int .i64 y] rfl rfl (by first | exact heap_alloc_new _ _ | exact heap_alloc_new1 _ _ _) (by simp [Value.oneCell']) (by omega) (by omega) ?_
        intro v2 w2 hS2
        obtain ⟨e0, e1, e2, e3, e4, e5⟩ := (hA.below (sz := 6) (fun _ => rfl) hS2.right.below0).area HX.out
        go_wp2
        refine hR _ _ obl_nil ?_
        clear hR R
        refine wpC_wrp rfl rfl (fun R hR => ?_)
        go_wp2
        refine hR _ _ obl_nil ?_
        clear hR R
        refine wpC_fin ?_
        go_wp2
        go_roundg (gk - 1)
        case measure => have := HG.out; omega
        case rel =>
          refine .inl ⟨i + 1, by have := HG.out; omega, by have := HG.out; omega, by go_num, by rw [HSU.out], ?_⟩
          rw [HSU.out]
          unfold RowE
          simpa [ce, En.cells, hat] using hS2
      · go_wp2
        refine wp_region_ct (.rd 0 (.rd 1 (.rd 2 (.rd 3 (.rd 4 (.rd 5 (.rd 6 (.rd 7 (.rd 8 (.rd 9 (.rd 10 (.rd 11 (.wr 12 [0] (.wr 13 [] (.wr 14 [] .fin .stop) .stop) .stop))))))))))))) 57 mixed (by kernel_rfl) (Nat.le_refl _) (fun c a a' w e h => ⟨e ▸ h.1, h.2⟩) ?_
        repeat' (first | (refine wpC_rdp rfl rfl (fun K hK => ?_); go_simp; (try go_bits)) | (refine wpC_rdg rfl rfl rfl (fun K hK => ?_); go_simp; (try go_bits)) | (refine hK _ ?_; clear hK K))
        refine wpC_wrp rfl rfl (fun R hR => ?_)
        go_wp2
        refine hR _ _ ?_ ?_
        · repeat (first | refine obl_cons rfl rfl (by go_simp <;> first | exact IntWalk.i64_in _ (by omega) | rfl) ?_ | refine obl_consg rfl rfl rfl (by go_simp) (by go_simp <;> first | exact IntWalk.i64_in _ (by omega) | rfl) ?_ | refine obl_skip rfl rfl rfl (by go_simp) (by go_simp) ?_)
          exact obl_nil
        clear hR R
        refine wpC_wrp rfl rfl (fun R hR => ?_)
        refine wpList_append_new rfl _ _ 27 rfl 31 _ 3 24 Try.underlying27 info31 rfl (by decide) _ _ _ _ rfl (hRow.drew.alloc_any _) _ [.int .i64 x.s, .int .i64 x.e, .int .i64 y] rfl rfl (by first | exact heap_alloc_new _ _ | exact heap_alloc_new1 _ _ _) (by simp [Value.oneCell']) (by omega) (by omega) ?_
        intro v2 w2 hS2
        obtain ⟨e0, e1, e2, e3, e4, e5⟩ := (hA.below (sz := 6) (fun _ => rfl) hS2.right.below0).area HX.out
        go_wp2
        refine hR _ _ obl_nil ?_
        clear hR R
        refine wpC_wrp rfl rfl (fun R hR => ?_)
        go_wp2
        refine hR _ _ obl_nil ?_
        clear hR R
        refine wpC_fin ?_
        go_wp2
        go_roundg (gk - 1)
        case measure => have := HG.out; omega
        case rel =>
          refine .inl ⟨i + 1, by have := HG.out; omega, by have := HG.out; omega, by go_num, by rw [HSU.out], ?_⟩
          rw [HSU.out]
          unfold RowE
          rw [if_neg (by omega), List.append_nil]; simpa [ce, En.cells] using hS2
    · have : i = A.length := by omega
      subst this
      have hents : ents A H = (entS A H A.length).1 ++ if (entS A H A.length).2 < 2097152 then [⟨(entS A H A.length).2, 2097152, 0⟩] else [] := rfl
      have hlen := entS_bound (A := A) (H := H) la hi
      generalize entS A H A.length = z at *
      obtain ⟨l, at_⟩ := z
      have HEN := Lib.hid hents
      clear hents
      unfold RowE at hRow
      simp only at hRow hlen HEN ⊢
      by_cases hat : at_ < 2097152
      · go_wp2_with (at_builtin; go_loud (refine wpList_append_new rfl _ _ 27 rfl 31 _ 3 24 Try.underlying27 info31 rfl (by decide) _ _ _ _ rfl (hRow.alloc_any _) _ [.int .i64 at_, .int .i64 2097152, .int .i64 0] rfl rfl (heap_alloc_new _ _) (by simp [Value.oneCell']) (by omega) (by omega) ?_); intro v' w1 hS1)
        go_roundg 0
        case measure => have := HG.out; omega
        case rel =>
          refine .inr ⟨rfl, by go_num, ?_⟩
          rw [HEN.out]
          unfold RowE
          simpa [ce, En.cells, hat] using hS1
      · go_wp2
        go_roundg 0
        case measure => have := HG.out; omega
        case rel =>
          refine .inr ⟨rfl, by go_num, ?_⟩
          rw [HEN.out]
          unfold RowE
          rw [if_neg (by omega), List.append_nil]
          exact hRow
end Go.Proofs.Ytpiobilidhmedaa
