/-
  What samararef18.Cut and samararef18.Count answer: the same pieces, the same number of nodes.
-/
import Derived.Test.YtpiobilidhmedaaF0
namespace Go.Proofs.Ytpiobilidhmedaa
open Go.RowKit Go.Sl Go.Ct
set_option linter.unusedVariables false
set_option linter.unusedSimpArgs false

/-- Pieces to which the first i were given in turns. -/
def refTo (k i : Nat) : List Int := (List.range k).map fun (j : Nat) => ((i / k : Nat) : Int) + if j < i % k then 1 else 0
theorem refTo_length (k i : Nat) : (refTo k i).length = k := by simp [refTo]
theorem refTo_zero (k : Nat) : refTo k 0 = List.replicate k 0 := by
  apply List.ext_getElem?
  intro j
  simp only [refTo, List.getElem?_map, List.getElem?_replicate]
  by_cases h : j < k <;> simp [h]
theorem refTo_cut (n : Nat) : refTo ((n + 7) / 8) n = cutL n := rfl
theorem refTo_step (k i : Nat) (hk : k < 9) (h1 : 1 ≤ k) (hi : i < 64) : (refTo k i).set (i % k) ((refTo k i).getD (i % k) 0 + 1) = refTo k (i + 1) := by
  have : ∀ k, k < 9 → 1 ≤ k → ∀ i, i < 64 → (refTo k i).set (i % k) ((refTo k i).getD (i % k) 0 + 1) = refTo k (i + 1) := by decide +kernel
  exact this k hk h1 i hi
theorem refTo_bound (k i : Nat) (hk : k < 9) (h1 : 1 ≤ k) (hi : i < 64) : 0 ≤ (refTo k i).getD (i % k) 0 ∧ (refTo k i).getD (i % k) 0 ≤ 64 := by
  have : ∀ k, k < 9 → 1 ≤ k → ∀ i, i < 64 → 0 ≤ (refTo k i).getD (i % k) 0 ∧ (refTo k i).getD (i % k) 0 ≤ 64 := by decide +kernel
  exact this k hk h1 i hi

set_option maxHeartbeats 1000000 in
theorem rcut_no (n : Int) (w : World) (h : n < 1 ∨ 64 < n) : Calls Try.prog 74 #[.int .i64 n] w (CutPost n w) := by
  have hS := (Sat.refl w).row_start 3 1
  have hz : ¬ (1 ≤ n ∧ n ≤ 64) := by omega
  have HZ := Lib.hid hz
  clear hz
  rcases h with h | h
  · go_enter Try.func74, Try.ntmps74
    go_wp2
    go_ret
    refine ⟨_, rfl, ?_⟩
    rw [if_neg HZ.out]
    exact hS
  · have h' : ¬ n < 1 := by omega
    go_enter Try.func74, Try.ntmps74
    go_wp2
    go_ret
    refine ⟨_, rfl, ?_⟩
    rw [if_neg HZ.out]
    exact hS

set_option maxRecDepth 100000 in
set_option maxHeartbeats 4000000 in
theorem rcut_yes (n : Nat) (w : World) (h1 : 1 ≤ n) (h2 : n ≤ 64) : Calls Try.prog 74 #[.int .i64 n] w (CutPost n w) := by
  have hS := Sat.refl w
  have g1 : ¬ (n : Int) < 1 := by omega
  have g2 : ¬ (64 : Int) < n := by omega
  go_enter Try.func74, Try.ntmps74
  go_wp2
  go_loopg [3] ((n + 7) / 8 - 1) (fun gk v3 w' => ∃ k : Nat, k + gk = (n + 7) / 8 ∧ 1 ≤ k ∧ v3 = .int .i64 k ∧ Sat w w' (Old w))
  case atStart => exact ⟨1, by omega, by omega, rfl, hS⟩
  case round =>
    clear hS
    obtain ⟨k, hgk, hk1, rfl, hR⟩ := hrel
    have HG := Lib.hid hgk
    have hkK : k ≤ (n + 7) / 8 := by omega
    clear hgk
    by_cases hlt : 8 * k < n
    · have hlt2 : 8 * (k : Int) < (n : Int) := by omega
      have hk8 : k ≤ 8 := by omega
      go_wp2
      go_roundg (gk - 1)
      case measure => have := HG.out; omega
      case rel => exact ⟨k + 1, by have := HG.out; omega, by omega, by go_num, hR⟩
    · have hlt2 : ¬ 8 * (k : Int) < (n : Int) := by omega
      have hK : (n + 7) / 8 = k := by omega
      have hcut := refTo_cut n
      have hlc := cutL_length n
      rw [hK] at hcut hlc
      have HC := Lib.hid hcut
      have HLC := Lib.hid hlc
      have hk9 : k ≤ 8 := by omega
      clear hcut hK hkK hlc HG
      have hz := refTo_zero k
      have hstep := fun i => refTo_step k i (by omega) hk1
      have hbound := fun i => refTo_bound k i (by omega) hk1
      have hlen := refTo_length k
      have HZ := Lib.hid hz
      have HST := Lib.hid hstep
      have HB := Lib.hid hbound
      have HL := Lib.hid hlen
      clear hz hstep hbound hlen
      go_wp2_with (at_make; refine wpList_make1 rfl _ _ 95 rfl 3 (.int .i64 0) 8 Try.underlying95 info3 rfl _ hR .i64 .i64 k rfl rfl (by omega) (by omega) ?_; intro w1 hS1)
      have hm := hS1
      rw [← vi_replicate, ← HZ.out] at hm
      clear hS1 hR
      generalize wr.heap.size = g at *
      have HM := Lib.hid hm
      clear hm
      go_loopg [5] n (fun gk v5 w' => ∃ i : Nat, i + gk = n ∧ v5 = .int .i64 i ∧ Sat w w' (row (.slice (some ⟨g, 0, none⟩) k k) 3 1 k (vi (refTo k i)) * Old w))
      case atStart => exact ⟨0, by omega, rfl, HM.out⟩
      case round =>
        clear HM
        obtain ⟨i, hgk, rfl, hR⟩ := hrel
        have HG := Lib.hid hgk
        have hik : i ≤ n := by omega
        clear hgk
        by_cases hlt : i < n
        · have hi64 : i < 64 := by omega
          have hmk : i % k < k := Nat.mod_lt _ (by omega)
          have hst := HST.out i hi64
          have hbd := HB.out i hi64
          have hmod : (i : Int) % (k : Int) = ((i % k : Nat) : Int) := rfl
          have hgetD : (refTo k i)[i % k]? = some ((refTo k i).getD (i % k) 0) := by
            rw [List.getD_eq_getElem?_getD, List.getElem?_eq_getElem (by rw [HL.out]; exact hmk)]; rfl
          generalize (refTo k i).getD (i % k) 0 = z at *
          generalize i % k = m at *
          rcases hR.row_open with ⟨h, _⟩ | ⟨g', cap, h, _, _, _, hc, hf⟩
          · cases h
          cases h
          have c0 := hc m (by omega)
          have f0 := hf m
          rw [vi_get, hgetD] at c0
          simp only [Option.map_some] at c0
          have HSTP := Lib.hid hst
          have HR := Lib.hid hR
          clear hc hf hst hgetD hR
          have hmk2 : (m : Int) < (k : Int) := by omega
          go_wp2
          go_roundg (gk - 1)
          case measure => have := HG.out; omega
          case rel =>
            refine ⟨i + 1, by have := HG.out; omega, by go_num, ?_⟩
            have hf := HR.out.row_set m (.int .i64 (z + 1))
            rw [vi_set, HSTP.out] at hf
            exact hf
        · have : i = n := by omega
          subst this
          go_wp2
          go_ret
          refine ⟨_, rfl, ?_⟩
          rw [if_pos (by omega), Int.toNat_natCast]
          unfold RowI
          rw [HLC.out, ← HC.out]
          exact hR

theorem rcut_calls (n : Int) (w : World) : Calls Try.prog 74 #[.int .i64 n] w (CutPost n w) := by
  by_cases h : n < 1 ∨ 64 < n
  · exact rcut_no n w h
  · have h1 : 1 ≤ n.toNat := by omega
    have h2 : n.toNat ≤ 64 := by omega
    have := rcut_yes n.toNat w h1 h2
    rwa [Int.toNat_of_nonneg (by omega)] at this

/-- What Count of a small number answers. -/
theorem cut_len (m : Nat) (h1 : 1 ≤ m) (h2 : m ≤ 64) : (if 1 ≤ (m : Int) ∧ (m : Int) ≤ 64 then cutL (m : Int).toNat else []).length = (m + 7) / 8 := by
  rw [if_pos (by omega), cutL_length, Int.toNat_natCast]

set_option maxRecDepth 100000 in
set_option maxHeartbeats 2000000 in
theorem rcount_small (n : Nat) (w : World) (h1 : 1 ≤ n) (h2 : n ≤ 8) : Calls Try.prog 25 #[.int .i64 n] w (CountPost n w) := by
  have hS := Sat.refl w
  have hc : count (n : Int).toNat = 1 := by unfold count; rw [Int.toNat_natCast, if_pos (by omega)]
  have hlen := cut_len n h1 (by omega)
  have hq : (n + 7) / 8 = 1 := by omega
  rw [hq] at hlen
  have HLEN := Lib.hid hlen
  have HC := Lib.hid hc
  have g1 : ¬ (n : Int) < 1 := by omega
  have g2 : ¬ (64 : Int) < n := by omega
  clear hc hlen hq
  go_enter Try.func25, Try.ntmps25
  go_wp2_with (go_at_call 74; (with_reducible refine (rcut_calls _ _).mono ?_); rintro e w1 ⟨v, rfl, hv⟩; unfold RowI at hv; rw [HLEN.out] at hv; obtain ⟨ad, cap, rfl⟩ := row_shape hv; have hS2 := hS.call0 hv.right)
  go_ret
  refine ⟨?_, hS2⟩
  rw [HC.out]; rfl

set_option maxRecDepth 100000 in
set_option maxHeartbeats 2000000 in
theorem rcount_calls (n : Int) (w : World) : Calls Try.prog 25 #[.int .i64 n] w (CountPost n w) := by
  have hS := Sat.refl w
  by_cases h : n < 1 ∨ 64 < n
  · have hc : count n.toNat = 0 := by unfold count; rw [if_neg (by omega), if_neg (by omega)]
    have HC := Lib.hid hc
    clear hc
    rcases h with h | h
    · go_enter Try.func25, Try.ntmps25
      go_wp2
      go_ret
      refine ⟨?_, hS⟩
      rw [HC.out]; rfl
    · have h' : ¬ n < 1 := by omega
      go_enter Try.func25, Try.ntmps25
      go_wp2
      go_ret
      refine ⟨?_, hS⟩
      rw [HC.out]; rfl
  · obtain ⟨m, rfl⟩ : ∃ m : Nat, n = m := ⟨n.toNat, by omega⟩
    by_cases h8 : m ≤ 8
    · exact rcount_small m w (by omega) h8
    · have hc : count (m : Int).toNat = (m + 7) / 8 + 1 := by unfold count; rw [Int.toNat_natCast, if_neg (by omega), if_pos (by omega)]
      have hlen := cut_len m (by omega) (by omega)
      have hq : (m + 7) / 8 ≤ 8 ∧ 2 ≤ (m + 7) / 8 := by omega
      generalize (m + 7) / 8 = q at *
      have hq1 : ¬ (q : Int) = 1 := by omega
      have hcq : count (q : Int).toNat = 1 := by unfold count; rw [Int.toNat_natCast, if_pos (by omega)]
      have HLEN := Lib.hid hlen
      have HC := Lib.hid hc
      have HCQ := Lib.hid hcq
      have g1 : ¬ (m : Int) < 1 := by omega
      have g2 : ¬ (64 : Int) < m := by omega
      clear hc hlen h hcq
      go_enter Try.func25, Try.ntmps25
      go_wp2_with (first
        | (go_at_call 74; (with_reducible refine (rcut_calls _ _).mono ?_); rintro e w1 ⟨v, rfl, hv⟩; unfold RowI at hv; rw [HLEN.out] at hv; obtain ⟨ad, cap, rfl⟩ := row_shape hv; have hS2 := hS.call0 hv.right)
        | (go_at_call 25; (with_reducible refine (rcount_small q _ (by omega) (by omega)).mono ?_); rintro e w2 ⟨rfl, hv⟩; rw [HCQ.out]; have hS3 := hS2.call0 hv))
      go_ret
      refine ⟨?_, hS3⟩
      rw [HC.out]
      congr 1
end Go.Proofs.Ytpiobilidhmedaa
