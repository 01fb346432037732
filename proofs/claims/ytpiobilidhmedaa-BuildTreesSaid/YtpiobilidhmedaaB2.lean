/-
  What samaralaw18.Handles, build.Cut and build.Count answer.
-/
import Derived.Test.YtpiobilidhmedaaB1
import Derived.Test.YtpiobilidhmedaaSl2
import Derived.Deep.LoopGhost
import Derived.Laws.MakeOwn
namespace Go.Proofs.Ytpiobilidhmedaa
open Go.RowKit Go.Sl Go.Ct
set_option linter.unusedVariables false
set_option linter.unusedSimpArgs false

/-- Numbers as cells. -/
def vi (l : List Int) : List Value := l.map (.int .i64)
theorem vi_length (l : List Int) : (vi l).length = l.length := by simp [vi]
theorem vi_snoc (l : List Int) (x : Int) : vi (l ++ [x]) = vi l ++ [.int .i64 x] := by simp [vi]
/-- A slice of the call's own that holds numbers. -/
def RowI (T : TypeId) (W w : World) (F : As) (v : Value) (l : List Int) : Prop := Sat W w (row v T 1 l.length (vi l) * F)

theorem row_shape {W w : World} {v : Value} {T : TypeId} {sz n : Nat} {xs : List Value} {F : As} (h : Sat W w (row v T sz n xs * F)) : ∃ b cap, v = .slice b n cap := by
  rcases h.row_open with ⟨h1, h2, _⟩ | ⟨g, cap, h1, _⟩
  · exact ⟨_, _, by rw [h1, h2]⟩
  · exact ⟨_, _, h1⟩

def handles (from_ : Int) (n : Nat) : List Int := (List.range n).map fun (i : Nat) => 65536 + (from_ + (i : Int))
theorem handles_length (f : Int) (n : Nat) : (handles f n).length = n := by simp [handles]
theorem handles_succ (f : Int) (n : Nat) : handles f (n + 1) = handles f n ++ [65536 + (f + (n : Int))] := by simp [handles, List.range_succ]

def HandlesPost (l : List Int) (w : World) (e : Ending) (w' : World) : Prop := ∃ v, e = .returned v ∧ RowI 2 w w' (Old w) v l

set_option maxHeartbeats 1000000 in
theorem handles_calls (f : Int) (n : Nat) (w : World) (hf : 0 ≤ f ∧ f ≤ 1000000) (hn : n ≤ 1000000) :
    Calls Try.prog 17 #[.int .i64 f, .int .i64 n] w (HandlesPost (handles f n) w) := by
  have hS := (Sat.refl w).row_start 2 1
  go_enter Try.func17, Try.ntmps17
  go_wp2
  go_loopg [5, 6] n (fun gk v5 v6 w' => ∃ k : Nat, k + gk = n ∧ v6 = .int .i64 k ∧ RowI 2 w w' (Old w) v5 (handles f k))
  case atStart => exact ⟨0, by omega, rfl, hS⟩
  case round =>
    obtain ⟨k, hgk, rfl, hR⟩ := hrel
    have HG := Lib.hid hgk
    have hk : k ≤ n := by omega
    clear hgk
    unfold RowI at hR
    rw [handles_length] at hR
    have HR := Lib.hid hR
    clear hR
    by_cases hlt : k < n
    · go_wp2_with (at_builtin; refine wpList_append_new rfl _ _ 23 rfl 2 _ 1 8 Try.underlying23 info2 rfl (by decide) _ _ _ _ rfl (HR.out.alloc_any _) wr.heap.size [.int .i64 (65536 + (f + (k : Int)))] rfl rfl (heap_alloc_new wr _) (by simp [Value.oneCell']) (by omega) (by omega) ?_; intro v' w1 hS1)
      go_roundg (gk - 1)
      case measure => have := HG.out; omega
      case rel =>
        refine ⟨k + 1, by have := HG.out; omega, by go_num, ?_⟩
        unfold RowI
        rw [handles_length, handles_succ, vi_snoc]
        exact hS1
    · go_wp2
      go_ret
      have : k = n := by omega
      subst this
      refine ⟨_, rfl, ?_⟩
      unfold RowI
      rw [handles_length]
      exact HR.out

/-- The pieces' sizes. -/
def piece (n i : Nat) : Int := (n / ((n + 7) / 8) : Nat) + if i < n % ((n + 7) / 8) then 1 else 0
def cutL (n : Nat) : List Int := (List.range ((n + 7) / 8)).map fun (i : Nat) => piece n i
theorem cutL_length (n : Nat) : (cutL n).length = (n + 7) / 8 := by simp [cutL]
/-- The first i of them, noughts behind. -/
def cutTo (n i : Nat) : List Int := (List.range ((n + 7) / 8)).map fun (j : Nat) => if j < i then piece n j else 0
theorem cutTo_length (n i : Nat) : (cutTo n i).length = (n + 7) / 8 := by simp [cutTo]
theorem cutTo_zero (n : Nat) : cutTo n 0 = List.replicate ((n + 7) / 8) 0 := by
  apply List.ext_getElem?
  intro j
  simp only [cutTo, List.getElem?_map, List.getElem?_range', List.getElem?_replicate]
  by_cases h : j < (n + 7) / 8 <;> simp [h]
theorem cutTo_all (n : Nat) : cutTo n ((n + 7) / 8) = cutL n := by
  apply List.ext_getElem?
  intro j
  simp only [cutTo, cutL, List.getElem?_map]
  by_cases h : j < (n + 7) / 8 <;> simp [h]
theorem cutTo_set (n i : Nat) (x : Int) (hx : x = piece n i) (hi : i < (n + 7) / 8) : (cutTo n i).set i x = cutTo n (i + 1) := by
  apply List.ext_getElem?
  intro j
  rw [List.getElem?_set]
  simp only [cutTo, List.length_map, List.length_range, List.getElem?_map]
  by_cases hij : i = j
  · subst hij
    simp [hi, hx]
  · rw [if_neg hij]
    by_cases h : j < (n + 7) / 8
    · have : (j < i + 1) = (j < i) := by apply propext; omega
      simp [h, this]
    · simp [h]
theorem vi_set (l : List Int) (i : Nat) (x : Int) : (vi l).set i (.int .i64 x) = vi (l.set i x) := by simp [vi, List.map_set]
theorem vi_replicate (n : Nat) (x : Int) : vi (List.replicate n x) = List.replicate n (.int .i64 x) := by simp [vi]
theorem vi_get (l : List Int) (i : Nat) : (vi l)[i]? = (l[i]?).map (.int .i64) := by simp [vi]

def CutPost (n : Int) (w : World) (e : Ending) (w' : World) : Prop := ∃ v, e = .returned v ∧ RowI 3 w w' (Old w) v (if 1 ≤ n ∧ n ≤ 64 then cutL n.toNat else [])

set_option maxHeartbeats 1000000 in
theorem cut_no (n : Int) (w : World) (h : n < 1 ∨ 64 < n) : Calls Try.prog 66 #[.int .i64 n] w (CutPost n w) := by
  have hS := (Sat.refl w).row_start 3 1
  have hz : ¬ (1 ≤ n ∧ n ≤ 64) := by omega
  have HZ := Lib.hid hz
  clear hz
  rcases h with h | h
  · go_enter Try.func66, Try.ntmps66
    go_wp2
    go_ret
    refine ⟨_, rfl, ?_⟩
    rw [if_neg HZ.out]
    exact hS
  · have h' : ¬ n < 1 := by omega
    go_enter Try.func66, Try.ntmps66
    go_wp2
    go_ret
    refine ⟨_, rfl, ?_⟩
    rw [if_neg HZ.out]
    exact hS

theorem div_cast (n k : Nat) : (n : Int) / (k : Int) = ((n / k : Nat) : Int) := rfl
theorem mod_cast' (n k : Nat) : (n : Int) % (k : Int) = ((n % k : Nat) : Int) := rfl

set_option maxRecDepth 100000 in
set_option maxHeartbeats 2000000 in
theorem cut_yes (n : Nat) (w : World) (h1 : 1 ≤ n) (h2 : n ≤ 64) : Calls Try.prog 66 #[.int .i64 n] w (CutPost n w) := by
  have hS := Sat.refl w
  have g1 : ¬ (n : Int) < 1 := by omega
  have g2 : ¬ (64 : Int) < n := by omega
  have hk : ((n : Int) + 8 - 1) / 8 = (((n + 7) / 8 : Nat) : Int) := by omega
  have hk0 : 1 ≤ (n + 7) / 8 := by omega
  have hk9 : (n + 7) / 8 ≤ 8 := by omega
  have hp : ∀ i, piece n i = (n / ((n + 7) / 8) : Nat) + if i < n % ((n + 7) / 8) then 1 else 0 := fun i => rfl
  have hz := cutTo_zero n
  have hset := cutTo_set n
  have hall := cutTo_all n
  have hlen := cutTo_length n
  have hlen2 := cutL_length n
  have hq := Nat.div_le_self n ((n + 7) / 8)
  generalize (n + 7) / 8 = k at *
  have HP := Lib.hid hp
  have HZ := Lib.hid hz
  have HSET := Lib.hid hset
  have HALL := Lib.hid hall
  have HLEN := Lib.hid hlen
  have HLEN2 := Lib.hid hlen2
  clear hp hz hset hall hlen hlen2
  have hk1 : (1 : Int) ≤ (k : Int) := by omega
  go_enter Try.func66, Try.ntmps66
  go_wp2_with (at_make; refine wpList_make1 rfl _ _ 95 rfl 3 (.int .i64 0) 8 Try.underlying95 info3 rfl _ hS .i64 .i64 k (congrArg (Value.int .i64) hk) (congrArg (Value.int .i64) hk) (by omega) (by omega) ?_; intro w1 hS1)
  have hm := hS1
  rw [← vi_replicate, ← HZ.out] at hm
  clear hS1
  generalize w.heap.size = g at *
  have HM := Lib.hid hm
  clear hm hk
  go_loopg [20] k (fun gk v20 w' => ∃ i : Nat, i + gk = k ∧ v20 = .int .i64 i ∧ Sat w w' (row (.slice (some ⟨g, 0, none⟩) k k) 3 1 k (vi (cutTo n i)) * Old w))
  case atStart => exact ⟨0, by omega, rfl, HM.out⟩
  case round =>
    clear HM
    obtain ⟨i, hgk, rfl, hR⟩ := hrel
    have HG := Lib.hid hgk
    have hik : i ≤ k := by omega
    clear hgk
    by_cases hlt : i < k
    · have hio : (i : Int) < (k : Int) := by omega
      rcases hR.row_open with ⟨h, _⟩ | ⟨g', cap, h, _, _, _, hc, hf⟩
      · cases h
      cases h
      have c0 := hc i (by omega)
      have f0 := hf i
      rw [vi_get] at c0
      have hg : (cutTo n i)[i]? = some ((cutTo n i)[i]'(by rw [HLEN.out]; exact hlt)) := by simp
      rw [hg] at c0
      simp only [Option.map_some] at c0
      clear hc hf hg
      generalize (cutTo n i)[i]'(by rw [HLEN.out]; exact hlt) = z at *
      have HR := Lib.hid hR
      clear hR
      have e1 : wrap64 ((n : Int) / (k : Int)) = ((n / k : Nat) : Int) := by
        rw [div_cast]; generalize n / k = q at *; exact IntWalk.wrap64_in _ (by omega)
      have e2 : wrap64 (((n / k : Nat) : Int) + 1) = ((n / k : Nat) : Int) + 1 := by
        generalize n / k = q at *; exact IntWalk.wrap64_in _ (by omega)
      have E1 := Lib.hid e1
      have E2 := Lib.hid e2
      clear e1 e2
      by_cases hm : (i : Int) < (n : Int) % (k : Int)
      · have hmn : i < n % k := by rw [mod_cast'] at hm; omega
        go_wp2
        go_roundg (gk - 1)
        case measure => have := HG.out; omega
        case rel =>
          rw [E1.out, E2.out]
          refine ⟨i + 1, by have := HG.out; omega, by go_num, ?_⟩
          have hf := (HR.out.row_set i (.int .i64 ((n / k : Nat) : Int))).row_set i (.int .i64 (((n / k : Nat) : Int) + 1))
          rw [List.set_set, vi_set, HSET.out i _ (by rw [HP.out, if_pos hmn]) hlt] at hf
          exact hf
      · have hmn : ¬ i < n % k := by rw [mod_cast'] at hm; omega
        go_wp2
        go_roundg (gk - 1)
        case measure => have := HG.out; omega
        case rel =>
          rw [E1.out]
          refine ⟨i + 1, by have := HG.out; omega, by go_num, ?_⟩
          have hf := HR.out.row_set i (.int .i64 ((n / k : Nat) : Int))
          rw [vi_set, HSET.out i _ (by rw [HP.out, if_neg hmn]; omega) hlt] at hf
          exact hf
    · go_wp2
      go_ret
      have : i = k := by omega
      subst this
      refine ⟨_, rfl, ?_⟩
      rw [if_pos (by omega), Int.toNat_natCast]
      unfold RowI
      rw [HLEN2.out, ← HALL.out]
      exact hR

theorem cut_calls (n : Int) (w : World) : Calls Try.prog 66 #[.int .i64 n] w (CutPost n w) := by
  by_cases h : n < 1 ∨ 64 < n
  · exact cut_no n w h
  · have h1 : 1 ≤ n.toNat := by omega
    have h2 : n.toNat ≤ 64 := by omega
    have := cut_yes n.toNat w h1 h2
    rwa [Int.toNat_of_nonneg (by omega)] at this

/-- How many nodes. -/
def count (n : Nat) : Nat :=
  if 1 ≤ n ∧ n ≤ 8 then 1 else if 9 ≤ n ∧ n ≤ 64 then (n + 7) / 8 + 1 else 0
def CountPost (n : Int) (w : World) (e : Ending) (w' : World) : Prop := e = .returned (.int .i64 (count n.toNat : Int)) ∧ Sat w w' (Old w)

set_option maxRecDepth 100000 in
set_option maxHeartbeats 2000000 in
theorem count_calls (n : Int) (w : World) : Calls Try.prog 22 #[.int .i64 n] w (CountPost n w) := by
  have hS := Sat.refl w
  by_cases h : n < 1 ∨ 64 < n
  · have hc : count n.toNat = 0 := by unfold count; rw [if_neg (by omega), if_neg (by omega)]
    have HC := Lib.hid hc
    clear hc
    rcases h with h | h
    · have : ¬ 0 < n := by omega
      go_enter Try.func22, Try.ntmps22
      go_wp2
      go_loopg [0, 3] 1 (fun gk v0 v3 w' => v0 = .int .i64 n ∧ v3 = .int .i64 0 ∧ Sat w w' (Old w) ∧ gk = 1)
      case atStart => exact ⟨rfl, rfl, hS, rfl⟩
      case round =>
        obtain ⟨rfl, rfl, hR, hg⟩ := hrel
        go_wp2
        go_ret
        refine ⟨?_, hR⟩
        rw [HC.out]; rfl
    · have : ¬ n ≤ 64 := by omega
      go_enter Try.func22, Try.ntmps22
      go_wp2
      go_loopg [0, 3] 1 (fun gk v0 v3 w' => v0 = .int .i64 n ∧ v3 = .int .i64 0 ∧ Sat w w' (Old w) ∧ gk = 1)
      case atStart => exact ⟨rfl, rfl, hS, rfl⟩
      case round =>
        obtain ⟨rfl, rfl, hR, hg⟩ := hrel
        go_wp2
        go_ret
        refine ⟨?_, hR⟩
        rw [HC.out]; rfl
  · have HN := Lib.hid h
    go_enter Try.func22, Try.ntmps22
    go_wp2
    go_loopg [0, 3] 3 (fun gk v0 v3 w' => ∃ m t : Nat, v0 = .int .i64 m ∧ v3 = .int .i64 t ∧ Sat w w' (Old w) ∧ 1 ≤ m ∧ m ≤ 64 ∧ t + 2 * m ≤ 128 ∧ t + count m = count n.toNat ∧ (m ≤ 8 → 1 ≤ gk) ∧ (9 ≤ m → 2 ≤ gk))
    case atStart => exact ⟨n.toNat, 0, by rw [Int.toNat_of_nonneg (by have := HN.out; omega)], rfl, hS, by have := HN.out; omega, by have := HN.out; omega, by omega, by omega, by omega, by omega⟩
    case round =>
      obtain ⟨m, t, rfl, rfl, hR, hm1, hm2, ht, hcn, hg1, hg2⟩ := hrel
      have HCN := Lib.hid hcn
      clear hcn
      have hm1' : (0 : Int) < (m : Int) := by omega
      have hm2' : (m : Int) ≤ 64 := by omega
      have hlen : (if 1 ≤ (m : Int) ∧ (m : Int) ≤ 64 then cutL (m : Int).toNat else []).length = (m + 7) / 8 := by
        rw [if_pos (by omega), cutL_length, Int.toNat_natCast]
      have HLEN := Lib.hid hlen
      clear hlen
      by_cases h8 : m ≤ 8
      · have hq : (m + 7) / 8 = 1 := by omega
        rw [hq] at HLEN
        have hcm : count m = 1 := by unfold count; rw [if_pos (by omega)]
        have HCM := Lib.hid hcm
        clear hcm hq
        go_wp2_with (go_at_call 66; (with_reducible refine (cut_calls _ _).mono ?_); rintro e w1 ⟨v, rfl, hv⟩; unfold RowI at hv; rw [HLEN.out] at hv; obtain ⟨ad, cap, rfl⟩ := row_shape hv; have hS2 := hR.call0 hv.right)
        go_ret
        refine ⟨?_, hS2⟩
        have h1 := HCN.out
        have h2 := HCM.out
        congr 1
        go_num
      · have hq : (m + 7) / 8 ≤ 8 ∧ 2 ≤ (m + 7) / 8 ∧ 3 * ((m + 7) / 8) ≤ 2 * m := by omega
        have hcm : count m = (m + 7) / 8 + count ((m + 7) / 8) := by unfold count; rw [if_neg (by omega), if_pos (by omega), if_pos (by omega)]
        have HCM := Lib.hid hcm
        clear hcm
        generalize (m + 7) / 8 = q at *
        have hq1 : ¬ (q : Int) = 1 := by omega
        go_wp2_with (go_at_call 66; (with_reducible refine (cut_calls _ _).mono ?_); rintro e w1 ⟨v, rfl, hv⟩; unfold RowI at hv; rw [HLEN.out] at hv; obtain ⟨ad, cap, rfl⟩ := row_shape hv; have hS2 := hR.call0 hv.right)
        go_roundg (gk - 1)
        case measure => have := hg2 (by omega); omega
        case rel =>
          have h1 := HCN.out
          have h2 := HCM.out
          have := hg2 (by omega)
          exact ⟨q, t + q, rfl, by go_num, hS2, by omega, by omega, by omega, by omega, by omega, by omega⟩

set_option maxRecDepth 100000 in
theorem awake_calls (w : World) : Calls Try.prog 15 #[] w (fun e w' => e = .returned (.bool true) ∧ Sat w w' (Old w)) := by
  have hS := Sat.refl w
  go_enter Try.func15, Try.ntmps15
  go_wp2_with (first
    | (go_at_call 22; (with_reducible refine (count_calls _ _).mono ?_); rintro e w1 ⟨rfl, hv⟩; rw [show ((count (Int.toNat 49) : Nat) : Int) = 8 by decide]; have hS2 := hS.call0 hv)
    | (go_at_call 66; (with_reducible refine (cut_calls _ _).mono ?_); rintro e w1 ⟨v, rfl, hv⟩; unfold RowI at hv; rw [show (if 1 ≤ (9 : Int) ∧ (9 : Int) ≤ 64 then cutL (Int.toNat 9) else []).length = 2 by decide] at hv; obtain ⟨ad, cap, rfl⟩ := row_shape hv; have hS3 := hS2.call0 hv.right))
  go_ret
  exact ⟨rfl, hS3⟩
end Go.Proofs.Ytpiobilidhmedaa
