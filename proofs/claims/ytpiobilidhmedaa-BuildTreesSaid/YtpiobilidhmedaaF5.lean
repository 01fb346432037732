/-
  What build.formed and samararef18.Formed answer: whether entries can be a tree's.
-/
import Derived.Test.YtpiobilidhmedaaF4
namespace Go.Proofs.Ytpiobilidhmedaa
open Go.RowKit Go.Sl Go.Ct
set_option linter.unusedVariables false
set_option linter.unusedSimpArgs false

structure EnOk (x : En) : Prop where
  lo1 : 65536 ≤ x.lo
  hi : x.e ≤ 2097152
  lt : x.lo < x.e
  al : x.lo % 4096 = 0
  al2 : x.e % 4096 = 0
  h0 : 0 ≤ x.h
instance (x : En) : Decidable (EnOk x) :=
  if h : 65536 ≤ x.lo ∧ x.e ≤ 2097152 ∧ x.lo < x.e ∧ x.lo % 4096 = 0 ∧ x.e % 4096 = 0 ∧ 0 ≤ x.h then .isTrue ⟨h.1, h.2.1, h.2.2.1, h.2.2.2.1, h.2.2.2.2.1, h.2.2.2.2.2⟩
  else .isFalse fun k => h ⟨k.lo1, k.hi, k.lt, k.al, k.al2, k.h0⟩
def stepE (l : List En) (i : Nat) : Bool := match l[i]? with
  | some x => decide (EnOk x) && (decide (i = 0) || match l[i - 1]? with
    | some y => y.e == x.lo
    | none => false)
  | none => false
def formedB (l : List En) : Bool := (List.range l.length).all (stepE l) && decide (1 ≤ l.length) && decide (l.length ≤ 64)
theorem formedB_iff (l : List En) : formedB l = true ↔ (∀ j, j < l.length → stepE l j = true) ∧ 1 ≤ l.length ∧ l.length ≤ 64 := by
  simp only [formedB, Bool.and_eq_true, List.all_eq_true, List.mem_range, decide_eq_true_eq]
  exact ⟨fun h => ⟨h.1.1, h.1.2, h.2⟩, fun h => ⟨⟨h.1, h.2.1⟩, h.2.2⟩⟩
theorem formedB_no {l : List En} {i : Nat} (hi : i < l.length) (h : stepE l i = false) : false = formedB l := by
  symm
  rw [← Bool.not_eq_true, formedB_iff]
  intro k
  rw [k.1 i hi] at h; cases h
theorem stepE_no {l : List En} {i : Nat} {x : En} (hx : l[i]? = some x) (h : ¬ EnOk x) : stepE l i = false := by simp [stepE, hx, h]
theorem stepE_zero {l : List En} {x : En} (hx : l[0]? = some x) (h : EnOk x) : stepE l 0 = true := by simp [stepE, hx, h]
theorem stepE_yes {l : List En} {i : Nat} {x y : En} (hx : l[i]? = some x) (h : EnOk x) (h0 : 0 < i) (hy : l[i - 1]? = some y) (e : y.e = x.lo) : stepE l i = true := by simp [stepE, hx, h, hy, e]
theorem stepE_no2 {l : List En} {i : Nat} {x y : En} (hx : l[i]? = some x) (h0 : 0 < i) (hy : l[i - 1]? = some y) (e : ¬ y.e = x.lo) : stepE l i = false := by
  have : ¬ i = 0 := by omega
  simp [stepE, hx, hy, e, this]
theorem Rd.en {w : World} {b o : Nat} {l : List En} (h : Rd En.cells 3 w (some ⟨b, o, none⟩) l) {k : Nat} {x : En} (hx : l[k]? = some x) :
    w.cell? ⟨b, o + k * 3, none⟩ = some (.int .i64 x.lo) ∧ w.cell? ⟨b, o + k * 3 + 1, none⟩ = some (.int .i64 x.e) ∧ w.cell? ⟨b, o + k * 3 + 2, none⟩ = some (.int .i64 x.h) := by
  obtain ⟨b', o', hA, hc⟩ := h.at (List.getElem?_eq_some_iff.1 hx).1
  cases hA
  exact ⟨hc k x hx 0 (by omega), hc k x hx 1 (by omega), hc k x hx 2 (by omega)⟩
def FormedPost (l : List En) (w : World) (e : Ending) (w' : World) : Prop := e = .returned (.bool (formedB l)) ∧ Sat w w' (Old w)

set_option maxRecDepth 100000 in
set_option maxHeartbeats 16000000 in
theorem formed72_calls (A : Option Addr) (c : Nat) (l : List En) (w : World) (r : Rd En.cells 3 w A l) (hl : l.length ≤ 1000000) :
    Calls Try.prog 72 #[.slice A l.length c] w (FormedPost l w) := by
  have hS := Sat.refl w
  go_enter Try.func72, Try.ntmps72
  go_wp2
  go_loopg [7] l.length (fun gk v7 w' => ∃ i : Nat, i + gk = l.length ∧ v7 = .int .i64 i ∧ (∀ j, j < i → stepE l j = true) ∧ Sat w w' (Old w))
  case atStart => exact ⟨0, by omega, rfl, by simp, hS⟩
  case round =>
    clear hS
    obtain ⟨i, hgk, rfl, hpos, hR⟩ := hrel
    have HG := Lib.hid hgk
    have HP := Lib.hid hpos
    have hi : i ≤ l.length := by omega
    clear hgk hpos
    by_cases hlt : i < l.length
    case neg =>
      have : i = l.length := by omega
      have HI := Lib.hid this
      subst this
      by_cases h1 : l.length = 0
      · have g1 : ¬ (1 : Int) ≤ (l.length : Int) := by omega
        have g1' : ¬ (0 : Int) < (l.length : Int) := by omega
        have HF : Hid (false = formedB l) := Lib.hid (by unfold formedB; rw [decide_eq_false (by omega : ¬ 1 ≤ l.length)]; simp)
        clear h1 hlt
        go_wp2
        go_ret
        exact ⟨ret_bool HF.out, hR⟩
      · have g1 : (1 : Int) ≤ (l.length : Int) := by omega
        have g1' : (0 : Int) < (l.length : Int) := by omega
        by_cases h2 : l.length ≤ 64
        · have g2 : (l.length : Int) ≤ 64 := by omega
          have HF : Hid (true = formedB l) := Lib.hid (by symm; rw [formedB_iff]; exact ⟨HP.out, by omega, h2⟩)
          clear h1 hlt h2
          go_wp2
          go_ret
          exact ⟨ret_bool HF.out, hR⟩
        · have g2 : ¬ (l.length : Int) ≤ 64 := by omega
          have HF : Hid (false = formedB l) := Lib.hid (by unfold formedB; rw [decide_eq_false h2]; simp)
          clear h1 hlt h2
          go_wp2
          go_ret
          exact ⟨ret_bool HF.out, hR⟩
    case pos =>
    obtain ⟨b, o, rfl⟩ := r.addr hlt
    obtain ⟨x, hx⟩ : ∃ x, l[i]? = some x := ⟨l[i], by simp [hlt]⟩
    have hr1 := r.below (sz := 3) (fun _ => rfl) hR.below0
    obtain ⟨c0, c1, c2⟩ := hr1.en hx
    have HX := Lib.hid hx
    have hA1 := hR.alloc x.cells 31
    have HNO : Hid (stepE l i = false → false = formedB l) := Lib.hid (formedB_no hlt)
    clear hx
    by_cases e1 : x.lo < 65536
    · clear hr1
      go_wp2
      refine wp_region_ct (.rd 0 (.rd 1 (.rd 2 (.rd 3 (.rd 4 (.rd 5 (.rd 6 (.rd 7 (.rd 8 (.rd 9 (.rd 10 (.rd 11 (.rd 12 (.rd 13 (.rd 14 (.rd 15 (.rd 16 (.rd 17 (.rd 18 (.rd 19 (.rd 20 (.rd 21 (.rd 22 (.rd 23 (.rd 24 (.rd 25 (.rd 26 (.rd 27 (.rd 28 (.rd 29 (.rd 30 (.rd 31 (.rd 32 (.rd 33 (.rd 34 (.rd 35 (.rd 36 (.rd 37 (.rd 38 (.rd 39 (.rd 40 (.rd 41 (.rd 42 (.rd 43 (.rd 44 (.rd 45 (.rd 46 .fin))))))))))))))))))))))))))))))))))))))))))))))) 68 mixed (by kernel_rfl) (Nat.le_refl _) (fun c a a' w e h => ⟨e ▸ h.1, h.2⟩) ?_
      repeat' (first | (refine wpC_rdp rfl rfl (fun K hK => ?_); go_simp; (try go_bits)) | (refine wpC_rdg rfl rfl rfl (fun K hK => ?_); go_simp; (try go_bits)) | (refine hK _ ?_; clear hK K))
      refine wpC_fin ?_
      go_wp2
      go_ret
      exact ⟨ret_bool (HNO.out (stepE_no HX.out (fun h => by have := h.lo1; have := h.hi; have := h.lt; have := h.al; have := h.al2; have := h.h0; omega))), hA1.drew.right⟩
    by_cases e2 : 2097152 < x.e
    · clear hr1
      go_wp2
      refine wp_region_ct (.rd 0 (.rd 1 (.rd 2 (.rd 3 (.rd 4 (.rd 5 (.rd 6 (.rd 7 (.rd 8 (.rd 9 (.rd 10 (.rd 11 (.rd 12 (.rd 13 (.rd 14 (.rd 15 (.rd 16 (.rd 17 (.rd 18 (.rd 19 (.rd 20 (.rd 21 (.rd 22 (.rd 23 (.rd 24 (.rd 25 (.rd 26 (.rd 27 (.rd 28 (.rd 29 (.rd 30 (.rd 31 (.rd 32 (.rd 33 (.rd 34 (.rd 35 (.rd 36 (.rd 37 (.rd 38 (.rd 39 (.rd 40 (.rd 41 (.rd 42 (.rd 43 (.rd 44 (.rd 45 (.rd 46 .fin))))))))))))))))))))))))))))))))))))))))))))))) 68 mixed (by kernel_rfl) (Nat.le_refl _) (fun c a a' w e h => ⟨e ▸ h.1, h.2⟩) ?_
      repeat' (first | (refine wpC_rdp rfl rfl (fun K hK => ?_); go_simp; (try go_bits)) | (refine wpC_rdg rfl rfl rfl (fun K hK => ?_); go_simp; (try go_bits)) | (refine hK _ ?_; clear hK K))
      refine wpC_fin ?_
      go_wp2
      go_ret
      exact ⟨ret_bool (HNO.out (stepE_no HX.out (fun h => by have := h.lo1; have := h.hi; have := h.lt; have := h.al; have := h.al2; have := h.h0; omega))), hA1.drew.right⟩
    by_cases e3 : x.lo < x.e
    case neg =>
      have e3' : x.e ≤ x.lo := by omega
      clear hr1
      go_wp2
      refine wp_region_ct (.rd 0 (.rd 1 (.rd 2 (.rd 3 (.rd 4 (.rd 5 (.rd 6 (.rd 7 (.rd 8 (.rd 9 (.rd 10 (.rd 11 (.rd 12 (.rd 13 (.rd 14 (.rd 15 (.rd 16 (.rd 17 (.rd 18 (.rd 19 (.rd 20 (.rd 21 (.rd 22 (.rd 23 (.rd 24 (.rd 25 (.rd 26 (.rd 27 (.rd 28 (.rd 29 (.rd 30 (.rd 31 (.rd 32 (.rd 33 (.rd 34 (.rd 35 (.rd 36 (.rd 37 (.rd 38 (.rd 39 (.rd 40 (.rd 41 (.rd 42 (.rd 43 (.rd 44 (.rd 45 (.rd 46 .fin))))))))))))))))))))))))))))))))))))))))))))))) 68 mixed (by kernel_rfl) (Nat.le_refl _) (fun c a a' w e h => ⟨e ▸ h.1, h.2⟩) ?_
      repeat' (first | (refine wpC_rdp rfl rfl (fun K hK => ?_); go_simp; (try go_bits)) | (refine wpC_rdg rfl rfl rfl (fun K hK => ?_); go_simp; (try go_bits)) | (refine hK _ ?_; clear hK K))
      refine wpC_fin ?_
      go_wp2
      go_ret
      exact ⟨ret_bool (HNO.out (stepE_no HX.out (fun h => by have := h.lo1; have := h.hi; have := h.lt; have := h.al; have := h.al2; have := h.h0; omega))), hA1.drew.right⟩
    have l0 : 0 ≤ x.lo := by omega
    have l1 : x.lo ≤ 2097152 := by omega
    have m0 : 0 ≤ x.e := by omega
    have m1 : x.e ≤ 2097152 := by omega
    have e3' : ¬ x.e ≤ x.lo := by omega
    by_cases e4 : x.lo % 4096 = 0
    case neg =>
      have f1 : (x.lo % 4096 == 0) = false := by rw [beq_eq_false_iff_ne]; exact e4
      have f2 : (x.lo.tmod 4096 == 0) = false := by rw [tmod4b]; exact f1
      have HE4 := Lib.hid e4
      clear hr1
      go_wp2
      refine wp_region_ct (.rd 0 (.rd 1 (.rd 2 (.rd 3 (.rd 4 (.rd 5 (.rd 6 (.rd 7 (.rd 8 (.rd 9 (.rd 10 (.rd 11 (.rd 12 (.rd 13 (.rd 14 (.rd 15 (.rd 16 (.rd 17 (.rd 18 (.rd 19 (.rd 20 (.rd 21 (.rd 22 (.rd 23 (.rd 24 (.rd 25 (.rd 26 (.rd 27 (.rd 28 (.rd 29 (.rd 30 (.rd 31 (.rd 32 (.rd 33 (.rd 34 (.rd 35 (.rd 36 (.rd 37 (.rd 38 (.rd 39 (.rd 40 (.rd 41 (.rd 42 (.rd 43 (.rd 44 (.rd 45 (.rd 46 .fin))))))))))))))))))))))))))))))))))))))))))))))) 68 mixed (by kernel_rfl) (Nat.le_refl _) (fun c a a' w e h => ⟨e ▸ h.1, h.2⟩) ?_
      repeat' (first | (refine wpC_rdp rfl rfl (fun K hK => ?_); go_simp; (try go_bits)) | (refine wpC_rdg rfl rfl rfl (fun K hK => ?_); go_simp; (try go_bits)) | (refine hK _ ?_; clear hK K))
      refine wpC_fin ?_
      go_wp2
      go_ret
      exact ⟨ret_bool (HNO.out (stepE_no HX.out (fun h => by have := HE4.out; have := h.lo1; have := h.hi; have := h.lt; have := h.al; have := h.al2; have := h.h0; omega))), hA1.drew.right⟩
    have e4b : (x.lo.tmod 4096 == 0) = true := by rw [tmod4b, beq_iff_eq]; exact e4
    by_cases e5 : x.e % 4096 = 0
    case neg =>
      have f1 : (x.e % 4096 == 0) = false := by rw [beq_eq_false_iff_ne]; exact e5
      have f2 : (x.e.tmod 4096 == 0) = false := by rw [tmod4b]; exact f1
      have HE5 := Lib.hid e5
      clear hr1
      go_wp2
      refine wp_region_ct (.rd 0 (.rd 1 (.rd 2 (.rd 3 (.rd 4 (.rd 5 (.rd 6 (.rd 7 (.rd 8 (.rd 9 (.rd 10 (.rd 11 (.rd 12 (.rd 13 (.rd 14 (.rd 15 (.rd 16 (.rd 17 (.rd 18 (.rd 19 (.rd 20 (.rd 21 (.rd 22 (.rd 23 (.rd 24 (.rd 25 (.rd 26 (.rd 27 (.rd 28 (.rd 29 (.rd 30 (.rd 31 (.rd 32 (.rd 33 (.rd 34 (.rd 35 (.rd 36 (.rd 37 (.rd 38 (.rd 39 (.rd 40 (.rd 41 (.rd 42 (.rd 43 (.rd 44 (.rd 45 (.rd 46 .fin))))))))))))))))))))))))))))))))))))))))))))))) 68 mixed (by kernel_rfl) (Nat.le_refl _) (fun c a a' w e h => ⟨e ▸ h.1, h.2⟩) ?_
      repeat' (first | (refine wpC_rdp rfl rfl (fun K hK => ?_); go_simp; (try go_bits)) | (refine wpC_rdg rfl rfl rfl (fun K hK => ?_); go_simp; (try go_bits)) | (refine hK _ ?_; clear hK K))
      refine wpC_fin ?_
      go_wp2
      go_ret
      exact ⟨ret_bool (HNO.out (stepE_no HX.out (fun h => by have := HE5.out; have := h.lo1; have := h.hi; have := h.lt; have := h.al; have := h.al2; have := h.h0; omega))), hA1.drew.right⟩
    have e5b : (x.e.tmod 4096 == 0) = true := by rw [tmod4b, beq_iff_eq]; exact e5
    by_cases e6 : x.h < 0
    · clear hr1
      go_wp2
      refine wp_region_ct (.rd 0 (.rd 1 (.rd 2 (.rd 3 (.rd 4 (.rd 5 (.rd 6 (.rd 7 (.rd 8 (.rd 9 (.rd 10 (.rd 11 (.rd 12 (.rd 13 (.rd 14 (.rd 15 (.rd 16 (.rd 17 (.rd 18 (.rd 19 (.rd 20 (.rd 21 (.rd 22 (.rd 23 (.rd 24 (.rd 25 (.rd 26 (.rd 27 (.rd 28 (.rd 29 (.rd 30 (.rd 31 (.rd 32 (.rd 33 (.rd 34 (.rd 35 (.rd 36 (.rd 37 (.rd 38 (.rd 39 (.rd 40 (.rd 41 (.rd 42 (.rd 43 (.rd 44 (.rd 45 (.rd 46 .fin))))))))))))))))))))))))))))))))))))))))))))))) 68 mixed (by kernel_rfl) (Nat.le_refl _) (fun c a a' w e h => ⟨e ▸ h.1, h.2⟩) ?_
      repeat' (first | (refine wpC_rdp rfl rfl (fun K hK => ?_); go_simp; (try go_bits)) | (refine wpC_rdg rfl rfl rfl (fun K hK => ?_); go_simp; (try go_bits)) | (refine hK _ ?_; clear hK K))
      refine wpC_fin ?_
      go_wp2
      go_ret
      exact ⟨ret_bool (HNO.out (stepE_no HX.out (fun h => by have := h.lo1; have := h.hi; have := h.lt; have := h.al; have := h.al2; have := h.h0; omega))), hA1.drew.right⟩
    have HOK : Hid (EnOk x) := Lib.hid ⟨by omega, by omega, by omega, e4, e5, by omega⟩
    rcases Nat.eq_zero_or_pos i with h0 | h0
    · subst h0
      have HST : Hid (stepE l 0 = true) := Lib.hid (stepE_zero HX.out HOK.out)
      simp only [Nat.zero_mul, Nat.add_zero] at c0 c1 c2
      clear hr1
      go_wp2
      refine wp_region_ct (.rd 0 (.rd 1 (.rd 2 (.rd 3 (.rd 4 (.rd 5 (.rd 6 (.rd 7 (.rd 8 (.rd 9 (.rd 10 (.rd 11 (.rd 12 (.rd 13 (.rd 14 (.rd 15 (.rd 16 (.rd 17 (.rd 18 (.rd 19 (.rd 20 (.rd 21 (.rd 22 (.rd 23 (.rd 24 (.rd 25 (.rd 26 (.rd 27 (.rd 28 (.rd 29 (.rd 30 (.rd 31 (.rd 32 (.rd 33 (.rd 34 (.rd 35 (.rd 36 (.rd 37 (.rd 38 (.rd 39 (.rd 40 (.rd 41 (.rd 42 (.rd 43 (.rd 44 (.rd 45 (.rd 46 .fin))))))))))))))))))))))))))))))))))))))))))))))) 68 mixed (by kernel_rfl) (Nat.le_refl _) (fun c a a' w e h => ⟨e ▸ h.1, h.2⟩) ?_
      repeat' (first | (refine wpC_rdp rfl rfl (fun K hK => ?_); go_simp; (try go_bits)) | (refine wpC_rdg rfl rfl rfl (fun K hK => ?_); go_simp; (try go_bits)) | (refine hK _ ?_; clear hK K))
      refine wpC_fin ?_
      go_wp2
      go_roundg (gk - 1)
      case measure => have := HG.out; omega
      case rel =>
        refine ⟨1, by have := HG.out; omega, by go_num, fun j hj => ?_, hA1.drew.right⟩
        by_cases hji : j = 0
        · subst hji; exact HST.out
        · exact HP.out j (by omega)
    · have hk1 : (1 : Int) ≤ (i : Int) := by omega
      have hk3 : (i : Int) - 1 < (l.length : Int) := by omega
      have hk4 : (0 : Int) < (i : Int) := by omega
      obtain ⟨y, hy⟩ : ∃ y, l[i - 1]? = some y := ⟨l[i - 1], by rw [List.getElem?_eq_getElem]⟩
      obtain ⟨d0, d1, d2⟩ := (r.below (sz := 3) (fun _ => rfl) hA1.right.below0).en hy
      simp only [En.cells] at d0 d1 d2
      have HY := Lib.hid hy
      clear hy hr1
      by_cases e7 : y.e = x.lo
      · have HST : Hid (stepE l i = true) := Lib.hid (stepE_yes HX.out HOK.out h0 HY.out e7)
        have f7 : (y.e == x.lo) = true := ibeq e7
        have f7b : (y.e != x.lo) = false := by rw [bne_eq_false_iff_eq]; exact e7
        clear e7
        go_wp2
        refine wp_region_ct (.rd 0 (.rd 1 (.rd 2 (.rd 3 (.rd 4 (.rd 5 (.rd 6 (.rd 7 (.rd 8 (.rd 9 (.rd 10 (.rd 11 (.rd 12 (.rd 13 (.rd 14 (.rd 15 (.rd 16 (.rd 17 (.rd 18 (.rd 19 (.rd 20 (.rd 21 (.rd 22 (.rd 23 (.rd 24 (.rd 25 (.rd 26 (.rd 27 (.rd 28 (.rd 29 (.rd 30 (.rd 31 (.rd 32 (.rd 33 (.rd 34 (.rd 35 (.rd 36 (.rd 37 (.rd 38 (.rd 39 (.rd 40 (.rd 41 (.rd 42 (.rd 43 (.rd 44 (.rd 45 (.rd 46 .fin))))))))))))))))))))))))))))))))))))))))))))))) 68 mixed (by kernel_rfl) (Nat.le_refl _) (fun c a a' w e h => ⟨e ▸ h.1, h.2⟩) ?_
        repeat' (first | (refine wpC_rdp rfl rfl (fun K hK => ?_); go_simp; (try go_bits)) | (refine wpC_rdg rfl rfl rfl (fun K hK => ?_); go_simp; (try go_bits)) | (refine hK _ ?_; clear hK K))
        refine wpC_fin ?_
        go_wp2
        go_roundg (gk - 1)
        case measure => have := HG.out; omega
        case rel =>
          refine ⟨i + 1, by have := HG.out; omega, by go_num, fun j hj => ?_, hA1.drew.right⟩
          by_cases hji : j = i
          · subst hji; exact HST.out
          · exact HP.out j (by omega)
      · have HST : Hid (stepE l i = false) := Lib.hid (stepE_no2 HX.out h0 HY.out e7)
        have f7 : (y.e == x.lo) = false := by rw [beq_eq_false_iff_ne]; exact e7
        have f7b : (y.e != x.lo) = true := by rw [bne_iff_ne]; exact e7
        clear e7
        go_wp2
        refine wp_region_ct (.rd 0 (.rd 1 (.rd 2 (.rd 3 (.rd 4 (.rd 5 (.rd 6 (.rd 7 (.rd 8 (.rd 9 (.rd 10 (.rd 11 (.rd 12 (.rd 13 (.rd 14 (.rd 15 (.rd 16 (.rd 17 (.rd 18 (.rd 19 (.rd 20 (.rd 21 (.rd 22 (.rd 23 (.rd 24 (.rd 25 (.rd 26 (.rd 27 (.rd 28 (.rd 29 (.rd 30 (.rd 31 (.rd 32 (.rd 33 (.rd 34 (.rd 35 (.rd 36 (.rd 37 (.rd 38 (.rd 39 (.rd 40 (.rd 41 (.rd 42 (.rd 43 (.rd 44 (.rd 45 (.rd 46 .fin))))))))))))))))))))))))))))))))))))))))))))))) 68 mixed (by kernel_rfl) (Nat.le_refl _) (fun c a a' w e h => ⟨e ▸ h.1, h.2⟩) ?_
        repeat' (first | (refine wpC_rdp rfl rfl (fun K hK => ?_); go_simp; (try go_bits)) | (refine wpC_rdg rfl rfl rfl (fun K hK => ?_); go_simp; (try go_bits)) | (refine hK _ ?_; clear hK K))
        refine wpC_fin ?_
        go_wp2
        go_ret
        exact ⟨ret_bool (HNO.out HST.out), hA1.drew.right⟩

set_option maxRecDepth 100000 in
set_option maxHeartbeats 16000000 in
theorem formed24_calls (A : Option Addr) (c : Nat) (l : List En) (w : World) (r : Rd En.cells 3 w A l) (hl : l.length ≤ 1000000) :
    Calls Try.prog 24 #[.slice A l.length c] w (FormedPost l w) := by
  have hS := Sat.refl w
  go_enter Try.func24, Try.ntmps24
  go_wp2
  go_loopg [3] l.length (fun gk v7 w' => ∃ i : Nat, i + gk = l.length ∧ v7 = .int .i64 i ∧ (∀ j, j < i → stepE l j = true) ∧ Sat w w' (Old w))
  case atStart => exact ⟨0, by omega, rfl, by simp, hS⟩
  case round =>
    clear hS
    obtain ⟨i, hgk, rfl, hpos, hR⟩ := hrel
    have HG := Lib.hid hgk
    have HP := Lib.hid hpos
    have hi : i ≤ l.length := by omega
    clear hgk hpos
    by_cases hlt : i < l.length
    case neg =>
      have : i = l.length := by omega
      have HI := Lib.hid this
      subst this
      by_cases h1 : l.length = 0
      · have g1 : ¬ (1 : Int) ≤ (l.length : Int) := by omega
        have g1' : ¬ (0 : Int) < (l.length : Int) := by omega
        have HF : Hid (false = formedB l) := Lib.hid (by unfold formedB; rw [decide_eq_false (by omega : ¬ 1 ≤ l.length)]; simp)
        clear h1 hlt
        go_wp2
        go_ret
        exact ⟨ret_bool HF.out, hR⟩
      · have g1 : (1 : Int) ≤ (l.length : Int) := by omega
        have g1' : (0 : Int) < (l.length : Int) := by omega
        by_cases h2 : l.length ≤ 64
        · have g2 : (l.length : Int) ≤ 64 := by omega
          have HF : Hid (true = formedB l) := Lib.hid (by symm; rw [formedB_iff]; exact ⟨HP.out, by omega, h2⟩)
          clear h1 hlt h2
          go_wp2
          go_ret
          exact ⟨ret_bool HF.out, hR⟩
        · have g2 : ¬ (l.length : Int) ≤ 64 := by omega
          have HF : Hid (false = formedB l) := Lib.hid (by unfold formedB; rw [decide_eq_false h2]; simp)
          clear h1 hlt h2
          go_wp2
          go_ret
          exact ⟨ret_bool HF.out, hR⟩
    case pos =>
    obtain ⟨b, o, rfl⟩ := r.addr hlt
    obtain ⟨x, hx⟩ : ∃ x, l[i]? = some x := ⟨l[i], by simp [hlt]⟩
    have hr1 := r.below (sz := 3) (fun _ => rfl) hR.below0
    obtain ⟨c0, c1, c2⟩ := hr1.en hx
    have HX := Lib.hid hx
    have hA1 := hR.alloc x.cells 31
    have HNO : Hid (stepE l i = false → false = formedB l) := Lib.hid (formedB_no hlt)
    clear hx
    by_cases e6 : x.h < 0
    · clear hr1
      go_wp2
      go_ret
      exact ⟨ret_bool (HNO.out (stepE_no HX.out (fun h => by have := h.lo1; have := h.hi; have := h.lt; have := h.al; have := h.al2; have := h.h0; omega))), hA1.right⟩
    by_cases e1 : x.lo < 65536
    · clear hr1
      go_wp2
      go_ret
      exact ⟨ret_bool (HNO.out (stepE_no HX.out (fun h => by have := h.lo1; have := h.hi; have := h.lt; have := h.al; have := h.al2; have := h.h0; omega))), hA1.right⟩
    by_cases e2 : 2097152 < x.e
    · clear hr1
      go_wp2
      go_ret
      exact ⟨ret_bool (HNO.out (stepE_no HX.out (fun h => by have := h.lo1; have := h.hi; have := h.lt; have := h.al; have := h.al2; have := h.h0; omega))), hA1.right⟩
    by_cases e3 : x.lo < x.e
    case neg =>
      have e3' : x.e ≤ x.lo := by omega
      clear hr1
      go_wp2
      go_ret
      exact ⟨ret_bool (HNO.out (stepE_no HX.out (fun h => by have := h.lo1; have := h.hi; have := h.lt; have := h.al; have := h.al2; have := h.h0; omega))), hA1.right⟩
    have l0 : 0 ≤ x.lo := by omega
    have l1 : x.lo ≤ 2097152 := by omega
    have m0 : 0 ≤ x.e := by omega
    have m1 : x.e ≤ 2097152 := by omega
    have e3' : ¬ x.e ≤ x.lo := by omega
    by_cases e4 : x.lo % 4096 = 0
    case neg =>
      have f1 : (x.lo % 4096 == 0) = false := by rw [beq_eq_false_iff_ne]; exact e4
      have f2 : (x.lo.tmod 4096 == 0) = false := by rw [tmod4b]; exact f1
      have HE4 := Lib.hid e4
      clear hr1
      go_wp2
      go_ret
      exact ⟨ret_bool (HNO.out (stepE_no HX.out (fun h => by have := HE4.out; have := h.lo1; have := h.hi; have := h.lt; have := h.al; have := h.al2; have := h.h0; omega))), hA1.right⟩
    have e4b : (x.lo.tmod 4096 == 0) = true := by rw [tmod4b, beq_iff_eq]; exact e4
    by_cases e5 : x.e % 4096 = 0
    case neg =>
      have f1 : (x.e % 4096 == 0) = false := by rw [beq_eq_false_iff_ne]; exact e5
      have f2 : (x.e.tmod 4096 == 0) = false := by rw [tmod4b]; exact f1
      have HE5 := Lib.hid e5
      clear hr1
      go_wp2
      go_ret
      exact ⟨ret_bool (HNO.out (stepE_no HX.out (fun h => by have := HE5.out; have := h.lo1; have := h.hi; have := h.lt; have := h.al; have := h.al2; have := h.h0; omega))), hA1.right⟩
    have e5b : (x.e.tmod 4096 == 0) = true := by rw [tmod4b, beq_iff_eq]; exact e5
    have HOK : Hid (EnOk x) := Lib.hid ⟨by omega, by omega, by omega, e4, e5, by omega⟩
    rcases Nat.eq_zero_or_pos i with h0 | h0
    · subst h0
      have HST : Hid (stepE l 0 = true) := Lib.hid (stepE_zero HX.out HOK.out)
      simp only [Nat.zero_mul, Nat.add_zero] at c0 c1 c2
      clear hr1
      go_wp2
      refine wp_region_ct (.rd 0 (.rd 1 (.rd 2 (.rd 3 (.rd 4 (.rd 5 (.rd 6 (.rd 7 (.rd 8 (.rd 9 (.rd 10 (.rd 11 (.rd 12 .fin))))))))))))) 68 mixed (by kernel_rfl) (Nat.le_refl _) (fun c a a' w e h => ⟨e ▸ h.1, h.2⟩) ?_
      repeat' (first | (refine wpC_rdp rfl rfl (fun K hK => ?_); go_simp; (try go_bits)) | (refine wpC_rdg rfl rfl rfl (fun K hK => ?_); go_simp; (try go_bits)) | (refine hK _ ?_; clear hK K))
      refine wpC_fin ?_
      go_wp2
      go_roundg (gk - 1)
      case measure => have := HG.out; omega
      case rel =>
        refine ⟨1, by have := HG.out; omega, by go_num, fun j hj => ?_, hA1.drew.right⟩
        by_cases hji : j = 0
        · subst hji; exact HST.out
        · exact HP.out j (by omega)
    · have hk1 : (1 : Int) ≤ (i : Int) := by omega
      have hk3 : (i : Int) - 1 < (l.length : Int) := by omega
      have hk4 : (0 : Int) < (i : Int) := by omega
      obtain ⟨y, hy⟩ : ∃ y, l[i - 1]? = some y := ⟨l[i - 1], by rw [List.getElem?_eq_getElem]⟩
      obtain ⟨d0, d1, d2⟩ := (r.below (sz := 3) (fun _ => rfl) hA1.right.below0).en hy
      simp only [En.cells] at d0 d1 d2
      have HY := Lib.hid hy
      clear hy hr1
      by_cases e7 : y.e = x.lo
      · have HST : Hid (stepE l i = true) := Lib.hid (stepE_yes HX.out HOK.out h0 HY.out e7)
        have f7 : (y.e == x.lo) = true := ibeq e7
        have f7b : (y.e != x.lo) = false := by rw [bne_eq_false_iff_eq]; exact e7
        clear e7
        go_wp2
        refine wp_region_ct (.rd 0 (.rd 1 (.rd 2 (.rd 3 (.rd 4 (.rd 5 (.rd 6 (.rd 7 (.rd 8 (.rd 9 (.rd 10 (.rd 11 (.rd 12 .fin))))))))))))) 68 mixed (by kernel_rfl) (Nat.le_refl _) (fun c a a' w e h => ⟨e ▸ h.1, h.2⟩) ?_
        repeat' (first | (refine wpC_rdp rfl rfl (fun K hK => ?_); go_simp; (try go_bits)) | (refine wpC_rdg rfl rfl rfl (fun K hK => ?_); go_simp; (try go_bits)) | (refine hK _ ?_; clear hK K))
        refine wpC_fin ?_
        go_wp2
        go_roundg (gk - 1)
        case measure => have := HG.out; omega
        case rel =>
          refine ⟨i + 1, by have := HG.out; omega, by go_num, fun j hj => ?_, hA1.drew.right⟩
          by_cases hji : j = i
          · subst hji; exact HST.out
          · exact HP.out j (by omega)
      · have HST : Hid (stepE l i = false) := Lib.hid (stepE_no2 HX.out h0 HY.out e7)
        have f7 : (y.e == x.lo) = false := by rw [beq_eq_false_iff_ne]; exact e7
        have f7b : (y.e != x.lo) = true := by rw [bne_iff_ne]; exact e7
        clear e7
        go_wp2
        refine wp_region_ct (.rd 0 (.rd 1 (.rd 2 (.rd 3 (.rd 4 (.rd 5 (.rd 6 (.rd 7 (.rd 8 (.rd 9 (.rd 10 (.rd 11 (.rd 12 .fin))))))))))))) 68 mixed (by kernel_rfl) (Nat.le_refl _) (fun c a a' w e h => ⟨e ▸ h.1, h.2⟩) ?_
        repeat' (first | (refine wpC_rdp rfl rfl (fun K hK => ?_); go_simp; (try go_bits)) | (refine wpC_rdg rfl rfl rfl (fun K hK => ?_); go_simp; (try go_bits)) | (refine hK _ ?_; clear hK K))
        refine wpC_fin ?_
        go_wp2
        go_ret
        exact ⟨ret_bool (HNO.out HST.out), hA1.drew.right⟩
end Go.Proofs.Ytpiobilidhmedaa
