/-
  What samaralaw18.BuildTrees answers: true, whatever the input.
-/
import Derived.Test.YtpiobilidhmedaaG5
import Derived.Deep.Cut
namespace Go.Proofs.Ytpiobilidhmedaa
open Go.RowKit Go.Sl Go.Ct
set_option linter.unusedVariables false
set_option linter.unusedSimpArgs false
theorem handles_get (f : Int) (n i : Nat) (h : i < n) : (handles f n)[i]? = some (65536 + (f + (i : Int))) := by simp [handles, h]
theorem handles_above (f : Int) (n : Nat) (hf : 0 ≤ f) : ∀ x ∈ handles f n, 0 < x := by
  intro x hx
  simp only [handles, List.mem_map] at hx
  obtain ⟨i, _, rfl⟩ := hx
  omega
theorem aboveB_take {l : List Int} (h : ∀ x ∈ l, 0 < x) (j : Nat) : aboveB (l.take j) = true := by
  unfold aboveB
  rw [List.all_eq_true]
  intro x hx
  simpa using h x (List.mem_of_mem_take hx)
theorem count_le (m : Nat) (h : m ≤ 1000) : count m ≤ 9 := by
  by_cases h64 : m < 65
  · have : ∀ m, m < 65 → count m ≤ 9 := by decide +kernel
    exact this m h64
  · unfold count
    rw [if_neg (by omega), if_neg (by omega)]
    omega

theorem _root_.Go.Sl.Sat.lift2 {W w w' : World} {F A B : As} (h : Sat W w F) (k : Sat w w' (A * (B * Old w))) : Sat W w' (A * (B * F)) :=
  (h.lift (A := A * B) (k.of_eq (by ac_rfl))).of_eq (by ac_rfl)
theorem Rd.take {α : Type} {enc : α → List Value} {sz : Nat} {w : World} {A : Option Addr} {l : List α} (h : Rd enc sz w A l) (j : Nat) : Rd enc sz w A (l.take j) := by
  rcases h with rfl | ⟨b, o, hA, h⟩
  · exact .inl (by simp)
  · refine .inr ⟨b, o, hA, fun i x hx j' hj => h i x ?_ j' hj⟩
    rw [List.getElem?_take] at hx
    split at hx
    · exact hx
    · cases hx
theorem treeL_fst {ps : List (En × Int)} {hs : List Int} {i : Nat} {y : Int × Nd} (h : (treeL ps hs)[i]? = some y) : y.1 = hs.getD i 0 := by
  have hl := levelN_length ps hs false
  unfold treeL at h
  by_cases hi : i < (ps.length + 7) / 8
  · rw [List.getElem?_append_left (by rw [hl]; exact hi), levelN_get hi] at h
    cases h
    rfl
  · rw [List.getElem?_append_right (by rw [hl]; omega), hl] at h
    split at h
    · cases h
    · simp only [levelN, List.getElem?_map, Option.map_eq_some_iff] at h
      obtain ⟨a, ha, rfl⟩ := h
      obtain ⟨_, h2⟩ := List.getElem?_eq_some_iff.1 ha
      simp only [List.getElem_range] at h2
      subst h2
      simp only [List.getD_eq_getElem?_getD, List.getElem?_drop]
      congr 2
      omega
theorem levelN_fm {inner : Bool} {ps : List (En × Int)} (h : PtsOk inner ps) (h1 : 1 ≤ ps.length) (h64 : ps.length ≤ 64) (hs : List Int) : ∀ y ∈ levelN ps hs inner, Fm y.2 := by
  intro y hy
  simp only [levelN, List.mem_map, List.mem_range] at hy
  obtain ⟨i, hi, rfl⟩ := hy
  have hb := pcs_bd _ _ h1 h64 hi
  have hl := sub_length ps i h1 hi
  exact nodeOf_fm (h.sub i) (by omega) (by omega)
theorem treeL_fm {ps : List (En × Int)} (h : PtsOk false ps) (h1 : 1 ≤ ps.length) (h64 : ps.length ≤ 64) (hs : List Int) (hh : ∀ i, i < (ps.length + 7) / 8 → 0 < hs.getD i 0) : ∀ y ∈ treeL ps hs, Fm y.2 := by
  intro y hy
  unfold treeL at hy
  rcases List.mem_append.1 hy with hy | hy
  · exact levelN_fm h h1 h64 hs y hy
  · split at hy
    · cases hy
    · have hl := levelU_length ps hs
      exact levelN_fm (levelU_ok h h1 h64 hs hh) (by omega) (by omega) _ y hy

set_option maxRecDepth 100000 in
set_option maxHeartbeats 32000000 in
theorem buildTrees_calls (A : Option Addr) (c : Nat) (l : List Int) (m0 m1 m2 c0 c1 : Int) (w : World) (r : Rd encU 1 w A l) (hu : ∀ x ∈ l, 0 ≤ x ∧ x ≤ 255) :
    Calls Try.prog 4 #[.slice A l.length c, .agg #[.int .i64 m0, .int .i64 m1, .int .i64 m2], .agg #[.int .i64 c0, .int .i64 c1]] w (TruePost w) := by
  have hS := ((Sat.refl w).alloc [.int .i64 m0, .int .i64 m1, .int .i64 m2] 31).alloc [.int .i64 c0, .int .i64 c1] 34
  simp only [alloc_size] at hS
  by_cases hl : l.length ≤ 70
  case neg =>
    have hl2 : (70 : Int) < (l.length : Int) := by omega
    go_enter Try.func4, Try.ntmps4
    go_wp2_with (first
      | (go_at_call 15; (with_reducible refine (awake_calls _).mono ?_); rintro e w1 ⟨rfl, hk⟩; have hS1 := hS.call0 hk; clear hk hS)
      | (go_at_call 15; (with_reducible refine (awake_calls _).mono ?_); rintro e w2 ⟨rfl, hk⟩; have hS2 := hS1.call0 hk; clear hk hS1))
    go_ret
    exact ⟨rfl, hS2.right.right⟩
  case pos =>
  have hl2 : ¬ (70 : Int) < (l.length : Int) := by omega
  have hb := hS.right.right.below0
  obtain ⟨N, hN⟩ : ∃ N, N = count l.length := ⟨_, rfl⟩
  have hN9 : N ≤ 9 := by rw [hN]; exact count_le _ (by omega)
  have HN := Lib.hid hN
  clear hN hb
  go_enter Try.func4, Try.ntmps4
  go_upto_region 6 with (first
    | (go_at_call 15; go_loud (refine (awake_calls _).mono ?_); rintro e w1 ⟨rfl, hk⟩; go_loud (replace hS := hS.call0 hk; clear hk; have hp := hS.rot.cell; have hq := hS.cell))
    | (go_at_call 21; go_loud (refine (made21_calls A c l c0 m0 m1 m2 _ (r.below (sz := 1) (fun _ => rfl) hS.right.right.below0) (by omega) hu).mono ?_); rintro e w2 ⟨vE, lE, rfl, hlE, hk⟩; go_loud (unfold RowE at hk; replace hS := hS.lift hk; obtain ⟨bE, cE, rfl⟩ := row_shape hk; have HLE := Lib.hid hlE; rw [hlE] at hS ⊢; clear hk hp hq hlE))
    | (go_at_call 22; go_loud (refine (count_calls _ _).mono ?_); rintro e w3 ⟨rfl, hk⟩; go_loud (rw [Int.toNat_natCast, ← HN.out]; replace hS := hS.call0 hk; clear hk))
    | (go_at_call 17; go_loud (refine (handles_calls 100 N _ (by omega) (by omega)).mono ?_); rintro e w4 ⟨vH, rfl, hk⟩; go_loud (unfold RowI at hk; rw [handles_length] at hk; replace hS := hS.lift hk; obtain ⟨bH, cH, rfl⟩ := row_shape hk; clear hk)))
  have hN2 : (count l.length : Nat) = N := HN.out.symm
  by_cases ht : 0 ≤ c1 ∧ c1 < (N : Int)
  · obtain ⟨j, rfl⟩ : ∃ j : Nat, c1 = j := ⟨c1.toNat, by omega⟩
    obtain ⟨ht1, ht2⟩ := ht
    have ht3 : (j : Int) ≤ (N : Int) := by omega
    have HN2 := Lib.hid hN2
    clear hN2
    rcases hS.row_open with ⟨_, h9, _⟩ | ⟨gH, capH, hvH, hle, hcm, _⟩
    · omega
    cases hvH
    unfold maxLen at hcm
    cases hf : formedB lE with
    | true =>
      have HF := Lib.hid hf
      clear hf
      have hne : ((j : Int) != (N : Int)) = true := by rw [bne_iff_ne]; omega
      have hT : ∀ w', Rd En.cells 3 w' bE lE → Calls Try.prog 23 #[.slice bE l.length cE, .slice (some ⟨gH, 0, none⟩) j cH] w' (TreePost [] w') := by
        intro w' hr
        have := tree_no bE cE lE (some ⟨gH, 0, none⟩) cH ((handles 100 N).take j) w' hr (by rw [HLE.out]; omega) (Or.inr (by rw [List.length_take, handles_length, HLE.out, HN2.out]; omega))
        rwa [HLE.out, List.length_take, handles_length, Nat.min_eq_left (by omega)] at this
      have hF : ∀ w', Rd En.cells 3 w' bE lE → Calls Try.prog 24 #[.slice bE l.length cE] w' (FormedPost lE w') := by
        intro w' hr
        have := formed24_calls bE cE lE w' hr (by rw [HLE.out]; omega)
        rwa [HLE.out] at this
      have hrE : Rd En.cells 3 w4 bE lE := row_rd (enc := En.cells) (sz := 3) (cap := cE) (T := 31) (fun _ => rfl) (by rw [HLE.out]; exact hS.rot)
      have HT := Lib.hid hT
      have HFF := Lib.hid hF
      clear hT hF
      have hq := hS.b2.cell
      go_wp2_with (first
        | (go_at_call 23; go_loud (refine (HT.out _ hrE).mono ?_); rintro e w5 ⟨vT, x, cs, rfl, hpl, hk⟩; go_loud (obtain rfl : cs = [] := List.eq_nil_of_length_eq_zero hpl.1; simp only [List.length_nil, List.flatten_nil] at hk; replace hS := hS.lift2 hk; obtain ⟨bT, cT, rfl⟩ := row_shape hk; replace hrE := hrE.below (sz := 3) (fun _ => rfl) hk.right.right.below0; clear hk))
        | (go_at_call 24; go_loud (refine (HFF.out _ hrE).mono ?_); rintro e w6 ⟨rfl, hk⟩; go_loud (rw [HF.out]; replace hS := hS.call0 hk; clear hk))
        | (go_at_call 25; go_loud (refine (rcount_calls _ _).mono ?_); rintro e w7 ⟨rfl, hk⟩; go_loud (rw [Int.toNat_natCast, ← HN.out]; replace hS := hS.call0 hk; clear hk)))
      go_ret
      exact ⟨rfl, hS.right.right.right.right.right.right⟩
    | false =>
      have HF := Lib.hid hf
      clear hf
      have hT : ∀ w', Rd En.cells 3 w' bE lE → Calls Try.prog 23 #[.slice bE l.length cE, .slice (some ⟨gH, 0, none⟩) j cH] w' (TreePost [] w') := by
        intro w' hr
        have := tree_no bE cE lE (some ⟨gH, 0, none⟩) cH ((handles 100 N).take j) w' hr (by rw [HLE.out]; omega) (Or.inl HF.out)
        rwa [HLE.out, List.length_take, handles_length, Nat.min_eq_left (by omega)] at this
      have hF : ∀ w', Rd En.cells 3 w' bE lE → Calls Try.prog 24 #[.slice bE l.length cE] w' (FormedPost lE w') := by
        intro w' hr
        have := formed24_calls bE cE lE w' hr (by rw [HLE.out]; omega)
        rwa [HLE.out] at this
      have hrE : Rd En.cells 3 w4 bE lE := row_rd (enc := En.cells) (sz := 3) (cap := cE) (T := 31) (fun _ => rfl) (by rw [HLE.out]; exact hS.rot)
      have HT := Lib.hid hT
      have HFF := Lib.hid hF
      clear hT hF
      have hq := hS.b2.cell
      go_wp2_with (first
        | (go_at_call 23; go_loud (refine (HT.out _ hrE).mono ?_); rintro e w5 ⟨vT, x, cs, rfl, hpl, hk⟩; go_loud (obtain rfl : cs = [] := List.eq_nil_of_length_eq_zero hpl.1; simp only [List.length_nil, List.flatten_nil] at hk; replace hS := hS.lift2 hk; obtain ⟨bT, cT, rfl⟩ := row_shape hk; replace hrE := hrE.below (sz := 3) (fun _ => rfl) hk.right.right.below0; clear hk))
        | (go_at_call 24; go_loud (refine (HFF.out _ hrE).mono ?_); rintro e w6 ⟨rfl, hk⟩; go_loud (rw [HF.out]; replace hS := hS.call0 hk; clear hk)))
      go_ret
      exact ⟨rfl, hS.right.right.right.right.right.right⟩
  · have HN2 := Lib.hid hN2
    clear hN2
    cases hf : formedB lE with
    | false =>
      have HF := Lib.hid hf
      clear hf
      by_cases hc0 : 0 ≤ c1
      · have hc2 : ¬ c1 < (N : Int) := fun h => ht ⟨hc0, h⟩
        clear ht
        have hT : ∀ w', Rd En.cells 3 w' bE lE → Calls Try.prog 23 #[.slice bE l.length cE, .slice bH N cH] w' (TreePost [] w') := by
          intro w' hr
          have := tree_no bE cE lE bH cH ((handles 100 N).take N) w' hr (by rw [HLE.out]; omega) (Or.inl HF.out)
          rwa [HLE.out, List.length_take, handles_length, Nat.min_eq_left (by omega)] at this
        have hF : ∀ w', Rd En.cells 3 w' bE lE → Calls Try.prog 24 #[.slice bE l.length cE] w' (FormedPost lE w') := by
          intro w' hr
          have := formed24_calls bE cE lE w' hr (by rw [HLE.out]; omega)
          rwa [HLE.out] at this
        have hrE : Rd En.cells 3 w4 bE lE := row_rd (enc := En.cells) (sz := 3) (cap := cE) (T := 31) (fun _ => rfl) (by rw [HLE.out]; exact hS.rot)
        have HT := Lib.hid hT
        have HFF := Lib.hid hF
        clear hT hF
        have hq := hS.b2.cell
        go_wp2_with (first
          | (go_at_call 23; go_loud (refine (HT.out _ hrE).mono ?_); rintro e w5 ⟨vT, x, cs, rfl, hpl, hk⟩; go_loud (obtain rfl : cs = [] := List.eq_nil_of_length_eq_zero hpl.1; simp only [List.length_nil, List.flatten_nil] at hk; replace hS := hS.lift2 hk; obtain ⟨bT, cT, rfl⟩ := row_shape hk; replace hrE := hrE.below (sz := 3) (fun _ => rfl) hk.right.right.below0; clear hk))
          | (go_at_call 24; go_loud (refine (HFF.out _ hrE).mono ?_); rintro e w6 ⟨rfl, hk⟩; go_loud (rw [HF.out]; replace hS := hS.call0 hk; clear hk)))
        go_ret
        exact ⟨rfl, hS.right.right.right.right.right.right⟩
      · clear ht
        have hT : ∀ w', Rd En.cells 3 w' bE lE → Calls Try.prog 23 #[.slice bE l.length cE, .slice bH N cH] w' (TreePost [] w') := by
          intro w' hr
          have := tree_no bE cE lE bH cH ((handles 100 N).take N) w' hr (by rw [HLE.out]; omega) (Or.inl HF.out)
          rwa [HLE.out, List.length_take, handles_length, Nat.min_eq_left (by omega)] at this
        have hF : ∀ w', Rd En.cells 3 w' bE lE → Calls Try.prog 24 #[.slice bE l.length cE] w' (FormedPost lE w') := by
          intro w' hr
          have := formed24_calls bE cE lE w' hr (by rw [HLE.out]; omega)
          rwa [HLE.out] at this
        have hrE : Rd En.cells 3 w4 bE lE := row_rd (enc := En.cells) (sz := 3) (cap := cE) (T := 31) (fun _ => rfl) (by rw [HLE.out]; exact hS.rot)
        have HT := Lib.hid hT
        have HFF := Lib.hid hF
        clear hT hF
        have hq := hS.b2.cell
        go_wp2_with (first
          | (go_at_call 23; go_loud (refine (HT.out _ hrE).mono ?_); rintro e w5 ⟨vT, x, cs, rfl, hpl, hk⟩; go_loud (obtain rfl : cs = [] := List.eq_nil_of_length_eq_zero hpl.1; simp only [List.length_nil, List.flatten_nil] at hk; replace hS := hS.lift2 hk; obtain ⟨bT, cT, rfl⟩ := row_shape hk; replace hrE := hrE.below (sz := 3) (fun _ => rfl) hk.right.right.below0; clear hk))
          | (go_at_call 24; go_loud (refine (HFF.out _ hrE).mono ?_); rintro e w6 ⟨rfl, hk⟩; go_loud (rw [HF.out]; replace hS := hS.call0 hk; clear hk)))
        go_ret
        exact ⟨rfl, hS.right.right.right.right.right.right⟩
    | true =>
      have HF := Lib.hid hf
      obtain ⟨_, h1, h64⟩ := (formedB_iff lE).1 hf
      clear hf
      by_cases hc0 : 0 ≤ c1
      · have hc2 : ¬ c1 < (N : Int) := fun h => ht ⟨hc0, h⟩
        clear ht
        rcases hS.row_open with ⟨_, h9, _⟩ | ⟨gH, capH, hvH, hle, hcm, _⟩
        · have : 1 ≤ N := by
            have hc : ∀ m, m < 65 → 1 ≤ m → 1 ≤ count m := by decide +kernel
            rw [HN.out, ← HLE.out]
            exact hc _ (by omega) h1
          omega
        cases hvH
        rcases hS.rot.row_open with ⟨_, h9, _⟩ | ⟨gE, capE, hvE, hleE, hcmE, _⟩
        · have := HLE.out
          omega
        cases hvE
        have hTY : ∀ w', Rd En.cells 3 w' (some ⟨gE, 0, none⟩) lE → Rd encI 1 w' (some ⟨gH, 0, none⟩) (handles 100 N) → Calls Try.prog 23 #[.slice (some ⟨gE, 0, none⟩) l.length cE, .slice (some ⟨gH, 0, none⟩) N cH] w' (TreePost (treeL (parts lE) (handles 100 N)) w') := by
          intro w' a1 a2
          have := tree_yes (some ⟨gE, 0, none⟩) cE lE (some ⟨gH, 0, none⟩) cH (handles 100 N) w' a1 a2 HF.out (by rw [handles_length, HLE.out]; exact HN.out) (by have := aboveB_take (handles_above 100 N (by omega)) N; rwa [List.take_of_length_le (by rw [handles_length]; exact Nat.le_refl _)] at this) (by rw [handles_length]; exact hle) hcm
          rwa [HLE.out, handles_length] at this
        have hRT : ∀ w', Rd En.cells 3 w' (some ⟨gE, 0, none⟩) lE → Rd encI 1 w' (some ⟨gH, 0, none⟩) (handles 100 N) → Calls Try.prog 26 #[.slice (some ⟨gE, 0, none⟩) l.length cE, .slice (some ⟨gH, 0, none⟩) N cH] w' (RTreePost ((treeL (parts lE) (handles 100 N)).map (·.2)) w') := by
          intro w' a1 a2
          have := rtree_calls (some ⟨gE, 0, none⟩) cE lE (some ⟨gH, 0, none⟩) cH (handles 100 N) w' a1 a2 HF.out (by rw [handles_length, HLE.out]; exact HN.out) (by have := aboveB_take (handles_above 100 N (by omega)) N; rwa [List.take_of_length_le (by rw [handles_length]; exact Nat.le_refl _)] at this) (by rw [HLE.out]; exact hleE) hcmE
          rwa [HLE.out, handles_length] at this
        have hF : ∀ w', Rd En.cells 3 w' (some ⟨gE, 0, none⟩) lE → Calls Try.prog 24 #[.slice (some ⟨gE, 0, none⟩) l.length cE] w' (FormedPost lE w') := by
          intro w' hr
          have := formed24_calls (some ⟨gE, 0, none⟩) cE lE w' hr (by rw [HLE.out]; omega)
          rwa [HLE.out] at this
        have hfst : ∀ (i : Nat) (y : Int × Nd), (treeL (parts lE) (handles 100 N))[i]? = some y → i < N → y.1 = 65536 + (100 + (i : Int)) := by
          intro i y hy hi
          rw [treeL_fst hy, List.getD_eq_getElem?_getD, handles_get _ _ _ hi]
          rfl
        have hfm : ∀ y ∈ treeL (parts lE) (handles 100 N), Fm y.2 := by
          have hc : ∀ m, m < 65 → 1 ≤ m → (m + 7) / 8 ≤ count m := by decide +kernel
          refine treeL_fm (parts_ok HF.out) (by rw [parts_length]; exact h1) (by rw [parts_length]; exact h64) _ (fun i hi => ?_)
          rw [parts_length] at hi
          have := hc lE.length (by omega) h1
          have hN3 := HN.out
          rw [HLE.out] at hi this
          rw [List.getD_eq_getElem?_getD, handles_get _ _ _ (by omega)]
          show 0 < 65536 + (100 + (i : Int))
          omega
        have hln : (treeL (parts lE) (handles 100 N)).length = N := by
          have hc : ∀ m, m < 65 → 1 ≤ m → count m = (m + 7) / 8 + if (m + 7) / 8 = 1 then 0 else ((m + 7) / 8 + 7) / 8 := by decide +kernel
          rw [HN.out, ← HLE.out, hc lE.length (by omega) h1]
          unfold treeL
          rw [List.length_append, levelN_length, parts_length]
          congr 1
          split
          · rfl
          · rw [levelN_length, levelU_length, parts_length]
        have hrE : Rd En.cells 3 w4 (some ⟨gE, 0, none⟩) lE := row_rd (enc := En.cells) (sz := 3) (cap := cE) (T := 31) (fun _ => rfl) (by rw [HLE.out]; exact hS.rot)
        have hrH : Rd encI 1 w4 (some ⟨gH, 0, none⟩) (handles 100 N) := row_rd (enc := encI) (sz := 1) (cap := cH) (T := 2) (fun _ => rfl) (by rw [handles_length, ← vi_flat]; exact hS)
        generalize treeL (parts lE) (handles 100 N) = L at *
        have HTY := Lib.hid hTY
        have HRT := Lib.hid hRT
        have HFF := Lib.hid hF
        have HFST := Lib.hid hfst
        have HFM := Lib.hid hfm
        have HLN := Lib.hid hln
        clear hTY hRT hF hfst hfm hln
        have hq := hS.b2.cell
        unfold maxLen at hcm hcmE
        go_wp2_with (first
          | (go_at_call 23; go_loud (refine (HTY.out _ hrE hrH).mono ?_); rintro e w5 ⟨vT, x, cs, rfl, hpl, hk⟩; go_loud (rw [HLN.out] at hk; replace hS := hS.lift2 hk; obtain ⟨bT, cT, rfl⟩ := row_shape hk; replace hrE := hrE.below (sz := 3) (fun _ => rfl) hk.right.right.below0; replace hrH := hrH.below (sz := 1) (fun _ => rfl) hk.right.right.below0; clear hk; have HPL := Lib.hid hpl; clear hpl))
          | (go_at_call 24; go_loud (refine (HFF.out _ hrE).mono ?_); rintro e w6 ⟨rfl, hk⟩; go_loud (rw [HF.out]; replace hS := hS.call0 hk; replace hrE := hrE.below (sz := 3) (fun _ => rfl) hk.below0; replace hrH := hrH.below (sz := 1) (fun _ => rfl) hk.below0; clear hk))
          | (go_at_call 25; go_loud (refine (rcount_calls _ _).mono ?_); rintro e w7 ⟨rfl, hk⟩; go_loud (rw [Int.toNat_natCast, ← HN.out]; replace hS := hS.call0 hk; replace hrE := hrE.below (sz := 3) (fun _ => rfl) hk.below0; replace hrH := hrH.below (sz := 1) (fun _ => rfl) hk.below0; clear hk))
          | (go_at_call 26; go_loud (refine (HRT.out _ hrE hrH).mono ?_); rintro e w8 ⟨vR, x2, ds, rfl, hnd, hk⟩; go_loud (rw [List.length_map, HLN.out] at hk; replace hS := hS.lift2 hk; obtain ⟨bR, cR, rfl⟩ := row_shape hk; clear hk hrE; have HND := Lib.hid hnd; clear hnd)))
        go_loopg [12] N (fun gk v12 w' => ∃ i : Nat, i + gk = N ∧ v12 = .int .i64 i ∧ Sat w w' (row (.slice bR N cR) 43 5 N ds.flatten * (RO x2 * (row (.slice bT N cT) 45 6 N cs.flatten * (RO x * (row (.slice (some ⟨gH, 0, none⟩) N cH) 2 1 N (vi (handles 100 N)) * Old w))))))
        case atStart => exact ⟨0, by omega, rfl, hS.b5.right.b5.right.b5.right⟩
        case round =>
          clear hS hq hrH
          obtain ⟨i, hgk, rfl, hS⟩ := hrel
          have HG := Lib.hid hgk
          have hi : i ≤ N := by omega
          clear hgk
          by_cases hlt : i < N
          case neg =>
            go_wp2
            go_ret
            exact ⟨rfl, hS.right.right.right.right.right⟩
          case pos =>
          obtain ⟨y, hy⟩ : ∃ y, L[i]? = some y := ⟨L[i]'(by rw [HLN.out]; exact hlt), by simp⟩
          have hyf := HFST.out i y hy hlt
          have HYM := Lib.hid (HFM.out y (List.mem_of_getElem? hy))
          obtain ⟨ct, hct⟩ : ∃ z, cs[i]? = some z := ⟨cs[i]'(by rw [HPL.out.1, HLN.out]; exact hlt), by simp⟩
          obtain ⟨cr, hcr⟩ : ∃ z, ds[i]? = some z := ⟨ds[i]'(by rw [HND.out.1, List.length_map, HLN.out]; exact hlt), by simp⟩
          obtain ⟨t, ht2, hnt⟩ := HPL.out.2 i ct y hct hy
          have hnr := HND.out.2 i cr y.2 hcr (by rw [List.getElem?_map, hy]; rfl)
          obtain ⟨A1, a1, A2, a2, A3, a3, rfl, rA1, rA2, rA3⟩ := hnt
          subst ht2
          obtain ⟨B1, b1, B2, b2, B3, b3, rfl, rB1, rB2, rB3⟩ := hnr
          have six := HPL.out.six
          have five := HND.out.five
          obtain ⟨gT, rfl, hcT⟩ : ∃ g, bT = some ⟨g, 0, none⟩ ∧ ∀ j, j < 6 → wr.cell? ⟨g, i * 6 + j, none⟩ = [Value.int .i64 y.1, .bool y.2.inner, .int .i64 y.2.lo, .slice A1 y.2.ends.length a1, .slice A2 y.2.slots.length a2, .slice A3 y.2.gaps.length a3][j]? := by
            rcases hS.b2.row_open with ⟨_, h9, _⟩ | ⟨g, cap, hv, _, _, _, hc, _⟩
            · omega
            · cases hv
              refine ⟨_, rfl, fun j hj => ?_⟩
              rw [hc _ (by omega), flatten_get six hct hj]
          obtain ⟨gR, rfl, hcR⟩ : ∃ g, bR = some ⟨g, 0, none⟩ ∧ ∀ j, j < 5 → wr.cell? ⟨g, i * 5 + j, none⟩ = [Value.bool y.2.inner, .int .i64 y.2.lo, .slice B1 y.2.ends.length b1, .slice B2 y.2.slots.length b2, .slice B3 y.2.gaps.length b3][j]? := by
            rcases hS.row_open with ⟨_, h9, _⟩ | ⟨g, cap, hv, _, _, _, hc, _⟩
            · omega
            · cases hv
              refine ⟨_, rfl, fun j hj => ?_⟩
              rw [hc _ (by omega), flatten_get five hcr hj]
          have p0 := hcT 0 (by omega)
          have p1 := hcT 1 (by omega)
          have p2 := hcT 2 (by omega)
          have p3 := hcT 3 (by omega)
          have p4 := hcT 4 (by omega)
          have p5 := hcT 5 (by omega)
          have q0 := hcR 0 (by omega)
          have q1 := hcR 1 (by omega)
          have q2 := hcR 2 (by omega)
          have q3 := hcR 3 (by omega)
          have q4 := hcR 4 (by omega)
          simp only [List.getElem?_cons_zero, List.getElem?_cons_succ, Nat.add_zero, hyf] at p0 p1 p2 p3 p4 p5 q0 q1 q2 q3 q4
          have p2' : wr.cell? ⟨gT, i * 6 + 1 + 1, none⟩ = _ := p2
          have p3' : wr.cell? ⟨gT, i * 6 + 1 + 2, none⟩ = _ := p3
          have p4' : wr.cell? ⟨gT, i * 6 + 1 + 3, none⟩ = _ := p4
          have p5' : wr.cell? ⟨gT, i * 6 + 1 + 4, none⟩ = _ := p5
          have hrH := row_rd (enc := encI) (sz := 1) (l := handles 100 N) (b := some ⟨gH, 0, none⟩) (cap := cH) (T := 2) (fun _ => rfl) (by rw [handles_length, ← vi_flat]; exact hS.b4)
          have d0 := hrH.num (handles_get 100 N i hlt)
          rw [Nat.zero_add] at d0
          have hcR2 : ∀ (w' : World) (F : As), Sat w w' (row (.slice (some ⟨gR, 0, none⟩) N cR) 43 5 N ds.flatten * F) → ∀ j, j < 5 → w'.cell? ⟨gR, i * 5 + j, none⟩ = [Value.bool y.2.inner, .int .i64 y.2.lo, .slice B1 y.2.ends.length b1, .slice B2 y.2.slots.length b2, .slice B3 y.2.gaps.length b3][j]? := by
            intro w' F hF j hj
            rcases hF.row_open with ⟨h9, _⟩ | ⟨g, cap, hv, _, _, _, hc, _⟩
            · cases h9
            · cases hv
              rw [hc _ (by omega), flatten_get five hcr hj]
          have HCR := Lib.hid hcR2
          clear hcR2
          have lx2 := hS.rot.ro_le
          have lx := hS.b3.ro_le
          have small : NdSmall y.2 := by
            have k8 := HYM.out.k8
            have ks := HYM.out.ks
            have kg := HYM.out.kg
            exact ⟨by omega, by omega, by omega⟩
          have hsn := sameNode_calls y.2 A1 A2 A3 B1 B2 B3 a1 a2 a3 b1 b2 b3 wr.drew small (RdH.rd (sz := 1) (fun _ => rfl) lx rA1) (RdH.rd (sz := 1) (fun _ => rfl) lx rA2) (RdH.rd (sz := 1) (fun _ => rfl) lx rA3) (RdH.rd (sz := 1) (fun _ => rfl) lx2 rB1) (RdH.rd (sz := 1) (fun _ => rfl) lx2 rB2) (RdH.rd (sz := 1) (fun _ => rfl) lx2 rB3)
          have hrf : ∀ w', x2.Le (hp w') → Calls Try.prog 28 #[.agg #[.bool y.2.inner, .int .i64 y.2.lo, .slice B1 y.2.ends.length b1, .slice B2 y.2.slots.length b2, .slice B3 y.2.gaps.length b3]] w' (TruePost w') :=
            fun w' le => rformed15_calls y.2 B1 B2 B3 b1 b2 b3 w' HYM.out (RdH.rd (sz := 1) (fun _ => rfl) le rB1) (RdH.rd (sz := 1) (fun _ => rfl) le rB2) (RdH.rd (sz := 1) (fun _ => rfl) le rB3)
          have HSN := Lib.hid hsn
          have HRF := Lib.hid hrf
          clear hsn hrf hcT hcR hrH lx lx2 small rA1 rA2 rA3 rB1 rB2 rB3 six five hct hcr hy hyf p2 p3 p4 p5
          generalize y.2 = nd at *
          have z1 : (0 : Int) ≤ (i : Int) := by omega
          have z2 : (i : Int) < (N : Int) := by omega
          go_wp2
          replace hS := hS.drew
          refine wp_region_ct (.rd 0 (.rd 1 (.rd 2 (.rd 3 (.rd 4 (.rd 5 (.rd 6 (.rd 7 (.rd 8 (.rd 9 (.rd 10 (.rd 11 (.rd 12 (.rd 13 (.rd 14 (.rd 15 (.rd 16 (.rd 17 (.rd 18 (.rd 19 (.wr 20 [] (.rd 21 (.rd 22 (.rd 23 (.rd 24 (.rd 25 (.rd 26 (.rd 27 (.wr 28 [] (.rd 29 (.rd 30 .fin)) .stop)))))))) .stop))))))))))))))))))))) 106 mixed (by kernel_rfl) (Nat.le_refl _) (fun c a a' w e h => ⟨e ▸ h.1, h.2⟩) ?_
          repeat' (first | (refine wpC_rdp rfl rfl (fun K hK => ?_); go_simp; (try go_bits)) | (refine wpC_rdg rfl rfl rfl (fun K hK => ?_); go_simp; (try go_bits)) | (refine hK _ ?_; clear hK K))
          refine wpC_wrg rfl rfl rfl (by go_simp) (fun R hR => ?_)
          go_wp2_with (go_at_call 27; go_loud (refine HSN.out.mono ?_); rintro e w9 ⟨rfl, hk⟩; go_loud (replace hS := hS.call0 hk; clear hk p0 p1 p2' p3' p4' p5' d0; have hcR := HCR.out _ _ hS; have r0 := hcR 0 (by omega); have r1 := hcR 1 (by omega); have r2 := hcR 2 (by omega); have r3 := hcR 3 (by omega); have r4 := hcR 4 (by omega); simp only [List.getElem?_cons_zero, List.getElem?_cons_succ, Nat.add_zero] at r0 r1 r2 r3 r4; have lx3 := hS.rot.ro_le; clear hcR q0 q1 q2 q3 q4))
          refine hR _ _ obl_nil ?_
          clear hR R
          repeat' (first | (refine wpC_rdp rfl rfl (fun K hK => ?_); go_simp; (try go_bits)) | (refine wpC_rdg rfl rfl rfl (fun K hK => ?_); go_simp; (try go_bits)) | (refine hK _ ?_; clear hK K))
          refine wpC_wrg rfl rfl rfl (by go_simp) (fun R hR => ?_)
          go_wp2_with (go_at_call 28; go_loud (refine (HRF.out _ lx3).mono ?_); rintro e w10 ⟨rfl, hk⟩; go_loud (replace hS := hS.call0 hk; clear hk))
          refine hR _ _ obl_nil ?_
          clear hR R
          repeat' (first | (refine wpC_rdp rfl rfl (fun K hK => ?_); go_simp; (try go_bits)) | (refine wpC_rdg rfl rfl rfl (fun K hK => ?_); go_simp; (try go_bits)) | (refine hK _ ?_; clear hK K))
          refine wpC_fin ?_
          go_wp2
          go_roundg (gk - 1)
          case measure => have := HG.out; omega
          case rel => exact ⟨i + 1, by have := HG.out; omega, by go_num, hS⟩
      · clear ht
        rcases hS.row_open with ⟨_, h9, _⟩ | ⟨gH, capH, hvH, hle, hcm, _⟩
        · have : 1 ≤ N := by
            have hc : ∀ m, m < 65 → 1 ≤ m → 1 ≤ count m := by decide +kernel
            rw [HN.out, ← HLE.out]
            exact hc _ (by omega) h1
          omega
        cases hvH
        rcases hS.rot.row_open with ⟨_, h9, _⟩ | ⟨gE, capE, hvE, hleE, hcmE, _⟩
        · have := HLE.out
          omega
        cases hvE
        have hTY : ∀ w', Rd En.cells 3 w' (some ⟨gE, 0, none⟩) lE → Rd encI 1 w' (some ⟨gH, 0, none⟩) (handles 100 N) → Calls Try.prog 23 #[.slice (some ⟨gE, 0, none⟩) l.length cE, .slice (some ⟨gH, 0, none⟩) N cH] w' (TreePost (treeL (parts lE) (handles 100 N)) w') := by
          intro w' a1 a2
          have := tree_yes (some ⟨gE, 0, none⟩) cE lE (some ⟨gH, 0, none⟩) cH (handles 100 N) w' a1 a2 HF.out (by rw [handles_length, HLE.out]; exact HN.out) (by have := aboveB_take (handles_above 100 N (by omega)) N; rwa [List.take_of_length_le (by rw [handles_length]; exact Nat.le_refl _)] at this) (by rw [handles_length]; exact hle) hcm
          rwa [HLE.out, handles_length] at this
        have hRT : ∀ w', Rd En.cells 3 w' (some ⟨gE, 0, none⟩) lE → Rd encI 1 w' (some ⟨gH, 0, none⟩) (handles 100 N) → Calls Try.prog 26 #[.slice (some ⟨gE, 0, none⟩) l.length cE, .slice (some ⟨gH, 0, none⟩) N cH] w' (RTreePost ((treeL (parts lE) (handles 100 N)).map (·.2)) w') := by
          intro w' a1 a2
          have := rtree_calls (some ⟨gE, 0, none⟩) cE lE (some ⟨gH, 0, none⟩) cH (handles 100 N) w' a1 a2 HF.out (by rw [handles_length, HLE.out]; exact HN.out) (by have := aboveB_take (handles_above 100 N (by omega)) N; rwa [List.take_of_length_le (by rw [handles_length]; exact Nat.le_refl _)] at this) (by rw [HLE.out]; exact hleE) hcmE
          rwa [HLE.out, handles_length] at this
        have hF : ∀ w', Rd En.cells 3 w' (some ⟨gE, 0, none⟩) lE → Calls Try.prog 24 #[.slice (some ⟨gE, 0, none⟩) l.length cE] w' (FormedPost lE w') := by
          intro w' hr
          have := formed24_calls (some ⟨gE, 0, none⟩) cE lE w' hr (by rw [HLE.out]; omega)
          rwa [HLE.out] at this
        have hfst : ∀ (i : Nat) (y : Int × Nd), (treeL (parts lE) (handles 100 N))[i]? = some y → i < N → y.1 = 65536 + (100 + (i : Int)) := by
          intro i y hy hi
          rw [treeL_fst hy, List.getD_eq_getElem?_getD, handles_get _ _ _ hi]
          rfl
        have hfm : ∀ y ∈ treeL (parts lE) (handles 100 N), Fm y.2 := by
          have hc : ∀ m, m < 65 → 1 ≤ m → (m + 7) / 8 ≤ count m := by decide +kernel
          refine treeL_fm (parts_ok HF.out) (by rw [parts_length]; exact h1) (by rw [parts_length]; exact h64) _ (fun i hi => ?_)
          rw [parts_length] at hi
          have := hc lE.length (by omega) h1
          have hN3 := HN.out
          rw [HLE.out] at hi this
          rw [List.getD_eq_getElem?_getD, handles_get _ _ _ (by omega)]
          show 0 < 65536 + (100 + (i : Int))
          omega
        have hln : (treeL (parts lE) (handles 100 N)).length = N := by
          have hc : ∀ m, m < 65 → 1 ≤ m → count m = (m + 7) / 8 + if (m + 7) / 8 = 1 then 0 else ((m + 7) / 8 + 7) / 8 := by decide +kernel
          rw [HN.out, ← HLE.out, hc lE.length (by omega) h1]
          unfold treeL
          rw [List.length_append, levelN_length, parts_length]
          congr 1
          split
          · rfl
          · rw [levelN_length, levelU_length, parts_length]
        have hrE : Rd En.cells 3 w4 (some ⟨gE, 0, none⟩) lE := row_rd (enc := En.cells) (sz := 3) (cap := cE) (T := 31) (fun _ => rfl) (by rw [HLE.out]; exact hS.rot)
        have hrH : Rd encI 1 w4 (some ⟨gH, 0, none⟩) (handles 100 N) := row_rd (enc := encI) (sz := 1) (cap := cH) (T := 2) (fun _ => rfl) (by rw [handles_length, ← vi_flat]; exact hS)
        generalize treeL (parts lE) (handles 100 N) = L at *
        have HTY := Lib.hid hTY
        have HRT := Lib.hid hRT
        have HFF := Lib.hid hF
        have HFST := Lib.hid hfst
        have HFM := Lib.hid hfm
        have HLN := Lib.hid hln
        clear hTY hRT hF hfst hfm hln
        have hq := hS.b2.cell
        unfold maxLen at hcm hcmE
        go_wp2_with (first
          | (go_at_call 23; go_loud (refine (HTY.out _ hrE hrH).mono ?_); rintro e w5 ⟨vT, x, cs, rfl, hpl, hk⟩; go_loud (rw [HLN.out] at hk; replace hS := hS.lift2 hk; obtain ⟨bT, cT, rfl⟩ := row_shape hk; replace hrE := hrE.below (sz := 3) (fun _ => rfl) hk.right.right.below0; replace hrH := hrH.below (sz := 1) (fun _ => rfl) hk.right.right.below0; clear hk; have HPL := Lib.hid hpl; clear hpl))
          | (go_at_call 24; go_loud (refine (HFF.out _ hrE).mono ?_); rintro e w6 ⟨rfl, hk⟩; go_loud (rw [HF.out]; replace hS := hS.call0 hk; replace hrE := hrE.below (sz := 3) (fun _ => rfl) hk.below0; replace hrH := hrH.below (sz := 1) (fun _ => rfl) hk.below0; clear hk))
          | (go_at_call 25; go_loud (refine (rcount_calls _ _).mono ?_); rintro e w7 ⟨rfl, hk⟩; go_loud (rw [Int.toNat_natCast, ← HN.out]; replace hS := hS.call0 hk; replace hrE := hrE.below (sz := 3) (fun _ => rfl) hk.below0; replace hrH := hrH.below (sz := 1) (fun _ => rfl) hk.below0; clear hk))
          | (go_at_call 26; go_loud (refine (HRT.out _ hrE hrH).mono ?_); rintro e w8 ⟨vR, x2, ds, rfl, hnd, hk⟩; go_loud (rw [List.length_map, HLN.out] at hk; replace hS := hS.lift2 hk; obtain ⟨bR, cR, rfl⟩ := row_shape hk; clear hk hrE; have HND := Lib.hid hnd; clear hnd)))
        go_loopg [12] N (fun gk v12 w' => ∃ i : Nat, i + gk = N ∧ v12 = .int .i64 i ∧ Sat w w' (row (.slice bR N cR) 43 5 N ds.flatten * (RO x2 * (row (.slice bT N cT) 45 6 N cs.flatten * (RO x * (row (.slice (some ⟨gH, 0, none⟩) N cH) 2 1 N (vi (handles 100 N)) * Old w))))))
        case atStart => exact ⟨0, by omega, rfl, hS.b5.right.b5.right.b5.right⟩
        case round =>
          clear hS hq hrH
          obtain ⟨i, hgk, rfl, hS⟩ := hrel
          have HG := Lib.hid hgk
          have hi : i ≤ N := by omega
          clear hgk
          by_cases hlt : i < N
          case neg =>
            go_wp2
            go_ret
            exact ⟨rfl, hS.right.right.right.right.right⟩
          case pos =>
          obtain ⟨y, hy⟩ : ∃ y, L[i]? = some y := ⟨L[i]'(by rw [HLN.out]; exact hlt), by simp⟩
          have hyf := HFST.out i y hy hlt
          have HYM := Lib.hid (HFM.out y (List.mem_of_getElem? hy))
          obtain ⟨ct, hct⟩ : ∃ z, cs[i]? = some z := ⟨cs[i]'(by rw [HPL.out.1, HLN.out]; exact hlt), by simp⟩
          obtain ⟨cr, hcr⟩ : ∃ z, ds[i]? = some z := ⟨ds[i]'(by rw [HND.out.1, List.length_map, HLN.out]; exact hlt), by simp⟩
          obtain ⟨t, ht2, hnt⟩ := HPL.out.2 i ct y hct hy
          have hnr := HND.out.2 i cr y.2 hcr (by rw [List.getElem?_map, hy]; rfl)
          obtain ⟨A1, a1, A2, a2, A3, a3, rfl, rA1, rA2, rA3⟩ := hnt
          subst ht2
          obtain ⟨B1, b1, B2, b2, B3, b3, rfl, rB1, rB2, rB3⟩ := hnr
          have six := HPL.out.six
          have five := HND.out.five
          obtain ⟨gT, rfl, hcT⟩ : ∃ g, bT = some ⟨g, 0, none⟩ ∧ ∀ j, j < 6 → wr.cell? ⟨g, i * 6 + j, none⟩ = [Value.int .i64 y.1, .bool y.2.inner, .int .i64 y.2.lo, .slice A1 y.2.ends.length a1, .slice A2 y.2.slots.length a2, .slice A3 y.2.gaps.length a3][j]? := by
            rcases hS.b2.row_open with ⟨_, h9, _⟩ | ⟨g, cap, hv, _, _, _, hc, _⟩
            · omega
            · cases hv
              refine ⟨_, rfl, fun j hj => ?_⟩
              rw [hc _ (by omega), flatten_get six hct hj]
          obtain ⟨gR, rfl, hcR⟩ : ∃ g, bR = some ⟨g, 0, none⟩ ∧ ∀ j, j < 5 → wr.cell? ⟨g, i * 5 + j, none⟩ = [Value.bool y.2.inner, .int .i64 y.2.lo, .slice B1 y.2.ends.length b1, .slice B2 y.2.slots.length b2, .slice B3 y.2.gaps.length b3][j]? := by
            rcases hS.row_open with ⟨_, h9, _⟩ | ⟨g, cap, hv, _, _, _, hc, _⟩
            · omega
            · cases hv
              refine ⟨_, rfl, fun j hj => ?_⟩
              rw [hc _ (by omega), flatten_get five hcr hj]
          have p0 := hcT 0 (by omega)
          have p1 := hcT 1 (by omega)
          have p2 := hcT 2 (by omega)
          have p3 := hcT 3 (by omega)
          have p4 := hcT 4 (by omega)
          have p5 := hcT 5 (by omega)
          have q0 := hcR 0 (by omega)
          have q1 := hcR 1 (by omega)
          have q2 := hcR 2 (by omega)
          have q3 := hcR 3 (by omega)
          have q4 := hcR 4 (by omega)
          simp only [List.getElem?_cons_zero, List.getElem?_cons_succ, Nat.add_zero, hyf] at p0 p1 p2 p3 p4 p5 q0 q1 q2 q3 q4
          have p2' : wr.cell? ⟨gT, i * 6 + 1 + 1, none⟩ = _ := p2
          have p3' : wr.cell? ⟨gT, i * 6 + 1 + 2, none⟩ = _ := p3
          have p4' : wr.cell? ⟨gT, i * 6 + 1 + 3, none⟩ = _ := p4
          have p5' : wr.cell? ⟨gT, i * 6 + 1 + 4, none⟩ = _ := p5
          have hrH := row_rd (enc := encI) (sz := 1) (l := handles 100 N) (b := some ⟨gH, 0, none⟩) (cap := cH) (T := 2) (fun _ => rfl) (by rw [handles_length, ← vi_flat]; exact hS.b4)
          have d0 := hrH.num (handles_get 100 N i hlt)
          rw [Nat.zero_add] at d0
          have hcR2 : ∀ (w' : World) (F : As), Sat w w' (row (.slice (some ⟨gR, 0, none⟩) N cR) 43 5 N ds.flatten * F) → ∀ j, j < 5 → w'.cell? ⟨gR, i * 5 + j, none⟩ = [Value.bool y.2.inner, .int .i64 y.2.lo, .slice B1 y.2.ends.length b1, .slice B2 y.2.slots.length b2, .slice B3 y.2.gaps.length b3][j]? := by
            intro w' F hF j hj
            rcases hF.row_open with ⟨h9, _⟩ | ⟨g, cap, hv, _, _, _, hc, _⟩
            · cases h9
            · cases hv
              rw [hc _ (by omega), flatten_get five hcr hj]
          have HCR := Lib.hid hcR2
          clear hcR2
          have lx2 := hS.rot.ro_le
          have lx := hS.b3.ro_le
          have small : NdSmall y.2 := by
            have k8 := HYM.out.k8
            have ks := HYM.out.ks
            have kg := HYM.out.kg
            exact ⟨by omega, by omega, by omega⟩
          have hsn := sameNode_calls y.2 A1 A2 A3 B1 B2 B3 a1 a2 a3 b1 b2 b3 wr.drew small (RdH.rd (sz := 1) (fun _ => rfl) lx rA1) (RdH.rd (sz := 1) (fun _ => rfl) lx rA2) (RdH.rd (sz := 1) (fun _ => rfl) lx rA3) (RdH.rd (sz := 1) (fun _ => rfl) lx2 rB1) (RdH.rd (sz := 1) (fun _ => rfl) lx2 rB2) (RdH.rd (sz := 1) (fun _ => rfl) lx2 rB3)
          have hrf : ∀ w', x2.Le (hp w') → Calls Try.prog 28 #[.agg #[.bool y.2.inner, .int .i64 y.2.lo, .slice B1 y.2.ends.length b1, .slice B2 y.2.slots.length b2, .slice B3 y.2.gaps.length b3]] w' (TruePost w') :=
            fun w' le => rformed15_calls y.2 B1 B2 B3 b1 b2 b3 w' HYM.out (RdH.rd (sz := 1) (fun _ => rfl) le rB1) (RdH.rd (sz := 1) (fun _ => rfl) le rB2) (RdH.rd (sz := 1) (fun _ => rfl) le rB3)
          have HSN := Lib.hid hsn
          have HRF := Lib.hid hrf
          clear hsn hrf hcT hcR hrH lx lx2 small rA1 rA2 rA3 rB1 rB2 rB3 six five hct hcr hy hyf p2 p3 p4 p5
          generalize y.2 = nd at *
          have z1 : (0 : Int) ≤ (i : Int) := by omega
          have z2 : (i : Int) < (N : Int) := by omega
          go_wp2
          replace hS := hS.drew
          refine wp_region_ct (.rd 0 (.rd 1 (.rd 2 (.rd 3 (.rd 4 (.rd 5 (.rd 6 (.rd 7 (.rd 8 (.rd 9 (.rd 10 (.rd 11 (.rd 12 (.rd 13 (.rd 14 (.rd 15 (.rd 16 (.rd 17 (.rd 18 (.rd 19 (.wr 20 [] (.rd 21 (.rd 22 (.rd 23 (.rd 24 (.rd 25 (.rd 26 (.rd 27 (.wr 28 [] (.rd 29 (.rd 30 .fin)) .stop)))))))) .stop))))))))))))))))))))) 106 mixed (by kernel_rfl) (Nat.le_refl _) (fun c a a' w e h => ⟨e ▸ h.1, h.2⟩) ?_
          repeat' (first | (refine wpC_rdp rfl rfl (fun K hK => ?_); go_simp; (try go_bits)) | (refine wpC_rdg rfl rfl rfl (fun K hK => ?_); go_simp; (try go_bits)) | (refine hK _ ?_; clear hK K))
          refine wpC_wrg rfl rfl rfl (by go_simp) (fun R hR => ?_)
          go_wp2_with (go_at_call 27; go_loud (refine HSN.out.mono ?_); rintro e w9 ⟨rfl, hk⟩; go_loud (replace hS := hS.call0 hk; clear hk p0 p1 p2' p3' p4' p5' d0; have hcR := HCR.out _ _ hS; have r0 := hcR 0 (by omega); have r1 := hcR 1 (by omega); have r2 := hcR 2 (by omega); have r3 := hcR 3 (by omega); have r4 := hcR 4 (by omega); simp only [List.getElem?_cons_zero, List.getElem?_cons_succ, Nat.add_zero] at r0 r1 r2 r3 r4; have lx3 := hS.rot.ro_le; clear hcR q0 q1 q2 q3 q4))
          refine hR _ _ obl_nil ?_
          clear hR R
          repeat' (first | (refine wpC_rdp rfl rfl (fun K hK => ?_); go_simp; (try go_bits)) | (refine wpC_rdg rfl rfl rfl (fun K hK => ?_); go_simp; (try go_bits)) | (refine hK _ ?_; clear hK K))
          refine wpC_wrg rfl rfl rfl (by go_simp) (fun R hR => ?_)
          go_wp2_with (go_at_call 28; go_loud (refine (HRF.out _ lx3).mono ?_); rintro e w10 ⟨rfl, hk⟩; go_loud (replace hS := hS.call0 hk; clear hk))
          refine hR _ _ obl_nil ?_
          clear hR R
          repeat' (first | (refine wpC_rdp rfl rfl (fun K hK => ?_); go_simp; (try go_bits)) | (refine wpC_rdg rfl rfl rfl (fun K hK => ?_); go_simp; (try go_bits)) | (refine hK _ ?_; clear hK K))
          refine wpC_fin ?_
          go_wp2
          go_roundg (gk - 1)
          case measure => have := HG.out; omega
          case rel => exact ⟨i + 1, by have := HG.out; omega, by go_num, hS⟩
end Go.Proofs.Ytpiobilidhmedaa
