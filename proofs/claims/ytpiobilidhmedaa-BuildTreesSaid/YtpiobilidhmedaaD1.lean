/-
  What samaralaw18.BuildEntries answers: true, whatever is asked.
-/
import Derived.Test.YtpiobilidhmedaaC3
namespace Go.Proofs.Ytpiobilidhmedaa
open Go.RowKit Go.Sl Go.Ct
set_option linter.unusedVariables false
set_option linter.unusedSimpArgs false

theorem ents_len (A : List Ar) (H : List Int) (h : A.length ≤ 100000) : (ents A H).length ≤ 1000000 := by
  have := entS_len A H A.length
  unfold ents
  rw [List.length_append]
  split <;> simp <;> omega
/-- An element of a row of entries. -/
theorem sat_ent {W w : World} {b : Option Addr} {cap : Nat} {E : List En} {F : As} (h : Sat W w (row (.slice b E.length cap) 31 3 E.length (ce E) * F)) {i : Nat} {z : En} (hz : E[i]? = some z) :
    ∃ g, b = some ⟨g, 0, none⟩ ∧ w.cell? ⟨g, i * 3, none⟩ = some (.int .i64 z.lo) ∧ w.cell? ⟨g, i * 3 + 1, none⟩ = some (.int .i64 z.e) ∧ w.cell? ⟨g, i * 3 + 2, none⟩ = some (.int .i64 z.h) := by
  have hlt := (List.getElem?_eq_some_iff.1 hz).1
  rcases h.row_open with ⟨_, h2, _⟩ | ⟨g, cap', h1, _, _, _, hc, _⟩
  · omega
  · cases h1
    have hget := fun j (hj : j < 3) => (hc (i * 3 + j) (by omega)).trans (flat_get (enc := En.cells) (fun _ => rfl) E i j z hz hj)
    exact ⟨g, rfl, hget 0 (by omega), hget 1 (by omega), hget 2 (by omega)⟩
/-- A row reads as its list. -/
theorem row_rd {α : Type} {enc : α → List Value} {sz : Nat} (he : ∀ x, (enc x).length = sz) {W w : World} {b : Option Addr} {cap : Nat} {l : List α} {T : TypeId} {F : As} (h : Sat W w (row (.slice b l.length cap) T sz l.length (l.flatMap enc) * F)) :
    Rd enc sz w b l := by
  rcases h.row_open with ⟨_, h2, _⟩ | ⟨g, cap', h1, _, _, _, hc, _⟩
  · exact .inl (List.length_eq_zero_iff.1 h2)
  · cases h1
    refine .inr ⟨g, 0, rfl, fun i x hx j hj => ?_⟩
    rw [Nat.zero_add]
    have hlt := (List.getElem?_eq_some_iff.1 hx).1
    have : i * sz + j < l.length * sz := by
      have := Nat.mul_le_mul_right sz (show i + 1 ≤ l.length from hlt)
      rw [Nat.succ_mul] at this; omega
    exact (hc _ this).trans (flat_get he l i j x hx hj)
theorem vi_flat (l : List Int) : vi l = l.flatMap encI := by
  induction l with
  | nil => rfl
  | cons x l ih =>
    show Value.int .i64 x :: vi l = _
    rw [List.flatMap_cons, ih]; rfl
def TruePost (w : World) (e : Ending) (w' : World) : Prop := e = .returned (.bool true) ∧ Sat w w' (Old w)

set_option maxRecDepth 100000 in
set_option maxHeartbeats 16000000 in
theorem buildEntries_calls (Aa Ha : Option Addr) (ca ch : Nat) (A : List Ar) (H : List Int) (r : Bool) (w : World) (rx : Rd Ar.cells 6 w Aa A) (rh : Rd encI 1 w Ha H)
    (hca : A.length ≤ ca) : Calls Try.prog 3 #[.slice Aa A.length ca, .slice Ha H.length ch, .bool r] w (TruePost w) := by
  have hS := Sat.refl w
  by_cases hA : A.length ≤ 40
  case neg =>
    have hA2 : (40 : Int) < (A.length : Int) := by omega
    go_enter Try.func3, Try.ntmps3
    go_wp2_with (first
      | (go_at_call 15; (with_reducible refine (awake_calls _).mono ?_); rintro e w1 ⟨rfl, hk⟩; have hS1 := hS.call0 hk; clear hk hS)
      | (go_at_call 15; (with_reducible refine (awake_calls _).mono ?_); rintro e w2 ⟨rfl, hk⟩; have hS2 := hS1.call0 hk; clear hk hS1))
    go_ret
    exact ⟨rfl, hS2⟩
  case pos =>
  by_cases hH : H.length ≤ 60
  case neg =>
    have hA2 : ¬ (40 : Int) < (A.length : Int) := by omega
    have hH2 : (60 : Int) < (H.length : Int) := by omega
    go_enter Try.func3, Try.ntmps3
    go_wp2_with (first
      | (go_at_call 15; (with_reducible refine (awake_calls _).mono ?_); rintro e w1 ⟨rfl, hk⟩; have hS1 := hS.call0 hk; clear hk hS)
      | (go_at_call 15; (with_reducible refine (awake_calls _).mono ?_); rintro e w2 ⟨rfl, hk⟩; have hS2 := hS1.call0 hk; clear hk hS1))
    go_ret
    exact ⟨rfl, hS2⟩
  case pos =>
  have hA2 : ¬ (40 : Int) < (A.length : Int) := by omega
  have hH2 : ¬ (60 : Int) < (H.length : Int) := by omega
  have lx : A.length ≤ 1000000 := by omega
  have lh : H.length ≤ 1000000 := by omega
  cases r with
  | false =>
    go_enter Try.func3, Try.ntmps3
    cases hm : may A H with
    | false =>
      have HM := Lib.hid hm
      have hent := fun Ax Ah cx ch => entries_no Ax Ah cx ch A H
      have hmay := fun Ax Ah cx ch => may_calls Ax Ah cx ch A H
      clear hm
      go_wp2_with (first
        | (go_at_call 15; (with_reducible refine (awake_calls _).mono ?_); rintro e w1 ⟨rfl, hk⟩; have hSc := hS.call0 hk; replace rx := rx.below (sz := 6) (fun _ => rfl) hk.below0; replace rh := rh.below (sz := 1) (fun _ => rfl) hk.below0; clear hk hS)
        | (go_at_call 18; (with_reducible refine (hent _ _ _ _ _ rx rh lx lh HM.out).mono ?_); rintro e w3 ⟨v9, rfl, hk⟩; rw [if_neg (by rw [HM.out]; simp)] at hk; unfold RowE at hk; obtain ⟨b9, cap9, rfl⟩ := row_shape hk; have rx2 := rx.below (sz := 6) (fun _ => rfl) hk.right.below0; have rh2 := rh.below (sz := 1) (fun _ => rfl) hk.right.below0; have hS3 := hSc.call0 hk.right; clear hk)
        | (go_at_call 19; (with_reducible refine (hmay _ _ _ _ _ rx2 rh2 lx lh).mono ?_); rintro e w4 ⟨rfl, hk⟩; rw [HM.out]; have hS4 := hS3.call0 hk))
      go_ret
      exact ⟨rfl, hS4⟩
    | true =>
      have HM := Lib.hid hm
      have hent := fun Ax Ah cx ch => entries_yes Ax Ah cx ch A H
      have hmay := fun Ax Ah cx ch => may_calls Ax Ah cx ch A H
      have hren := fun Ax Ah cx ch => rentries_calls Ax Ah cx ch A H
      have heq : A.length = H.length := by
        unfold may at hm
        simp only [Bool.and_eq_true, beq_iff_eq] at hm
        exact hm.1.2
      have HE := Lib.hid heq
      clear heq
      clear hm
      have hel : (ents A H).length ≤ 1000000 := ents_len A H (by omega)
      unfold EntPost at hent
      unfold EntsPost at hren
      simp only [HM.out, if_true] at hent
      generalize ents A H = E at *
      have HENT := Lib.hid hent
      have HREN := Lib.hid hren
      clear hent hren
      go_wp2_with (first
        | (go_at_call 15; (with_reducible refine (awake_calls _).mono ?_); rintro e w1 ⟨rfl, hk⟩; have hSc := hS.call0 hk; replace rx := rx.below (sz := 6) (fun _ => rfl) hk.below0; replace rh := rh.below (sz := 1) (fun _ => rfl) hk.below0; clear hk hS)
        | (go_at_call 18; (with_reducible refine (HENT.out _ _ _ _ _ rx rh lx lh trivial).mono ?_); rintro e w3 ⟨v9, rfl, hk⟩; unfold RowE at hk; obtain ⟨b9, cap9, rfl⟩ := row_shape hk; have rx2 := rx.below (sz := 6) (fun _ => rfl) hk.right.below0; have rh2 := rh.below (sz := 1) (fun _ => rfl) hk.right.below0; have hS3 := hSc.lift hk; clear hk)
        | (go_at_call 19; (with_reducible refine (hmay _ _ _ _ _ rx2 rh2 lx lh).mono ?_); rintro e w4 ⟨rfl, hk⟩; rw [HM.out]; have rx3 := rx2.below (sz := 6) (fun _ => rfl) hk.below0; have rh3 := rh2.below (sz := 1) (fun _ => rfl) hk.below0; have hS4 := hS3.call0 hk; clear hk rx2 rh2 hS3)
        | (go_at_call 20; (with_reducible refine (HREN.out _ _ _ _ _ rx3 rh3 lx lh HE.out).mono ?_); rintro e w5 ⟨v10, rfl, hk⟩; unfold RowE at hk; obtain ⟨b10, cap10, rfl⟩ := row_shape hk; have hS5 := hS4.lift hk; clear hk rx3 rh3 hS4))
      go_loopg [11] E.length (fun gk v11 w' => ∃ i : Nat, i + gk = E.length ∧ v11 = .int .i64 i ∧ Sat w w' (row (.slice b10 E.length cap10) 31 3 E.length (ce E) * (row (.slice b9 E.length cap9) 31 3 E.length (ce E) * Old w)))
      case atStart => exact ⟨0, by omega, rfl, hS5⟩
      case round =>
        clear hS5
        obtain ⟨i, hgk, rfl, hR⟩ := hrel
        have HG := Lib.hid hgk
        have hi : i ≤ E.length := by omega
        clear hgk
        by_cases hlt : i < E.length
        · obtain ⟨z, hz⟩ : ∃ z, E[i]? = some z := ⟨E[i], by simp [hlt]⟩
          obtain ⟨g9, rfl, p0, p1, p2⟩ := sat_ent hR.rot hz
          obtain ⟨g10, rfl, q0, q1, q2⟩ := sat_ent hR hz
          go_wp2
          refine wp_region_ct (.rd 0 (.rd 1 (.rd 2 (.rd 3 (.rd 4 (.rd 5 (.rd 6 (.rd 7 (.rd 8 .fin))))))))) 66 mixed (by kernel_rfl) (Nat.le_refl _) (fun c a a' w e h => ⟨e ▸ h.1, h.2⟩) ?_
          repeat' (first | (refine wpC_rdp rfl rfl (fun K hK => ?_); go_simp; (try go_bits)) | (refine wpC_rdg rfl rfl rfl (fun K hK => ?_); go_simp; (try go_bits)) | (refine hK _ ?_; clear hK K))
          refine wpC_fin ?_
          go_wp2
          go_roundg (gk - 1)
          case measure => have := HG.out; omega
          case rel => exact ⟨i + 1, by have := HG.out; omega, by go_num, hR.drew⟩
        · go_wp2
          go_ret
          exact ⟨rfl, hR.right.right⟩
  | true =>
    have hsl : (someL A).length ≤ 24 := by rw [someL_len]; omega
    have hsome := some_calls Aa ca A
    unfold SomePost at hsome
    generalize someL A = X at *
    have hhan := fun w => handles_calls 1 X.length w (by omega) (by omega)
    have hhl := handles_length 1 X.length
    unfold HandlesPost at hhan
    generalize handles 1 X.length = Y at *
    have lxA := lx
    have lx2 : X.length ≤ 1000000 := by omega
    have lh2 : Y.length ≤ 1000000 := by omega
    clear lx lh hhl
    have lx := lx2
    have lh := lh2
    go_enter Try.func3, Try.ntmps3
    cases hm : may X Y with
    | false =>
      have HM := Lib.hid hm
      have hent := fun Ax Ah cx ch => entries_no Ax Ah cx ch X Y
      have hmay := fun Ax Ah cx ch => may_calls Ax Ah cx ch X Y
      clear hm
      go_wp2_with (first
        | (go_at_call 15; (with_reducible refine (awake_calls _).mono ?_); rintro e w1 ⟨rfl, hk⟩; have hS1 := hS.call0 hk; replace rx := rx.below (sz := 6) (fun _ => rfl) hk.below0; clear hk hS)
        | (go_at_call 16; (with_reducible refine (hsome _ rx lxA hca).mono ?_); rintro e w2 ⟨v7, rfl, hk⟩; unfold RowA at hk; obtain ⟨b7, cap7, rfl⟩ := row_shape hk; have rx7 := row_rd (enc := Ar.cells) (sz := 6) (fun _ => rfl) hk; have hS2 := hS1.call0 hk.right; clear hk hS1 rx rh)
        | (go_at_call 17; (with_reducible refine (hhan _).mono ?_); rintro e w3 ⟨v8, rfl, hk⟩; unfold RowI at hk; obtain ⟨b8, cap8, rfl⟩ := row_shape hk; rw [vi_flat] at hk; have rh := row_rd (enc := encI) (sz := 1) (fun _ => rfl) hk; have rx := rx7.below (sz := 6) (fun _ => rfl) hk.right.below0; have hSc := hS2.call0 hk.right; clear hk hS2 rx7)
        | (go_at_call 18; (with_reducible refine (hent _ _ _ _ _ rx rh lx lh HM.out).mono ?_); rintro e w3 ⟨v9, rfl, hk⟩; rw [if_neg (by rw [HM.out]; simp)] at hk; unfold RowE at hk; obtain ⟨b9, cap9, rfl⟩ := row_shape hk; have rx2 := rx.below (sz := 6) (fun _ => rfl) hk.right.below0; have rh2 := rh.below (sz := 1) (fun _ => rfl) hk.right.below0; have hS3 := hSc.call0 hk.right; clear hk)
        | (go_at_call 19; (with_reducible refine (hmay _ _ _ _ _ rx2 rh2 lx lh).mono ?_); rintro e w4 ⟨rfl, hk⟩; rw [HM.out]; have hS4 := hS3.call0 hk))
      go_ret
      exact ⟨rfl, hS4⟩
    | true =>
      have HM := Lib.hid hm
      have hent := fun Ax Ah cx ch => entries_yes Ax Ah cx ch X Y
      have hmay := fun Ax Ah cx ch => may_calls Ax Ah cx ch X Y
      have hren := fun Ax Ah cx ch => rentries_calls Ax Ah cx ch X Y
      have heq : X.length = Y.length := by
        unfold may at hm
        simp only [Bool.and_eq_true, beq_iff_eq] at hm
        exact hm.1.2
      have HE := Lib.hid heq
      clear heq
      clear hm
      have hel : (ents X Y).length ≤ 1000000 := ents_len X Y (by omega)
      unfold EntPost at hent
      unfold EntsPost at hren
      simp only [HM.out, if_true] at hent
      generalize ents X Y = E at *
      have HENT := Lib.hid hent
      have HREN := Lib.hid hren
      clear hent hren
      go_wp2_with (first
        | (go_at_call 15; (with_reducible refine (awake_calls _).mono ?_); rintro e w1 ⟨rfl, hk⟩; have hS1 := hS.call0 hk; replace rx := rx.below (sz := 6) (fun _ => rfl) hk.below0; clear hk hS)
        | (go_at_call 16; (with_reducible refine (hsome _ rx lxA hca).mono ?_); rintro e w2 ⟨v7, rfl, hk⟩; unfold RowA at hk; obtain ⟨b7, cap7, rfl⟩ := row_shape hk; have rx7 := row_rd (enc := Ar.cells) (sz := 6) (fun _ => rfl) hk; have hS2 := hS1.call0 hk.right; clear hk hS1 rx rh)
        | (go_at_call 17; (with_reducible refine (hhan _).mono ?_); rintro e w3 ⟨v8, rfl, hk⟩; unfold RowI at hk; obtain ⟨b8, cap8, rfl⟩ := row_shape hk; rw [vi_flat] at hk; have rh := row_rd (enc := encI) (sz := 1) (fun _ => rfl) hk; have rx := rx7.below (sz := 6) (fun _ => rfl) hk.right.below0; have hSc := hS2.call0 hk.right; clear hk hS2 rx7)
        | (go_at_call 18; (with_reducible refine (HENT.out _ _ _ _ _ rx rh lx lh trivial).mono ?_); rintro e w3 ⟨v9, rfl, hk⟩; unfold RowE at hk; obtain ⟨b9, cap9, rfl⟩ := row_shape hk; have rx2 := rx.below (sz := 6) (fun _ => rfl) hk.right.below0; have rh2 := rh.below (sz := 1) (fun _ => rfl) hk.right.below0; have hS3 := hSc.lift hk; clear hk)
        | (go_at_call 19; (with_reducible refine (hmay _ _ _ _ _ rx2 rh2 lx lh).mono ?_); rintro e w4 ⟨rfl, hk⟩; rw [HM.out]; have rx3 := rx2.below (sz := 6) (fun _ => rfl) hk.below0; have rh3 := rh2.below (sz := 1) (fun _ => rfl) hk.below0; have hS4 := hS3.call0 hk; clear hk rx2 rh2 hS3)
        | (go_at_call 20; (with_reducible refine (HREN.out _ _ _ _ _ rx3 rh3 lx lh HE.out).mono ?_); rintro e w5 ⟨v10, rfl, hk⟩; unfold RowE at hk; obtain ⟨b10, cap10, rfl⟩ := row_shape hk; have hS5 := hS4.lift hk; clear hk rx3 rh3 hS4))
      go_loopg [11] E.length (fun gk v11 w' => ∃ i : Nat, i + gk = E.length ∧ v11 = .int .i64 i ∧ Sat w w' (row (.slice b10 E.length cap10) 31 3 E.length (ce E) * (row (.slice b9 E.length cap9) 31 3 E.length (ce E) * Old w)))
      case atStart => exact ⟨0, by omega, rfl, hS5⟩
      case round =>
        clear hS5
        obtain ⟨i, hgk, rfl, hR⟩ := hrel
        have HG := Lib.hid hgk
        have hi : i ≤ E.length := by omega
        clear hgk
        by_cases hlt : i < E.length
        · obtain ⟨z, hz⟩ : ∃ z, E[i]? = some z := ⟨E[i], by simp [hlt]⟩
          obtain ⟨g9, rfl, p0, p1, p2⟩ := sat_ent hR.rot hz
          obtain ⟨g10, rfl, q0, q1, q2⟩ := sat_ent hR hz
          go_wp2
          refine wp_region_ct (.rd 0 (.rd 1 (.rd 2 (.rd 3 (.rd 4 (.rd 5 (.rd 6 (.rd 7 (.rd 8 .fin))))))))) 66 mixed (by kernel_rfl) (Nat.le_refl _) (fun c a a' w e h => ⟨e ▸ h.1, h.2⟩) ?_
          repeat' (first | (refine wpC_rdp rfl rfl (fun K hK => ?_); go_simp; (try go_bits)) | (refine wpC_rdg rfl rfl rfl (fun K hK => ?_); go_simp; (try go_bits)) | (refine hK _ ?_; clear hK K))
          refine wpC_fin ?_
          go_wp2
          go_roundg (gk - 1)
          case measure => have := HG.out; omega
          case rel => exact ⟨i + 1, by have := HG.out; omega, by go_num, hR.drew⟩
        · go_wp2
          go_ret
          exact ⟨rfl, hR.right.right⟩
end Go.Proofs.Ytpiobilidhmedaa
