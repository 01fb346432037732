/-
  Which lists are right by the reference: what samararef07.Right answers of every slice of areas.
-/
import Derived.Test.YtpiobilidhmedaaA4
import Derived.Deep.LoopGhost
import Derived.Deep.CutRange
namespace Go.Proofs.Ytpiobilidhmedaa
open Go.RowKit Go.Sl Go.Ct
set_option linter.unusedVariables false
set_option linter.unusedSimpArgs false

theorem next_ref {y x : Ar} (hy : y.Ok) (hx : x.Ok) :
    y.next x = !(decide (x.s < y.e) || ((y.e == x.s) && (y.attr (y.e / 4096 - 1)).after (x.attr (x.s / 4096)))) := by
  obtain ⟨k1, k2, k3, k4, k5, k6, k7, k8, k9, k10, k11, k12, k13⟩ := hy
  obtain ⟨l1, l2, l3, l4, l5, l6, l7, l8, l9, l10, l11, l12, l13⟩ := hx
  have h1 : y.ok = true := by rw [Ar.ok_iff]; exact ⟨k1, k2, k3, k4, k5, k6, k7, k8, k9, k10, k11, k12, k13⟩
  have h2 : x.ok = true := by rw [Ar.ok_iff]; exact ⟨l1, l2, l3, l4, l5, l6, l7, l8, l9, l10, l11, l12, l13⟩
  rw [Bool.eq_iff_iff]
  simp only [Ar.next, h1, h2, Bool.true_and, Bool.and_eq_true, decide_eq_true_eq, Bool.not_eq_true', decide_eq_false_iff_not, Bool.or_eq_false_iff, Bool.and_eq_false_iff, beq_eq_false_iff_ne,
    At.after, Ar.attr, Ar.goes, Ar.off, Bool.and_eq_true, beq_iff_eq, ne_eq]
  unfold wrap64
  by_cases hs : y.sh = x.sh
  · simp only [hs, true_and, not_true_eq_false, false_or, decide_eq_false_iff_not]
    by_cases hb : 0 < y.b
    · have := k13 hb
      have hz : ¬ y.b = 0 := by omega
      by_cases hb2 : 0 < x.b
      · have := l13 hb2
        simp only [hb, hb2, hz, if_true, if_false]
        omega
      · simp only [hb, hb2, hz, if_true, if_false]
        omega
    · have hz : y.b = 0 := by omega
      have := k12 hz
      by_cases hb2 : 0 < x.b
      · simp only [hb, hb2, hz, if_true, if_false]
        omega
      · have hz2 : x.b = 0 := by omega
        have := l12 hz2
        simp [hz, hz2]
        omega
  · simp only [hs, false_and, and_false, not_false_eq_true, true_or, or_true, and_true, decide_eq_false_iff_not, decide_false]
    omega

def PostR (l : List Ar) (w : World) (e : Ending) (w' : World) : Prop := e = .returned (.bool (right l)) ∧ Sat w w' (Old w)
/-- A variable holds attributes. -/
def HasAt (a : At) (w : World) (F : As) (v ok : Value) (w' : World) : Prop :=
  ∃ p, v = .pointer (some ⟨p, 0, none⟩) ∧ ok = .bool true ∧ ∃ xo, xo = a.o ∧ Sat w w' (pt p [.int .i64 a.p, .bool a.sh, .int .i64 a.b, .int .i64 xo] 173 * F)

set_option maxRecDepth 100000 in
set_option maxHeartbeats 8000000 in
theorem rright_calls (A : Option Addr) (c : Nat) (l : List Ar) (w : World) (hr : Rd Ar.cells 6 w A l) (hl : l.length ≤ 1000000) :
    Calls Try.prog 70 #[.slice A l.length c] w (PostR l w) := by
  have hS := Sat.refl w
  go_enter Try.func70, Try.ntmps70
  go_wp2
  go_loopg [3] l.length (fun gk v3 w' => ∃ k : Nat, k + gk = l.length ∧ v3 = .int .i64 k ∧ (∀ j, j < k → stepOk l j = true) ∧ Sat w w' (Old w))
  case atStart => exact ⟨0, by omega, rfl, by simp, hS⟩
  case round =>
    obtain ⟨k, hgk, rfl, hpos, hS1⟩ := hrel
    have HP := Lib.hid hpos
    have HG := Lib.hid hgk
    have hk : k ≤ l.length := by omega
    clear hpos hgk
    by_cases hlt : k < l.length
    · have hr1 := hr.below (sz := 6) (fun _ => rfl) hS1.below0
      obtain ⟨b, o, rfl⟩ := hr.addr hlt
      obtain ⟨x, hx⟩ : ∃ x, l[k]? = some x := ⟨l[k], by simp [hlt]⟩
      obtain ⟨c0, c1, c2, c3, c4, c5⟩ := hr1.area hx
      have HX := Lib.hid hx
      clear hx
      have no : stepOk l k = false → false = right l := by
        intro h
        symm
        rw [← Bool.not_eq_true, right_iff]
        intro hall
        rw [hall k hlt] at h; cases h
      have HOKR : x.ok = true ∨ x.ok = false := by cases x.ok <;> simp
      rcases HOKR with hok | hok
      case inr =>
        have HOK := Lib.hid hok
        clear hok
        go_wp2_with (go_at_call 94; (with_reducible refine (rformed_calls x _).mono ?_); rintro e w1 ⟨rfl, hk1⟩; rw [HOK.out])
        have hS3 := hS1.call0 hk1
        clear hk1 c0 c1 c2 c3 c4 c5
        go_ret
        exact ⟨ret_bool (no (by unfold stepOk; rw [HX.out]; simp [HOK.out])), hS3⟩
      case inl =>
        have HOK := Lib.hid hok
        clear hok
        rcases Nat.eq_zero_or_pos k with h0 | h0
        · subst h0
          simp only [Nat.zero_mul, Nat.add_zero] at c0 c1 c2 c3 c4 c5
          go_wp2_with (go_at_call 94; (with_reducible refine (rformed_calls x _).mono ?_); rintro e w1 ⟨rfl, hk1⟩; rw [HOK.out])
          have hS3 := hS1.call0 hk1
          clear hk1 c0 c1 c2 c3 c4 c5
          go_roundg (gk - 1)
          case rel =>
            refine ⟨1, by have := HG.out; omega, rfl, fun j hj => ?_, hS3⟩
            have : j = 0 := by omega
            subst this
            unfold stepOk; rw [HX.out]; simp [HOK.out]
          case measure => have := HG.out; omega
        · have hk1 : (1 : Int) ≤ (k : Int) := by omega
          have hk3 : (k : Int) - 1 < (l.length : Int) := by omega
          have hkz : ((k : Int) == 0) = false := by rw [beq_eq_false_iff_ne]; omega
          go_wp2_with (go_at_call 94; (with_reducible refine (rformed_calls x _).mono ?_); rintro e w1 ⟨rfl, hk4⟩; rw [HOK.out])
          have hS3 := hS1.call0 hk4
          clear hk4 c0 c1 c2 c3 c4 c5
          obtain ⟨y, hy⟩ : ∃ y, l[k - 1]? = some y := ⟨l[k - 1], by rw [List.getElem?_eq_getElem]⟩
          have hyok : y.ok = true := by
            have := HP.out (k - 1) (by omega)
            unfold stepOk at this
            rw [hy] at this
            simp only [Bool.and_eq_true] at this
            exact this.1
          have HYO := Lib.hid (y.ok_iff.1 hyok)
          have HXO := Lib.hid (x.ok_iff.1 HOK.out)
          clear hyok
          have hr3 := hr.below (sz := 6) (fun _ => rfl) hS3.below0
          have HY := Lib.hid hy
          clear hy
          have y1 := HYO.out
          unfold Ar.Ok at y1
          have x1 := HXO.out
          unfold Ar.Ok at x1
          have ye0 : 0 ≤ y.e := by omega
          have ye1 : y.e ≤ 2097152 := by omega
          have xs0 : 0 ≤ x.s := by omega
          have xs1 : x.s ≤ 2097152 := by omega
          have yp1 : y.s / 4096 ≤ y.e / 4096 - 1 := by omega
          have yp2 : y.e / 4096 - 1 < y.e / 4096 := by omega
          have xp2 : x.s / 4096 < x.e / 4096 := by omega
          clear y1 x1
          go_cut [4, 5] (fun v4 v5 wc => HasAt (y.attr (y.e / 4096 - 1)) w (Old w) v4 v5 wc)
          case first =>
            obtain ⟨d0, d1, d2, d3, d4, d5⟩ := hr3.area HY.out
            have hb := World.block_lt_of_cell? _ _ d0
            simp only [] at hb
            refine wp_region_ct (.rd 0 (.rd 1 (.rd 2 (.rd 3 (.rd 4 (.rd 5 (.rd 6 (.rd 7 (.rd 8 (.rd 9 (.rd 10 (.rd 11 (.rd 12 (.wr 13 [] (.rd 14 (.rd 15 (.rd 16 (.wr 17 [0, 1, 2, 3, 4, 5, 6, 7, 8, 9, 10, 11, 12, 14, 15, 16] (.wr 18 [16] (.rd 19 .fin) .stop) .stop)))) (.wr 17 [0, 1, 2, 3, 4, 5, 6, 7, 8, 9, 10, 11, 12] (.wr 13 [] (.rd 14 (.rd 15 (.rd 16 (.wr 18 [16] (.rd 19 .fin) .stop)))) .stop) .stop))))))))))))))) 84 mixed (by kernel_rfl) (Nat.le_refl _) (fun c a a' w e h => ⟨e ▸ h.1, h.2⟩) ?_
            repeat' (first | (refine wpC_rdp rfl rfl (fun K hK => ?_); go_simp; (try go_bits)) | (refine wpC_rdg rfl rfl rfl (fun K hK => ?_); go_simp; (try go_bits)) | (refine hK _ ?_; clear hK K) | (split <;> rename_i hsp))
            refine wpC_or ?_ ?_
            · refine wpC_wrp rfl rfl (fun R hR => ?_)
              go_wp2_with (go_at_call 101; (with_reducible refine (attr_calls y _ _ HYO.out yp1 yp2).mono ?_); rintro e w2 ⟨yo, hyo, rfl, hk4⟩; have HYO1 := Lib.hid hyo; clear hyo)
              refine hR _ _ obl_nil ?_
              clear hR R
              have hS4 := hS3.drew.call0 hk4
              have hr4 := hr.below (sz := 6) (fun _ => rfl) hS4.below0
              clear hk4 d0 d1 d2 d3 d4 d5 hb
              obtain ⟨d0, d1, d2, d3, d4, d5⟩ := hr4.area HY.out
              have hb := World.block_lt_of_cell? _ _ d0
              simp only [] at hb
              repeat' (first | (refine wpC_rdp rfl rfl (fun K hK => ?_); go_simp; (try go_bits)) | (refine wpC_rdg rfl rfl rfl (fun K hK => ?_); go_simp; (try go_bits)) | (refine hK _ ?_; clear hK K) | (split <;> rename_i hsp))
              refine wpC_wrp rfl rfl (fun R hR => ?_)
              go_wp2
              refine hR _ _ ?_ ?_
              · repeat (first | refine obl_cons rfl rfl (by go_simp <;> first | exact IntWalk.i64_in _ (by omega) | exact IntWalk.i64_quo _ _ (by omega) | rfl) ?_ | refine obl_consg rfl rfl rfl (by go_simp) (by go_simp <;> first | exact IntWalk.i64_in _ (by omega) | exact IntWalk.i64_quo _ _ (by omega) | rfl) ?_ | refine obl_skip rfl rfl rfl (by go_simp) (by go_simp) ?_)
                exact obl_nil
              clear hR R
              refine wpC_wrp rfl rfl (fun R hR => ?_)
              go_wp2
              refine hR _ _ ?_ ?_
              · repeat (first | refine obl_cons rfl rfl (by go_simp <;> first | exact IntWalk.i64_in _ (by omega) | exact IntWalk.i64_quo _ _ (by omega) | rfl) ?_ | refine obl_consg rfl rfl rfl (by go_simp) (by go_simp <;> first | exact IntWalk.i64_in _ (by omega) | exact IntWalk.i64_quo _ _ (by omega) | rfl) ?_ | refine obl_skip rfl rfl rfl (by go_simp) (by go_simp) ?_)
                exact obl_nil
              clear hR R
              repeat' (first | (refine wpC_rdp rfl rfl (fun K hK => ?_); go_simp; (try go_bits)) | (refine wpC_rdg rfl rfl rfl (fun K hK => ?_); go_simp; (try go_bits)) | (refine hK _ ?_; clear hK K) | (split <;> rename_i hsp))
              refine wpC_fin ?_
              go_wp2
              go_meet
              case rel => exact ⟨_, rfl, rfl, yo, HYO1.out, hS4.alloc _ _⟩
            · refine wpC_wrp rfl rfl (fun R hR => ?_)
              go_wp2
              refine hR _ _ ?_ ?_
              · repeat (first | refine obl_cons rfl rfl (by go_simp <;> first | exact IntWalk.i64_in _ (by omega) | exact IntWalk.i64_quo _ _ (by omega) | rfl) ?_ | refine obl_consg rfl rfl rfl (by go_simp) (by go_simp <;> first | exact IntWalk.i64_in _ (by omega) | exact IntWalk.i64_quo _ _ (by omega) | rfl) ?_ | refine obl_skip rfl rfl rfl (by go_simp) (by go_simp) ?_)
                exact obl_nil
              clear hR R
              have hS3a := (hS3.alloc [Value.int IntKind.i64 0, Value.bool false, Value.int IntKind.i64 0, Value.int IntKind.i64 0] 173).drew
              refine wpC_wrp rfl rfl (fun R hR => ?_)
              go_wp2_with (go_at_call 101; (with_reducible refine (attr_calls y _ _ HYO.out yp1 yp2).mono ?_); rintro e w2 ⟨yo, hyo, rfl, hk4⟩; have HYO1 := Lib.hid hyo; clear hyo)
              refine hR _ _ obl_nil ?_
              clear hR R
              have hS4 := hS3a.call0 hk4
              have e0 := hS4.cell
              have ef := hS4.frozen
              clear hk4 d0 d1 d2 d3 d4 d5 hb
              repeat' (first | (refine wpC_rdp rfl rfl (fun K hK => ?_); go_simp; (try go_bits)) | (refine wpC_rdg rfl rfl rfl (fun K hK => ?_); go_simp; (try go_bits)) | (refine hK _ ?_; clear hK K) | (split <;> rename_i hsp))
              refine wpC_wrp rfl rfl (fun R hR => ?_)
              go_wp2
              refine hR _ _ ?_ ?_
              · repeat (first | refine obl_cons rfl rfl (by go_simp <;> first | exact IntWalk.i64_in _ (by omega) | exact IntWalk.i64_quo _ _ (by omega) | rfl) ?_ | refine obl_consg rfl rfl rfl (by go_simp) (by go_simp <;> first | exact IntWalk.i64_in _ (by omega) | exact IntWalk.i64_quo _ _ (by omega) | rfl) ?_ | refine obl_skip rfl rfl rfl (by go_simp) (by go_simp) ?_)
                exact obl_nil
              clear hR R
              repeat' (first | (refine wpC_rdp rfl rfl (fun K hK => ?_); go_simp; (try go_bits)) | (refine wpC_rdg rfl rfl rfl (fun K hK => ?_); go_simp; (try go_bits)) | (refine hK _ ?_; clear hK K) | (split <;> rename_i hsp))
              refine wpC_fin ?_
              go_wp2
              go_meet
              case rel => exact ⟨_, rfl, rfl, yo, HYO1.out, (((hS4.set 0 _).set 1 _).set 2 _).set 3 _⟩
          case rest =>
            obtain ⟨p1, rfl, rfl, yo, hyo, hS5⟩ := hcut
            have HYO1 := Lib.hid hyo
            clear hyo
            go_wp2
            go_cut [6, 7] (fun v6 v7 wc => HasAt (x.attr (x.s / 4096)) w (pt p1 [.int .i64 y.p, .bool y.sh, .int .i64 y.b, .int .i64 yo] 173 * Old w) v6 v7 wc)
            case first =>
              have hr3 := hr.below (sz := 6) (fun _ => rfl) hS5.right.below0
              obtain ⟨d0, d1, d2, d3, d4, d5⟩ := hr3.area HX.out
              have hb := World.block_lt_of_cell? _ _ d0
              simp only [] at hb
              refine wp_region_ct (.rd 0 (.rd 1 (.rd 2 (.rd 3 (.rd 4 (.rd 5 (.rd 6 (.rd 7 (.rd 8 (.rd 9 (.wr 10 [] (.rd 11 (.rd 12 (.rd 13 (.wr 14 [0, 1, 2, 3, 4, 5, 6, 7, 8, 9, 11, 12, 13] (.wr 15 [13] (.rd 16 .fin) .stop) .stop)))) (.wr 14 [0, 1, 2, 3, 4, 5, 6, 7, 8, 9] (.wr 10 [] (.rd 11 (.rd 12 (.rd 13 (.wr 15 [13] (.rd 16 .fin) .stop)))) .stop) .stop)))))))))))) 84 mixed (by kernel_rfl) (Nat.le_refl _) (fun c a a' w e h => ⟨e ▸ h.1, h.2⟩) ?_
              repeat' (first | (refine wpC_rdp rfl rfl (fun K hK => ?_); go_simp; (try go_bits)) | (refine wpC_rdg rfl rfl rfl (fun K hK => ?_); go_simp; (try go_bits)) | (refine hK _ ?_; clear hK K) | (split <;> rename_i hsp))
              refine wpC_or ?_ ?_
              · refine wpC_wrp rfl rfl (fun R hR => ?_)
                go_wp2_with (go_at_call 101; (with_reducible refine (attr_calls x _ _ HXO.out (Int.le_refl _) xp2).mono ?_); rintro e w2 ⟨xo, hxo, rfl, hk4⟩; have HXO1 := Lib.hid hxo; clear hxo)
                refine hR _ _ obl_nil ?_
                clear hR R
                have hS6 := hS5.drew.call0 hk4
                have hr4 := hr.below (sz := 6) (fun _ => rfl) hS6.right.below0
                clear hk4 d0 d1 d2 d3 d4 d5 hb
                obtain ⟨d0, d1, d2, d3, d4, d5⟩ := hr4.area HX.out
                have hb := World.block_lt_of_cell? _ _ d0
                simp only [] at hb
                repeat' (first | (refine wpC_rdp rfl rfl (fun K hK => ?_); go_simp; (try go_bits)) | (refine wpC_rdg rfl rfl rfl (fun K hK => ?_); go_simp; (try go_bits)) | (refine hK _ ?_; clear hK K) | (split <;> rename_i hsp))
                refine wpC_wrp rfl rfl (fun R hR => ?_)
                go_wp2
                refine hR _ _ ?_ ?_
                · repeat (first | refine obl_cons rfl rfl (by go_simp <;> first | exact IntWalk.i64_in _ (by omega) | exact IntWalk.i64_quo _ _ (by omega) | rfl) ?_ | refine obl_consg rfl rfl rfl (by go_simp) (by go_simp <;> first | exact IntWalk.i64_in _ (by omega) | exact IntWalk.i64_quo _ _ (by omega) | rfl) ?_ | refine obl_skip rfl rfl rfl (by go_simp) (by go_simp) ?_)
                  exact obl_nil
                clear hR R
                refine wpC_wrp rfl rfl (fun R hR => ?_)
                go_wp2
                refine hR _ _ ?_ ?_
                · repeat (first | refine obl_cons rfl rfl (by go_simp <;> first | exact IntWalk.i64_in _ (by omega) | exact IntWalk.i64_quo _ _ (by omega) | rfl) ?_ | refine obl_consg rfl rfl rfl (by go_simp) (by go_simp <;> first | exact IntWalk.i64_in _ (by omega) | exact IntWalk.i64_quo _ _ (by omega) | rfl) ?_ | refine obl_skip rfl rfl rfl (by go_simp) (by go_simp) ?_)
                  exact obl_nil
                clear hR R
                repeat' (first | (refine wpC_rdp rfl rfl (fun K hK => ?_); go_simp; (try go_bits)) | (refine wpC_rdg rfl rfl rfl (fun K hK => ?_); go_simp; (try go_bits)) | (refine hK _ ?_; clear hK K) | (split <;> rename_i hsp))
                refine wpC_fin ?_
                go_wp2
                go_meet
                case rel => exact ⟨_, rfl, rfl, xo, HXO1.out, hS6.alloc _ _⟩
              · refine wpC_wrp rfl rfl (fun R hR => ?_)
                go_wp2
                refine hR _ _ ?_ ?_
                · repeat (first | refine obl_cons rfl rfl (by go_simp <;> first | exact IntWalk.i64_in _ (by omega) | exact IntWalk.i64_quo _ _ (by omega) | rfl) ?_ | refine obl_consg rfl rfl rfl (by go_simp) (by go_simp <;> first | exact IntWalk.i64_in _ (by omega) | exact IntWalk.i64_quo _ _ (by omega) | rfl) ?_ | refine obl_skip rfl rfl rfl (by go_simp) (by go_simp) ?_)
                  exact obl_nil
                clear hR R
                have hS3a := (hS5.alloc [Value.int IntKind.i64 0, Value.bool false, Value.int IntKind.i64 0, Value.int IntKind.i64 0] 173).drew
                refine wpC_wrp rfl rfl (fun R hR => ?_)
                go_wp2_with (go_at_call 101; (with_reducible refine (attr_calls x _ _ HXO.out (Int.le_refl _) xp2).mono ?_); rintro e w2 ⟨xo, hxo, rfl, hk4⟩; have HXO1 := Lib.hid hxo; clear hxo)
                refine hR _ _ obl_nil ?_
                clear hR R
                have hS6 := hS3a.call0 hk4
                have e0 := hS6.cell
                have ef := hS6.frozen
                clear hk4 d0 d1 d2 d3 d4 d5 hb
                repeat' (first | (refine wpC_rdp rfl rfl (fun K hK => ?_); go_simp; (try go_bits)) | (refine wpC_rdg rfl rfl rfl (fun K hK => ?_); go_simp; (try go_bits)) | (refine hK _ ?_; clear hK K) | (split <;> rename_i hsp))
                refine wpC_wrp rfl rfl (fun R hR => ?_)
                go_wp2
                refine hR _ _ ?_ ?_
                · repeat (first | refine obl_cons rfl rfl (by go_simp <;> first | exact IntWalk.i64_in _ (by omega) | exact IntWalk.i64_quo _ _ (by omega) | rfl) ?_ | refine obl_consg rfl rfl rfl (by go_simp) (by go_simp <;> first | exact IntWalk.i64_in _ (by omega) | exact IntWalk.i64_quo _ _ (by omega) | rfl) ?_ | refine obl_skip rfl rfl rfl (by go_simp) (by go_simp) ?_)
                  exact obl_nil
                clear hR R
                repeat' (first | (refine wpC_rdp rfl rfl (fun K hK => ?_); go_simp; (try go_bits)) | (refine wpC_rdg rfl rfl rfl (fun K hK => ?_); go_simp; (try go_bits)) | (refine hK _ ?_; clear hK K) | (split <;> rename_i hsp))
                refine wpC_fin ?_
                go_wp2
                go_meet
                case rel => exact ⟨_, rfl, rfl, xo, HXO1.out, (((hS6.set 0 _).set 1 _).set 2 _).set 3 _⟩
            case rest =>
              obtain ⟨p2, rfl, rfl, xo, hxo, hS6⟩ := hcut
              have HXO1 := Lib.hid hxo
              clear hxo
              have e2 : ∀ i, wc.cell? ⟨p2, i, none⟩ = [Value.int IntKind.i64 x.p, Value.bool x.sh, Value.int IntKind.i64 x.b, Value.int IntKind.i64 xo][i]? := hS6.cell
              have e1 : ∀ i, wc.cell? ⟨p1, i, none⟩ = [Value.int IntKind.i64 y.p, Value.bool y.sh, Value.int IntKind.i64 y.b, Value.int IntKind.i64 yo][i]? := hS6.rot.cell
              have hr6 := hr.below (sz := 6) (fun _ => rfl) hS6.right.right.below0
              obtain ⟨c0, c1, c2, c3, c4, c5⟩ := hr6.area HX.out
              obtain ⟨d0, d1, d2, d3, d4, d5⟩ := hr6.area HY.out
              have stepk : stepOk l k = y.next x := by
                unfold stepOk; rw [HX.out]; simp only [HOK.out, Bool.true_and]; rw [if_neg (by omega), HY.out]
              have hn := stepk.trans (next_ref HYO.out HXO.out)
              have HST := Lib.hid hn
              clear stepk hn
              have yo0 : 0 ≤ yo ∧ yo ≤ 2199023255552 := by
                have h1 := HYO1.out
                have h2 := HYO.out
                unfold Ar.Ok at h2
                rw [attr_o] at h1
                split at h1 <;> omega
              go_wp2
              refine wp_region_ct (.rd 0 (.rd 1 (.rd 2 (.rd 3 (.rd 4 (.rd 5 (.rd 6 (.rd 7 (.rd 8 (.rd 9 (.rd 10 (.rd 11 (.rd 12 (.rd 13 (.rd 14 (.rd 15 (.rd 16 (.rd 17 (.rd 18 (.rd 19 (.rd 20 (.rd 21 (.rd 22 (.rd 23 (.rd 24 (.rd 25 (.rd 26 (.rd 27 (.wr 28 [] (.rd 29 (.rd 30 .fin)) .stop))))))))))))))))))))))))))))) 84 mixed (by kernel_rfl) (Nat.le_refl _) (fun c a a' w e h => ⟨e ▸ h.1, h.2⟩) ?_
              by_cases hgt : x.s < y.e
              case pos =>
                repeat' (first | (refine wpC_rdp rfl rfl (fun K hK => ?_); go_simp; (try go_bits)) | (refine wpC_rdg rfl rfl rfl (fun K hK => ?_); go_simp; (try go_bits)) | (refine hK _ ?_; clear hK K) | (split <;> rename_i hsp))
                refine wpC_wrs rfl rfl rfl (by go_simp) obl_nil ?_
                repeat' (first | (refine wpC_rdp rfl rfl (fun K hK => ?_); go_simp; (try go_bits)) | (refine wpC_rdg rfl rfl rfl (fun K hK => ?_); go_simp; (try go_bits)) | (refine hK _ ?_; clear hK K) | (split <;> rename_i hsp))
                refine wpC_fin ?_
                go_wp2
                go_ret
                exact ⟨ret_bool (no (by rw [HST.out]; simp [hgt])), hS6.right.right.drew⟩
              case neg =>
                by_cases heq : y.e = x.s
                case pos =>
                  have heq' : (y.e == x.s) = true := ibeq heq
                  have HEQ := Lib.hid heq
                  clear heq
                  repeat' (first | (refine wpC_rdp rfl rfl (fun K hK => ?_); go_simp; (try go_bits)) | (refine wpC_rdg rfl rfl rfl (fun K hK => ?_); go_simp; (try go_bits)) | (refine hK _ ?_; clear hK K) | (split <;> rename_i hsp))
                  refine wpC_wrg rfl rfl rfl (by go_simp) (fun R hR => ?_)
                  go_wp2_with (go_at_call 102; (with_reducible refine (after_calls ⟨y.p, y.sh, y.b, yo⟩ ⟨x.p, x.sh, x.b, xo⟩ _ yo0.1 yo0.2).mono ?_); rintro e w2 ⟨rfl, hk2⟩)
                  refine hR _ _ obl_nil ?_
                  clear hR R
                  have hS7 := hS6.drew.call0 hk2
                  clear hk2
                  have hg : (At.after ⟨y.p, y.sh, y.b, yo⟩ ⟨x.p, x.sh, x.b, xo⟩) = !(stepOk l k) := by
                    rw [HST.out, HYO1.out, HXO1.out]
                    have hd : decide (x.s < y.e) = false := by rw [decide_eq_false_iff_not]; omega
                    simp only [hd, heq', Bool.false_or, Bool.true_and, Bool.not_not]
                    rfl
                  rw [hg]
                  clear hg
                  cases hn : stepOk l k with
                  | true =>
                    have HN := Lib.hid hn
                    clear hn
                    repeat' (first | (refine wpC_rdp rfl rfl (fun K hK => ?_); go_simp; (try go_bits)) | (refine wpC_rdg rfl rfl rfl (fun K hK => ?_); go_simp; (try go_bits)) | (refine hK _ ?_; clear hK K) | (split <;> rename_i hsp))
                    refine wpC_fin ?_
                    go_wp2
                    go_roundg (gk - 1)
                    case rel =>
                      refine ⟨k + 1, by have := HG.out; omega, by go_num, fun j hj => ?_, hS7.right.right⟩
                      by_cases hjk : j = k
                      · subst hjk; exact HN.out
                      · exact HP.out j (by omega)
                    case measure => have := HG.out; omega
                  | false =>
                    have HN := Lib.hid hn
                    clear hn
                    repeat' (first | (refine wpC_rdp rfl rfl (fun K hK => ?_); go_simp; (try go_bits)) | (refine wpC_rdg rfl rfl rfl (fun K hK => ?_); go_simp; (try go_bits)) | (refine hK _ ?_; clear hK K) | (split <;> rename_i hsp))
                    refine wpC_fin ?_
                    go_wp2
                    go_ret
                    exact ⟨ret_bool (no HN.out), hS7.right.right⟩
                case neg =>
                  have heq' : (y.e == x.s) = false := by rw [beq_eq_false_iff_ne]; exact heq
                  repeat' (first | (refine wpC_rdp rfl rfl (fun K hK => ?_); go_simp; (try go_bits)) | (refine wpC_rdg rfl rfl rfl (fun K hK => ?_); go_simp; (try go_bits)) | (refine hK _ ?_; clear hK K) | (split <;> rename_i hsp))
                  refine wpC_wrs rfl rfl rfl (by go_simp) obl_nil ?_
                  repeat' (first | (refine wpC_rdp rfl rfl (fun K hK => ?_); go_simp; (try go_bits)) | (refine wpC_rdg rfl rfl rfl (fun K hK => ?_); go_simp; (try go_bits)) | (refine hK _ ?_; clear hK K) | (split <;> rename_i hsp))
                  refine wpC_fin ?_
                  go_wp2
                  go_roundg (gk - 1)
                  case rel =>
                    refine ⟨k + 1, by have := HG.out; omega, by go_num, fun j hj => ?_, hS6.right.right.drew⟩
                    by_cases hjk : j = k
                    · subst hjk; rw [HST.out]; simp [hgt, heq']
                    · exact HP.out j (by omega)
                  case measure => have := HG.out; omega
    · go_wp2
      go_ret
      refine ⟨ret_bool ?_, hS1⟩
      symm
      rw [right_iff]
      exact fun j hj => HP.out j (by omega)
end Go.Proofs.Ytpiobilidhmedaa
