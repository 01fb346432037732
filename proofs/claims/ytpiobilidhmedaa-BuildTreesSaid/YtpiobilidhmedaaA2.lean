/-
  Whether an area goes on in another one (area.Goes): for every two areas.
-/
import Derived.Test.YtpiobilidhmedaaA1
import Derived.Test.YtpiobilidhmedaaCt
namespace Go.Proofs.Ytpiobilidhmedaa
open Go.RowKit Go.Sl Go.Ct
set_option linter.unusedVariables false
set_option linter.unusedSimpArgs false
theorem mixed : Try.prog.follows .mixedOrders = true := by kernel_rfl

def Ar.goes (a b : Ar) : Prop := a.e = b.s ∧ a.p = b.p ∧ a.sh = b.sh ∧ a.b = b.b ∧ b.o = a.off a.e
instance (a b : Ar) : Decidable (a.goes b) := by unfold Ar.goes; infer_instance

theorem ibeq {a b : Int} (h : a = b) : (a == b) = true := beq_iff_eq.2 h
theorem bbeq {a b : Bool} (h : a = b) : (a == b) = true := beq_iff_eq.2 h
set_option maxRecDepth 100000 in
set_option maxHeartbeats 4000000 in
theorem goes_calls (a b : Ar) (w : World) :
    Calls Try.prog 98 #[.agg #[.int .i64 a.s, .int .i64 a.e, .int .i64 a.p, .bool a.sh, .int .i64 a.b, .int .i64 a.o], .agg #[.int .i64 b.s, .int .i64 b.e, .int .i64 b.p, .bool b.sh, .int .i64 b.b, .int .i64 b.o]] w
      fun e w' => e = .returned (.bool (a.ok && b.ok && decide (a.goes b))) ∧ Sat w w' (Old w) := by
  have hS := ((Sat.refl w).alloc a.cells 130).alloc b.cells 130
  rw [World.size_alloc] at hS
  go_enter Try.func98, Try.ntmps98
  go_wp2
  refine wp_region_ct (.rd 0 (.wr 1 [] (.rd 2 (.rd 3 (.wr 4 [] (.rd 5 (.rd 6 (.rd 7 (.rd 8 (.rd 9 (.rd 10 (.rd 11 (.rd 12 (.rd 13 (.rd 14 (.rd 15 (.rd 16 (.rd 17 (.rd 18 (.rd 19 (.rd 20 (.rd 21 (.rd 22 (.rd 23 (.rd 24 (.rd 25 (.rd 26 (.rd 27 (.rd 28 (.rd 29 (.rd 30 (.rd 31 (.rd 32 (.rd 33 (.rd 34 (.rd 35 (.rd 36 (.rd 37 (.rd 38 (.rd 39 (.wr 40 [35, 36] (.rd 41 (.rd 42 (.rd 43 .fin))) .stop)))))))))))))))))))))))))))))))))))) .stop))) .stop)) 48 mixed (by kernel_rfl) (Nat.le_refl _) (fun c a a' w e h => ⟨e ▸ h.1, h.2⟩) ?_
  repeat' (first | (refine wpC_rdp rfl rfl (fun K hK => ?_); go_simp; (try go_bits)) | (refine wpC_rdg rfl rfl rfl (fun K hK => ?_); go_simp; (try go_bits)) | (refine hK _ ?_; clear hK K) | (split <;> rename_i hsp <;> (try replace hsp := ibeq hsp) <;> (try replace hsp := bbeq (a := Ar.sh _) hsp)))
  refine wpC_wrp rfl rfl (fun R hR => ?_)
  go_wp2_with (go_at_call 97; (with_reducible refine (aformed_calls a _).mono ?_); rintro e w1 ⟨rfl, hk⟩)
  refine hR _ _ obl_nil ?_
  clear hR R
  have hS1 := hS.drew.call0 hk
  have c0 := hS1.rot.cell
  have c1 := hS1.cell
  unfold Ar.cells at c0 c1
  clear hk hS
  repeat' (first | (refine wpC_rdp rfl rfl (fun K hK => ?_); go_simp; (try go_bits)) | (refine wpC_rdg rfl rfl rfl (fun K hK => ?_); go_simp; (try go_bits)) | (refine hK _ ?_; clear hK K) | (split <;> rename_i hsp <;> (try replace hsp := ibeq hsp) <;> (try replace hsp := bbeq (a := Ar.sh _) hsp)))
  · refine wpC_wrg rfl rfl rfl (by go_simp) (fun R hR => ?_)
    go_wp2_with (go_at_call 97; (with_reducible refine (aformed_calls b _).mono ?_); rintro e w2 ⟨rfl, hk⟩)
    refine hR _ _ obl_nil ?_
    clear hR R
    have hS2 := hS1.call0 hk
    clear c0 c1
    have c0 := hS2.rot.cell
    have c1 := hS2.cell
    unfold Ar.cells at c0 c1
    clear hk hS1
    repeat' (first | (refine wpC_rdp rfl rfl (fun K hK => ?_); go_simp; (try go_bits)) | (refine wpC_rdg rfl rfl rfl (fun K hK => ?_); go_simp; (try go_bits)) | (refine hK _ ?_; clear hK K) | (split <;> rename_i hsp <;> (try replace hsp := ibeq hsp) <;> (try replace hsp := bbeq (a := Ar.sh _) hsp)))
    all_goals first
      | (refine wpC_wrs rfl rfl rfl (by go_simp) ?_ ?_
         · repeat (refine obl_skip rfl rfl rfl (by go_simp) (by go_simp) ?_)
           exact obl_nil
         repeat' (first | (refine wpC_rdp rfl rfl (fun K hK => ?_); go_simp; (try go_bits)) | (refine wpC_rdg rfl rfl rfl (fun K hK => ?_); go_simp; (try go_bits)) | (refine hK _ ?_; clear hK K) | (split <;> rename_i hsp <;> (try replace hsp := ibeq hsp) <;> (try replace hsp := bbeq (a := Ar.sh _) hsp)))
         refine wpC_fin ?_
         go_wp2
         go_ret
         refine ⟨ret_bool ?_, hS2.right.right⟩
         try simp only [beq_iff_eq] at *
         first | (simp [Ar.goes, *]; done) | (simp [Ar.goes, *]; rw [Bool.eq_iff_iff]; simp))
      | (refine wpC_wrg rfl rfl rfl (by go_simp) (fun R hR => ?_)
         go_wp2_with (go_at_call 119; (with_reducible refine (off_calls a _ _).mono ?_); rintro e w3 ⟨rfl, hk⟩)
         have hS3 := hS2.call0 hk
         clear c0 c1
         have c0 := hS3.rot.cell
         have c1 := hS3.cell
         unfold Ar.cells at c0 c1
         refine hR _ _ ?_ ?_
         · repeat (refine obl_consg rfl rfl rfl (by go_simp) (by go_simp) ?_)
           exact obl_nil
         clear hR R
         repeat' (first | (refine wpC_rdp rfl rfl (fun K hK => ?_); go_simp; (try go_bits)) | (refine wpC_rdg rfl rfl rfl (fun K hK => ?_); go_simp; (try go_bits)) | (refine hK _ ?_; clear hK K) | (split <;> rename_i hsp <;> (try replace hsp := ibeq hsp) <;> (try replace hsp := bbeq (a := Ar.sh _) hsp)))
         refine wpC_fin ?_
         go_wp2
         go_ret
         refine ⟨ret_bool ?_, hS3.right.right⟩
         try simp only [beq_iff_eq] at *
         first | (simp [Ar.goes, *]; done) | (simp [Ar.goes, *]; rw [Bool.eq_iff_iff]; simp))
  · repeat' (first | (refine wpC_rdp rfl rfl (fun K hK => ?_); go_simp; (try go_bits)) | (refine wpC_rdg rfl rfl rfl (fun K hK => ?_); go_simp; (try go_bits)) | (refine hK _ ?_; clear hK K) | (split <;> rename_i hsp <;> (try replace hsp := ibeq hsp) <;> (try replace hsp := bbeq (a := Ar.sh _) hsp)))
    refine wpC_wrs rfl rfl rfl (by go_simp) obl_nil ?_
    repeat' (first | (refine wpC_rdp rfl rfl (fun K hK => ?_); go_simp; (try go_bits)) | (refine wpC_rdg rfl rfl rfl (fun K hK => ?_); go_simp; (try go_bits)) | (refine hK _ ?_; clear hK K) | (split <;> rename_i hsp <;> (try replace hsp := ibeq hsp) <;> (try replace hsp := bbeq (a := Ar.sh _) hsp)))
    refine wpC_wrs rfl rfl rfl (by go_simp) ?_ ?_
    · repeat (refine obl_skip rfl rfl rfl (by go_simp) (by go_simp) ?_)
      exact obl_nil
    repeat' (first | (refine wpC_rdp rfl rfl (fun K hK => ?_); go_simp; (try go_bits)) | (refine wpC_rdg rfl rfl rfl (fun K hK => ?_); go_simp; (try go_bits)) | (refine hK _ ?_; clear hK K) | (split <;> rename_i hsp <;> (try replace hsp := ibeq hsp) <;> (try replace hsp := bbeq (a := Ar.sh _) hsp)))
    refine wpC_fin ?_
    go_wp2
    go_ret
    refine ⟨ret_bool ?_, hS1.right.right⟩
    simp [Ar.goes, *]

end Go.Proofs.Ytpiobilidhmedaa
