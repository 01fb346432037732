/-
  What build.node answers: the node of some parts.
-/
import Derived.Test.YtpiobilidhmedaaF8
namespace Go.Proofs.Ytpiobilidhmedaa
open Go.RowKit Go.Sl Go.Ct
set_option linter.unusedVariables false
set_option linter.unusedSimpArgs false
theorem wpC_cut {P : Program} {ops : Array Oper} {Q : Exit → Act → World → Prop} {ι : Type} {T0 : CT} {a : Act} {w : World} (T : CT) (act : ι → Act) (A : ι → World → Prop)
    (h1 : ∀ x w', A x w' → wpC P ops Q T (act x) w') (h2 : (∀ x w', A x w' → wpC P ops Q T (act x) w') → wpC P ops Q T0 a w) : wpC P ops Q T0 a w := h2 h1
theorem _root_.Go.Sl.Sat.b7 {W w : World} {A B C D E F G H I : As} (h : Sat W w (A * (B * (C * (D * (E * (F * (G * (H * I))))))))) : Sat W w (H * (A * (B * (C * (D * (E * (F * (G * I)))))))) := h.of_eq (by ac_rfl)
def tk (f : En × Int → Int) (ps : List (En × Int)) (i : Nat) : List Value := vi ((ps.map f).take i)
theorem tk_succ (f : En × Int → Int) {ps : List (En × Int)} {i : Nat} {x : En × Int} (h : ps[i]? = some x) : tk f ps i ++ [.int .i64 (f x)] = tk f ps (i + 1) := by
  unfold tk
  have hlt := (List.getElem?_eq_some_iff.1 h).1
  rw [List.take_succ_eq_append_getElem (by simpa using hlt), vi_snoc]
  have : (ps.map f)[i]'(by simpa using hlt) = f x := by
    have := (List.getElem?_eq_some_iff.1 h).2
    simp [this]
  rw [this]
theorem tk_all (f : En × Int → Int) (ps : List (En × Int)) : tk f ps ps.length = vi (ps.map f) := by unfold tk; rw [List.take_of_length_le (by simp)]
theorem Rd.part {w : World} {b o : Nat} {l : List (En × Int)} (h : Rd encP 4 w (some ⟨b, o, none⟩) l) {k : Nat} {x : En × Int} (hx : l[k]? = some x) :
    w.cell? ⟨b, o + k * 4, none⟩ = some (.int .i64 x.1.lo) ∧ w.cell? ⟨b, o + k * 4 + 1, none⟩ = some (.int .i64 x.1.e) ∧ w.cell? ⟨b, o + k * 4 + 2, none⟩ = some (.int .i64 x.1.h) ∧ w.cell? ⟨b, o + k * 4 + 3, none⟩ = some (.int .i64 x.2) := by
  obtain ⟨b', o', hA, hc⟩ := h.at (List.getElem?_eq_some_iff.1 hx).1
  cases hA
  exact ⟨hc k x hx 0 (by omega), hc k x hx 1 (by omega), hc k x hx 2 (by omega), hc k x hx 3 (by omega)⟩
def NodePost (ps : List (En × Int)) (inner : Bool) (w : World) (e : Ending) (w' : World) : Prop := ∃ v1 v2 v3, e = .returned (.agg #[.bool inner, .int .i64 (nodeOf ps inner).lo, v1, v2, v3]) ∧
  Sat w w' (row v1 2 1 ps.length (vi (nodeOf ps inner).ends) * (row v2 2 1 ps.length (vi (nodeOf ps inner).slots) * (row v3 2 1 ps.length (vi (nodeOf ps inner).gaps) * Old w)))

set_option maxRecDepth 100000 in
set_option maxHeartbeats 64000000 in
theorem node_calls (b o c : Nat) (ps : List (En × Int)) (inner : Bool) (w : World) (r : Rd encP 4 w (some ⟨b, o, none⟩) ps) (h1 : 1 ≤ ps.length) (hl : ps.length ≤ 1000) :
    Calls Try.prog 103 #[.slice (some ⟨b, o, none⟩) ps.length c, .bool inner] w (NodePost ps inner w) := by
  obtain ⟨x0, hx0⟩ : ∃ x, ps[0]? = some x := ⟨ps[0], by simp⟩
  have hlo : (nodeOf ps inner).lo = x0.1.lo := by
    cases ps with
    | nil => cases hx0
    | cons y l => simp at hx0; subst hx0; rfl
  obtain ⟨c0, c1, c2, c3⟩ := r.part hx0
  simp only [Nat.zero_mul, Nat.add_zero] at c0 c1 c2 c3
  have hb := World.block_lt_of_cell? _ _ c0
  simp only [] at hb
  have hS := ((((((Sat.refl w).alloc [.bool false, .int .i64 0, .slice none 0 0, .slice none 0 0, .slice none 0 0] 43).alloc [.bool inner, .int .i64 x0.1.lo, .slice none 0 0, .slice none 0 0, .slice none 0 0] 43).row_start 2 1).row_start 2 1).row_start 2 1)
  simp only [alloc_size] at hS
  have HLO := Lib.hid hlo
  have hp0 : (0 : Int) < (ps.length : Int) := by omega
  clear hlo hx0
  generalize x0.1.lo = lo at *
  go_enter Try.func103, Try.ntmps103
  go_wp2
  generalize w.heap.size + 1 = p at *
  generalize w.heap.size = rr at *
  go_loopg [17] ps.length (fun gk v17 w' => ∃ (i : Nat) (v1 v2 v3 : Value), i + gk = ps.length ∧ v17 = .int .i64 i ∧ Sat w w' (row v1 2 1 i (tk (·.1.e) ps i) * (row v2 2 1 i (tk (·.1.h) ps i) * (row v3 2 1 i (tk (·.2) ps i) * (pt p [.bool inner, .int .i64 lo, v1, v2, v3] 43 * (pt rr [.bool false, .int .i64 0, .slice none 0 0, .slice none 0 0, .slice none 0 0] 43 * Old w))))))
  case atStart => exact ⟨0, _, _, _, by omega, rfl, hS⟩
  case round =>
    clear hS c0 c1 c2 c3 hb
    obtain ⟨i, v1, v2, v3, hgk, rfl, hS⟩ := hrel
    have HG := Lib.hid hgk
    have hi : i ≤ ps.length := by omega
    clear hgk
    obtain ⟨A1, d1, rfl⟩ := row_shape hS
    obtain ⟨A2, d2, rfl⟩ := row_shape hS.rot
    obtain ⟨A3, d3, rfl⟩ := row_shape hS.b2
    have hcc := hS.b3.cell
    have hff := hS.b3.frozen
    have hpl : p < wr.heap.size := hS.b3.lt
    have hpl1 : p < wr.heap.size + 1 := by omega
    have hpl2 : p < wr.heap.size + 1 + 1 := by omega
    have hpl3 : p < wr.heap.size + 1 + 1 + 1 := by omega
    have hpl4 : p < wr.heap.size + 2 := by omega
    have hpl5 : p < wr.heap.size + 3 := by omega
    by_cases hlt : i < ps.length
    · obtain ⟨x, hx⟩ : ∃ x, ps[i]? = some x := ⟨ps[i], by simp⟩
      obtain ⟨c0, c1, c2, c3⟩ := (r.below (sz := 4) (fun _ => rfl) hS.right.right.right.right.right.below0).part hx
      have hb := World.block_lt_of_cell? _ _ c0
      simp only [] at hb
      have t1 := tk_succ (·.1.e) hx
      have t2 := tk_succ (·.1.h) hx
      have t3 := tk_succ (·.2) hx
      have T1 := Lib.hid t1
      have T2 := Lib.hid t2
      have T3 := Lib.hid t3
      clear t1 t2 t3 hx
      go_wp2
      replace hS := (hS.alloc (encP x) 134).drew
      generalize tk (·.1.e) ps i = L1 at *
      generalize tk (·.1.h) ps i = L2 at *
      generalize tk (·.2) ps i = L3 at *
      generalize hM1 : tk (·.1.e) ps (i + 1) = M1 at *
      generalize hM2 : tk (·.1.h) ps (i + 1) = M2 at *
      generalize hM3 : tk (·.2) ps (i + 1) = M3 at *
      have HM1 := Lib.hid hM1
      have HM2 := Lib.hid hM2
      have HM3 := Lib.hid hM3
      clear hM1 hM2 hM3
      refine wp_region_ct (.rd 0 (.rd 1 (.rd 2 (.rd 3 (.rd 4 (.rd 7 (.rd 8 (.rd 9 (.rd 10 (.rd 11 (.rd 14 (.rd 15 (.rd 16 (.rd 17 (.wr 5 [0, 1, 7, 8, 9, 10, 11, 14, 15, 16, 17] (.wr 6 [7, 8, 9, 10, 11, 14, 15, 16, 17] (.rd 20 (.wr 12 [0, 1, 2, 3, 4, 7, 8, 14, 15, 16, 17, 20] (.wr 13 [14, 15, 16, 17, 20] (.wr 18 [0, 1, 2, 3, 4, 7, 8, 9, 10, 11, 14, 15, 20] (.wr 19 [20] (.wr 21 [] (.rd 22 (.wr 23 [] (.rd 24 (.wr 25 [] .fin .stop)) .stop)) .stop) .stop) .stop) (.wr 18 [0, 1, 2, 3, 4, 7, 8, 9, 10, 11, 14, 15, 20] (.wr 13 [14, 15, 16, 17, 20] (.wr 19 [20] (.wr 21 [] (.rd 22 (.wr 23 [] (.rd 24 (.wr 25 [] .fin .stop)) .stop)) .stop) .stop) .stop) .stop)) (.wr 18 [0, 1, 2, 3, 4, 7, 8, 9, 10, 11, 14, 15, 20] (.wr 12 [0, 1, 2, 3, 4, 7, 8, 14, 15, 16, 17, 20] (.wr 13 [14, 15, 16, 17, 20] (.wr 19 [20] (.wr 21 [] (.rd 22 (.wr 23 [] (.rd 24 (.wr 25 [] .fin .stop)) .stop)) .stop) .stop) .stop) .stop) .stop))) (.wr 12 [0, 1, 2, 3, 4, 7, 8, 14, 15, 16, 17] (.wr 6 [7, 8, 9, 10, 11, 14, 15, 16, 17] (.rd 20 (.wr 13 [14, 15, 16, 17, 20] (.wr 18 [0, 1, 2, 3, 4, 7, 8, 9, 10, 11, 14, 15, 20] (.wr 19 [20] (.wr 21 [] (.rd 22 (.wr 23 [] (.rd 24 (.wr 25 [] .fin .stop)) .stop)) .stop) .stop) .stop) (.wr 18 [0, 1, 2, 3, 4, 7, 8, 9, 10, 11, 14, 15, 20] (.wr 13 [14, 15, 16, 17, 20] (.wr 19 [20] (.wr 21 [] (.rd 22 (.wr 23 [] (.rd 24 (.wr 25 [] .fin .stop)) .stop)) .stop) .stop) .stop) .stop))) (.wr 18 [0, 1, 2, 3, 4, 7, 8, 9, 10, 11, 14, 15] (.wr 6 [7, 8, 9, 10, 11, 14, 15, 16, 17] (.rd 20 (.wr 13 [14, 15, 16, 17, 20] (.wr 19 [20] (.wr 21 [] (.rd 22 (.wr 23 [] (.rd 24 (.wr 25 [] .fin .stop)) .stop)) .stop) .stop) .stop)) .stop) .stop)) (.wr 18 [0, 1, 2, 3, 4, 7, 8, 9, 10, 11, 14, 15] (.wr 6 [7, 8, 9, 10, 11, 14, 15, 16, 17] (.rd 20 (.wr 12 [0, 1, 2, 3, 4, 7, 8, 14, 15, 16, 17, 20] (.wr 13 [14, 15, 16, 17, 20] (.wr 19 [20] (.wr 21 [] (.rd 22 (.wr 23 [] (.rd 24 (.wr 25 [] .fin .stop)) .stop)) .stop) .stop) .stop) .stop)) (.wr 12 [0, 1, 2, 3, 4, 7, 8, 14, 15, 16, 17] (.wr 6 [7, 8, 9, 10, 11, 14, 15, 16, 17] (.rd 20 (.wr 13 [14, 15, 16, 17, 20] (.wr 19 [20] (.wr 21 [] (.rd 22 (.wr 23 [] (.rd 24 (.wr 25 [] .fin .stop)) .stop)) .stop) .stop) .stop)) .stop) .stop)) .stop))) (.wr 12 [0, 1, 2, 3, 4, 7, 8, 14, 15, 16, 17] (.wr 5 [0, 1, 7, 8, 9, 10, 11, 14, 15, 16, 17] (.wr 6 [7, 8, 9, 10, 11, 14, 15, 16, 17] (.rd 20 (.wr 13 [14, 15, 16, 17, 20] (.wr 18 [0, 1, 2, 3, 4, 7, 8, 9, 10, 11, 14, 15, 20] (.wr 19 [20] (.wr 21 [] (.rd 22 (.wr 23 [] (.rd 24 (.wr 25 [] .fin .stop)) .stop)) .stop) .stop) .stop) (.wr 18 [0, 1, 2, 3, 4, 7, 8, 9, 10, 11, 14, 15, 20] (.wr 13 [14, 15, 16, 17, 20] (.wr 19 [20] (.wr 21 [] (.rd 22 (.wr 23 [] (.rd 24 (.wr 25 [] .fin .stop)) .stop)) .stop) .stop) .stop) .stop))) (.wr 18 [0, 1, 2, 3, 4, 7, 8, 9, 10, 11, 14, 15] (.wr 6 [7, 8, 9, 10, 11, 14, 15, 16, 17] (.rd 20 (.wr 13 [14, 15, 16, 17, 20] (.wr 19 [20] (.wr 21 [] (.rd 22 (.wr 23 [] (.rd 24 (.wr 25 [] .fin .stop)) .stop)) .stop) .stop) .stop)) .stop) .stop)) (.wr 18 [0, 1, 2, 3, 4, 7, 8, 9, 10, 11, 14, 15] (.wr 5 [0, 1, 7, 8, 9, 10, 11, 14, 15, 16, 17] (.wr 6 [7, 8, 9, 10, 11, 14, 15, 16, 17] (.rd 20 (.wr 13 [14, 15, 16, 17, 20] (.wr 19 [20] (.wr 21 [] (.rd 22 (.wr 23 [] (.rd 24 (.wr 25 [] .fin .stop)) .stop)) .stop) .stop) .stop)) .stop) .stop) .stop)) (.wr 18 [0, 1, 2, 3, 4, 7, 8, 9, 10, 11, 14, 15] (.wr 5 [0, 1, 7, 8, 9, 10, 11, 14, 15, 16, 17] (.wr 6 [7, 8, 9, 10, 11, 14, 15, 16, 17] (.rd 20 (.wr 12 [0, 1, 2, 3, 4, 7, 8, 14, 15, 16, 17, 20] (.wr 13 [14, 15, 16, 17, 20] (.wr 19 [20] (.wr 21 [] (.rd 22 (.wr 23 [] (.rd 24 (.wr 25 [] .fin .stop)) .stop)) .stop) .stop) .stop) .stop)) (.wr 12 [0, 1, 2, 3, 4, 7, 8, 14, 15, 16, 17] (.wr 6 [7, 8, 9, 10, 11, 14, 15, 16, 17] (.rd 20 (.wr 13 [14, 15, 16, 17, 20] (.wr 19 [20] (.wr 21 [] (.rd 22 (.wr 23 [] (.rd 24 (.wr 25 [] .fin .stop)) .stop)) .stop) .stop) .stop)) .stop) .stop)) (.wr 12 [0, 1, 2, 3, 4, 7, 8, 14, 15, 16, 17] (.wr 5 [0, 1, 7, 8, 9, 10, 11, 14, 15, 16, 17] (.wr 6 [7, 8, 9, 10, 11, 14, 15, 16, 17] (.rd 20 (.wr 13 [14, 15, 16, 17, 20] (.wr 19 [20] (.wr 21 [] (.rd 22 (.wr 23 [] (.rd 24 (.wr 25 [] .fin .stop)) .stop)) .stop) .stop) .stop)) .stop) .stop) .stop)) .stop))))))))))))))))) 46 mixed (by kernel_rfl) (Nat.le_refl _) (fun c a a' w e h => ⟨e ▸ h.1, h.2⟩) ?_
      repeat' (first | (refine wpC_rdp rfl rfl (fun K hK => ?_); go_simp; (try go_bits)) | (refine hK _ ?_; clear hK K))
      generalize wr.heap.size = q at *
      refine wpC_cut (.wr 21 [] (.rd 22 (.wr 23 [] (.rd 24 (.wr 25 [] .fin .stop)) .stop)) .stop) (fun y : Nat × Nat × Nat × Value × Value × Value => { tmps := #[.slice (some ⟨b, o, none⟩) ps.length c, .bool inner, undef, undef, .pointer (some ⟨rr, 0, none⟩), .pointer (some ⟨p, 0, none⟩), undef, .pointer (some ⟨q, 0, none⟩), .bool inner, .slice (some ⟨b, o, none⟩) ps.length c, .pointer (some ⟨b, o, none⟩), .pointer (some ⟨b, o, none⟩), .pointer (some ⟨b, o, none⟩), .int .i64 lo, .agg #[.bool inner, .int .i64 lo, .slice none 0 0, .slice none 0 0, .slice none 0 0], .slice (some ⟨b, o, none⟩) ps.length c, .int .i64 ps.length, .int .i64 i, .bool true, .pointer (some ⟨b, o + i * 4, none⟩), .agg #[.int .i64 x.1.lo, .int .i64 x.1.e, .int .i64 x.1.h, .int .i64 x.2], .pointer (some ⟨p, 2, none⟩), .slice A1 i d1, .pointer (some ⟨q, 0, none⟩), .pointer (some ⟨q, 1, none⟩), .int .i64 x.1.e, .slice (some ⟨y.1, 0, none⟩) 1 1, y.2.2.2.1, .pointer (some ⟨p, 3, none⟩), .slice A2 i d2, .pointer (some ⟨q, 0, none⟩), .pointer (some ⟨q, 2, none⟩), .int .i64 x.1.h, .slice (some ⟨y.2.1, 0, none⟩) 1 1, y.2.2.2.2.1, .pointer (some ⟨p, 4, none⟩), .slice A3 i d3, .pointer (some ⟨q, 3, none⟩), .int .i64 x.2, .slice (some ⟨y.2.2.1, 0, none⟩) 1 1, y.2.2.2.2.2, .pointer (some ⟨p, 2, none⟩), u42, u43, u44, undef], defers := [] }) (fun y w2 => Sat w w2 (row y.2.2.2.1 2 1 (i + 1) M1 * (row y.2.2.2.2.1 2 1 (i + 1) M2 * (row y.2.2.2.2.2 2 1 (i + 1) M3 * (pt p [.bool inner, .int .i64 lo, .slice A1 i d1, .slice A2 i d2, .slice A3 i d3] 43 * (pt q (encP x) 134 * (pt rr [.bool false, .int .i64 0, .slice none 0 0, .slice none 0 0, .slice none 0 0] 43 * Old w))))))) (fun y w2 hS => ?_) (fun hSS => ?_)
      ·
        obtain ⟨g1, g2, g3, v1, v2, v3⟩ := y
        dsimp only at hS ⊢
        obtain ⟨B1, e1, rfl⟩ := row_shape hS
        obtain ⟨B2, e2, rfl⟩ := row_shape hS.rot
        obtain ⟨B3, e3, rfl⟩ := row_shape hS.b2
        replace hS := hS.b3
        have hcc := hS.cell
        have hff := hS.frozen
        refine wpC_wrp rfl rfl (fun R hR => ?_)
        go_wp2
        refine hR _ _ ?_ ?_
        · exact obl_nil
        clear hR R
        replace hS := hS.set 2 (.slice B1 (i + 1) e1)
        clear hcc hff
        repeat' (first | (refine wpC_rdp rfl rfl (fun K hK => ?_); go_simp; (try go_bits)) | (refine hK _ ?_; clear hK K))
        have hcc := hS.cell
        have hff := hS.frozen
        refine wpC_wrp rfl rfl (fun R hR => ?_)
        go_wp2
        refine hR _ _ ?_ ?_
        · exact obl_nil
        clear hR R
        replace hS := hS.set 3 (.slice B2 (i + 1) e2)
        clear hcc hff
        repeat' (first | (refine wpC_rdp rfl rfl (fun K hK => ?_); go_simp; (try go_bits)) | (refine hK _ ?_; clear hK K))
        have hcc := hS.cell
        have hff := hS.frozen
        refine wpC_wrp rfl rfl (fun R hR => ?_)
        go_wp2
        refine hR _ _ ?_ ?_
        · exact obl_nil
        clear hR R
        replace hS := hS.set 4 (.slice B3 (i + 1) e3)
        clear hcc hff
        repeat' (first | (refine wpC_rdp rfl rfl (fun K hK => ?_); go_simp; (try go_bits)) | (refine hK _ ?_; clear hK K))
        refine wpC_fin ?_
        simp only [List.set_cons_zero, List.set_cons_succ] at hS
        go_wp2
        go_roundg (gk - 1)
        case measure => have := HG.out; omega
        case rel => exact ⟨i + 1, .slice B1 (i + 1) e1, .slice B2 (i + 1) e2, .slice B3 (i + 1) e3, by have := HG.out; omega, by go_num, by rw [HM1.out, HM2.out, HM3.out]; exact (hS.b4.right.of_eq (by ac_rfl))⟩
      have S3_123 := Lib.hid hSS
      clear hSS
      refine wpC_cut (.wr 19 [20] (.wr 21 [] (.rd 22 (.wr 23 [] (.rd 24 (.wr 25 [] .fin .stop)) .stop)) .stop) .stop) (fun y : Nat × Nat × Nat × Value × Value × Value => { tmps := #[.slice (some ⟨b, o, none⟩) ps.length c, .bool inner, undef, undef, .pointer (some ⟨rr, 0, none⟩), .pointer (some ⟨p, 0, none⟩), undef, .pointer (some ⟨q, 0, none⟩), .bool inner, .slice (some ⟨b, o, none⟩) ps.length c, .pointer (some ⟨b, o, none⟩), .pointer (some ⟨b, o, none⟩), .pointer (some ⟨b, o, none⟩), .int .i64 lo, .agg #[.bool inner, .int .i64 lo, .slice none 0 0, .slice none 0 0, .slice none 0 0], .slice (some ⟨b, o, none⟩) ps.length c, .int .i64 ps.length, .int .i64 i, .bool true, .pointer (some ⟨b, o + i * 4, none⟩), .agg #[.int .i64 x.1.lo, .int .i64 x.1.e, .int .i64 x.1.h, .int .i64 x.2], .pointer (some ⟨p, 2, none⟩), .slice A1 i d1, .pointer (some ⟨q, 0, none⟩), .pointer (some ⟨q, 1, none⟩), .int .i64 x.1.e, .slice (some ⟨y.1, 0, none⟩) 1 1, y.2.2.2.1, .pointer (some ⟨p, 3, none⟩), .slice A2 i d2, .pointer (some ⟨q, 0, none⟩), .pointer (some ⟨q, 2, none⟩), .int .i64 x.1.h, .slice (some ⟨y.2.1, 0, none⟩) 1 1, y.2.2.2.2.1, .pointer (some ⟨p, 4, none⟩), .slice A3 i d3, .pointer (some ⟨q, 3, none⟩), .int .i64 x.2, .slice (some ⟨y.2.2.1, 0, none⟩) 1 1, u40, .pointer (some ⟨p, 2, none⟩), u42, u43, u44, undef], defers := [] }) (fun y w2 => Sat w w2 (pt y.2.2.1 [.int .i64 x.2] 2 * (row y.2.2.2.1 2 1 (i + 1) M1 * (row y.2.2.2.2.1 2 1 (i + 1) M2 * (row (.slice A3 i d3) 2 1 i L3 * (pt p [.bool inner, .int .i64 lo, .slice A1 i d1, .slice A2 i d2, .slice A3 i d3] 43 * (pt q (encP x) 134 * (pt rr [.bool false, .int .i64 0, .slice none 0 0, .slice none 0 0, .slice none 0 0] 43 * Old w)))))))) (fun y w2 hS => ?_) (fun hSS => ?_)
      ·
        obtain ⟨g1, g2, g3, v1, v2, v3⟩ := y
        dsimp only at hS ⊢
        have hP := hS.b4
        have hcc := hP.cell
        have hff := hP.frozen
        have hpl := hP.lt
        have hQ := hS.b5
        have hqc := hQ.cell
        simp only [encP] at hqc
        have hql := hQ.lt
        clear hP hQ
        refine wpC_wrp rfl rfl (fun R hR => ?_)
        have hb := hS.blk
        refine wpList_append_new rfl _ _ 23 rfl 2 _ 1 8 Try.underlying23 info2 rfl (by decide) _ _ _ _ rfl (hS.b3) _ [.int .i64 x.2] rfl rfl hb (by simp [Value.oneCell']) (by omega) (by omega) ?_
        clear hb hcc hff hpl hqc hql
        intro v w2 hn
        rw [T3.out] at hn
        replace hn : Sat w w2 (row v1 2 1 (i + 1) M1 * (row v2 2 1 (i + 1) M2 * (row v 2 1 (i + 1) M3 * (pt p [.bool inner, .int .i64 lo, .slice A1 i d1, .slice A2 i d2, .slice A3 i d3] 43 * (pt q (encP x) 134 * (pt rr [.bool false, .int .i64 0, .slice none 0 0, .slice none 0 0, .slice none 0 0] 43 * Old w)))))) := (hn.rot.right).of_eq (by ac_rfl)
        have hP := hn.b3
        have hcc := hP.cell
        have hff := hP.frozen
        have hpl := hP.lt
        have hQ := hn.b4
        have hqc := hQ.cell
        simp only [encP] at hqc
        have hql := hQ.lt
        clear hP hQ
        go_wp2
        refine hR _ _ ?_ ?_
        · repeat (first | refine obl_cons rfl rfl (by go_simp <;> first | exact IntWalk.i64_in _ (by omega) | rfl) ?_ | refine obl_consg rfl rfl rfl (by go_simp) (by go_simp <;> first | exact IntWalk.i64_in _ (by omega) | rfl) ?_ | refine obl_skip rfl rfl rfl (by go_simp) (by go_simp) ?_)
          exact obl_nil
        clear hR R
        exact S3_123.out (g1, g2, g3, v1, v2, v) _ hn
      have S2_123 := Lib.hid hSS
      clear hSS
      refine wpC_cut (.wr 18 [0, 1, 2, 3, 4, 7, 8, 9, 10, 11, 14, 15, 20] (.wr 19 [20] (.wr 21 [] (.rd 22 (.wr 23 [] (.rd 24 (.wr 25 [] .fin .stop)) .stop)) .stop) .stop) .stop) (fun y : Nat × Nat × Nat × Value × Value × Value => { tmps := #[.slice (some ⟨b, o, none⟩) ps.length c, .bool inner, undef, undef, .pointer (some ⟨rr, 0, none⟩), .pointer (some ⟨p, 0, none⟩), undef, .pointer (some ⟨q, 0, none⟩), .bool inner, .slice (some ⟨b, o, none⟩) ps.length c, .pointer (some ⟨b, o, none⟩), .pointer (some ⟨b, o, none⟩), .pointer (some ⟨b, o, none⟩), .int .i64 lo, .agg #[.bool inner, .int .i64 lo, .slice none 0 0, .slice none 0 0, .slice none 0 0], .slice (some ⟨b, o, none⟩) ps.length c, .int .i64 ps.length, .int .i64 i, .bool true, .pointer (some ⟨b, o + i * 4, none⟩), .agg #[.int .i64 x.1.lo, .int .i64 x.1.e, .int .i64 x.1.h, .int .i64 x.2], .pointer (some ⟨p, 2, none⟩), .slice A1 i d1, .pointer (some ⟨q, 0, none⟩), .pointer (some ⟨q, 1, none⟩), .int .i64 x.1.e, .slice (some ⟨y.1, 0, none⟩) 1 1, y.2.2.2.1, .pointer (some ⟨p, 3, none⟩), .slice A2 i d2, .pointer (some ⟨q, 0, none⟩), .pointer (some ⟨q, 2, none⟩), .int .i64 x.1.h, .slice (some ⟨y.2.1, 0, none⟩) 1 1, y.2.2.2.2.1, .pointer (some ⟨p, 4, none⟩), .slice A3 i d3, .pointer (some ⟨q, 3, none⟩), .int .i64 x.2, u39, u40, .pointer (some ⟨p, 2, none⟩), u42, u43, u44, undef], defers := [] }) (fun y w2 => Sat w w2 (row y.2.2.2.1 2 1 (i + 1) M1 * (row y.2.2.2.2.1 2 1 (i + 1) M2 * (row (.slice A3 i d3) 2 1 i L3 * (pt p [.bool inner, .int .i64 lo, .slice A1 i d1, .slice A2 i d2, .slice A3 i d3] 43 * (pt q (encP x) 134 * (pt rr [.bool false, .int .i64 0, .slice none 0 0, .slice none 0 0, .slice none 0 0] 43 * Old w))))))) (fun y w2 hS => ?_) (fun hSS => ?_)
      ·
        obtain ⟨g1, g2, g3, v1, v2, v3⟩ := y
        dsimp only at hS ⊢
        have hP := hS.b3
        have hcc := hP.cell
        have hff := hP.frozen
        have hpl := hP.lt
        have hQ := hS.b4
        have hqc := hQ.cell
        simp only [encP] at hqc
        have hql := hQ.lt
        clear hP hQ
        refine wpC_wrp rfl rfl (fun R hR => ?_)
        go_wp2
        refine hR _ _ ?_ ?_
        · repeat (first | refine obl_cons rfl rfl (by go_simp <;> first | exact IntWalk.i64_in _ (by omega) | rfl) ?_ | refine obl_consg rfl rfl rfl (by go_simp) (by go_simp <;> first | exact IntWalk.i64_in _ (by omega) | rfl) ?_ | refine obl_skip rfl rfl rfl (by go_simp) (by go_simp) ?_)
          exact obl_nil
        clear hR R
        have hn := hS.alloc [.int .i64 x.2] 2
        exact S2_123.out (g1, g2, w2.heap.size, v1, v2, v3) _ (hn.of_eq (by dsimp only; try ac_rfl))
      have S2_12 := Lib.hid hSS
      clear hSS
      refine wpC_cut (.wr 13 [14, 15, 16, 17, 20] (.wr 19 [20] (.wr 21 [] (.rd 22 (.wr 23 [] (.rd 24 (.wr 25 [] .fin .stop)) .stop)) .stop) .stop) .stop) (fun y : Nat × Nat × Nat × Value × Value × Value => { tmps := #[.slice (some ⟨b, o, none⟩) ps.length c, .bool inner, undef, undef, .pointer (some ⟨rr, 0, none⟩), .pointer (some ⟨p, 0, none⟩), undef, .pointer (some ⟨q, 0, none⟩), .bool inner, .slice (some ⟨b, o, none⟩) ps.length c, .pointer (some ⟨b, o, none⟩), .pointer (some ⟨b, o, none⟩), .pointer (some ⟨b, o, none⟩), .int .i64 lo, .agg #[.bool inner, .int .i64 lo, .slice none 0 0, .slice none 0 0, .slice none 0 0], .slice (some ⟨b, o, none⟩) ps.length c, .int .i64 ps.length, .int .i64 i, .bool true, .pointer (some ⟨b, o + i * 4, none⟩), .agg #[.int .i64 x.1.lo, .int .i64 x.1.e, .int .i64 x.1.h, .int .i64 x.2], .pointer (some ⟨p, 2, none⟩), .slice A1 i d1, .pointer (some ⟨q, 0, none⟩), .pointer (some ⟨q, 1, none⟩), .int .i64 x.1.e, .slice (some ⟨y.1, 0, none⟩) 1 1, y.2.2.2.1, .pointer (some ⟨p, 3, none⟩), .slice A2 i d2, .pointer (some ⟨q, 0, none⟩), .pointer (some ⟨q, 2, none⟩), .int .i64 x.1.h, .slice (some ⟨y.2.1, 0, none⟩) 1 1, u34, .pointer (some ⟨p, 4, none⟩), .slice A3 i d3, .pointer (some ⟨q, 3, none⟩), .int .i64 x.2, .slice (some ⟨y.2.2.1, 0, none⟩) 1 1, u40, .pointer (some ⟨p, 2, none⟩), u42, u43, u44, undef], defers := [] }) (fun y w2 => Sat w w2 (pt y.2.1 [.int .i64 x.1.h] 2 * (pt y.2.2.1 [.int .i64 x.2] 2 * (row y.2.2.2.1 2 1 (i + 1) M1 * (row (.slice A2 i d2) 2 1 i L2 * (row (.slice A3 i d3) 2 1 i L3 * (pt p [.bool inner, .int .i64 lo, .slice A1 i d1, .slice A2 i d2, .slice A3 i d3] 43 * (pt q (encP x) 134 * (pt rr [.bool false, .int .i64 0, .slice none 0 0, .slice none 0 0, .slice none 0 0] 43 * Old w))))))))) (fun y w2 hS => ?_) (fun hSS => ?_)
      ·
        obtain ⟨g1, g2, g3, v1, v2, v3⟩ := y
        dsimp only at hS ⊢
        have hP := hS.b5
        have hcc := hP.cell
        have hff := hP.frozen
        have hpl := hP.lt
        have hQ := hS.b6
        have hqc := hQ.cell
        simp only [encP] at hqc
        have hql := hQ.lt
        clear hP hQ
        refine wpC_wrp rfl rfl (fun R hR => ?_)
        have hb := hS.blk
        refine wpList_append_new rfl _ _ 23 rfl 2 _ 1 8 Try.underlying23 info2 rfl (by decide) _ _ _ _ rfl (hS.b3) _ [.int .i64 x.1.h] rfl rfl hb (by simp [Value.oneCell']) (by omega) (by omega) ?_
        clear hb hcc hff hpl hqc hql
        intro v w2 hn
        rw [T2.out] at hn
        replace hn : Sat w w2 (pt g3 [.int .i64 x.2] 2 * (row v1 2 1 (i + 1) M1 * (row v 2 1 (i + 1) M2 * (row (.slice A3 i d3) 2 1 i L3 * (pt p [.bool inner, .int .i64 lo, .slice A1 i d1, .slice A2 i d2, .slice A3 i d3] 43 * (pt q (encP x) 134 * (pt rr [.bool false, .int .i64 0, .slice none 0 0, .slice none 0 0, .slice none 0 0] 43 * Old w))))))) := (hn.rot.right).of_eq (by ac_rfl)
        have hP := hn.b4
        have hcc := hP.cell
        have hff := hP.frozen
        have hpl := hP.lt
        have hQ := hn.b5
        have hqc := hQ.cell
        simp only [encP] at hqc
        have hql := hQ.lt
        clear hP hQ
        go_wp2
        refine hR _ _ ?_ ?_
        · repeat (first | refine obl_cons rfl rfl (by go_simp <;> first | exact IntWalk.i64_in _ (by omega) | rfl) ?_ | refine obl_consg rfl rfl rfl (by go_simp) (by go_simp <;> first | exact IntWalk.i64_in _ (by omega) | rfl) ?_ | refine obl_skip rfl rfl rfl (by go_simp) (by go_simp) ?_)
          exact obl_nil
        clear hR R
        exact S2_123.out (g1, g2, g3, v1, v, v3) _ hn
      have S1_123 := Lib.hid hSS
      clear hSS
      refine wpC_cut (.wr 13 [14, 15, 16, 17, 20] (.wr 18 [0, 1, 2, 3, 4, 7, 8, 9, 10, 11, 14, 15, 20] (.wr 19 [20] (.wr 21 [] (.rd 22 (.wr 23 [] (.rd 24 (.wr 25 [] .fin .stop)) .stop)) .stop) .stop) .stop) (.wr 18 [0, 1, 2, 3, 4, 7, 8, 9, 10, 11, 14, 15, 20] (.wr 13 [14, 15, 16, 17, 20] (.wr 19 [20] (.wr 21 [] (.rd 22 (.wr 23 [] (.rd 24 (.wr 25 [] .fin .stop)) .stop)) .stop) .stop) .stop) .stop)) (fun y : Nat × Nat × Nat × Value × Value × Value => { tmps := #[.slice (some ⟨b, o, none⟩) ps.length c, .bool inner, undef, undef, .pointer (some ⟨rr, 0, none⟩), .pointer (some ⟨p, 0, none⟩), undef, .pointer (some ⟨q, 0, none⟩), .bool inner, .slice (some ⟨b, o, none⟩) ps.length c, .pointer (some ⟨b, o, none⟩), .pointer (some ⟨b, o, none⟩), .pointer (some ⟨b, o, none⟩), .int .i64 lo, .agg #[.bool inner, .int .i64 lo, .slice none 0 0, .slice none 0 0, .slice none 0 0], .slice (some ⟨b, o, none⟩) ps.length c, .int .i64 ps.length, .int .i64 i, .bool true, .pointer (some ⟨b, o + i * 4, none⟩), .agg #[.int .i64 x.1.lo, .int .i64 x.1.e, .int .i64 x.1.h, .int .i64 x.2], .pointer (some ⟨p, 2, none⟩), .slice A1 i d1, .pointer (some ⟨q, 0, none⟩), .pointer (some ⟨q, 1, none⟩), .int .i64 x.1.e, .slice (some ⟨y.1, 0, none⟩) 1 1, y.2.2.2.1, .pointer (some ⟨p, 3, none⟩), .slice A2 i d2, .pointer (some ⟨q, 0, none⟩), .pointer (some ⟨q, 2, none⟩), .int .i64 x.1.h, .slice (some ⟨y.2.1, 0, none⟩) 1 1, u34, .pointer (some ⟨p, 4, none⟩), .slice A3 i d3, .pointer (some ⟨q, 3, none⟩), .int .i64 x.2, u39, u40, .pointer (some ⟨p, 2, none⟩), u42, u43, u44, undef], defers := [] }) (fun y w2 => Sat w w2 (pt y.2.1 [.int .i64 x.1.h] 2 * (row y.2.2.2.1 2 1 (i + 1) M1 * (row (.slice A2 i d2) 2 1 i L2 * (row (.slice A3 i d3) 2 1 i L3 * (pt p [.bool inner, .int .i64 lo, .slice A1 i d1, .slice A2 i d2, .slice A3 i d3] 43 * (pt q (encP x) 134 * (pt rr [.bool false, .int .i64 0, .slice none 0 0, .slice none 0 0, .slice none 0 0] 43 * Old w)))))))) (fun y w2 hS => ?_) (fun hSS => ?_)
      ·
        obtain ⟨g1, g2, g3, v1, v2, v3⟩ := y
        dsimp only at hS ⊢
        have hP := hS.b4
        have hcc := hP.cell
        have hff := hP.frozen
        have hpl := hP.lt
        have hQ := hS.b5
        have hqc := hQ.cell
        simp only [encP] at hqc
        have hql := hQ.lt
        clear hP hQ
        refine wpC_or ?_ ?_
        ·
          refine wpC_wrp rfl rfl (fun R hR => ?_)
          have hb := hS.blk
          refine wpList_append_new rfl _ _ 23 rfl 2 _ 1 8 Try.underlying23 info2 rfl (by decide) _ _ _ _ rfl (hS.b2) _ [.int .i64 x.1.h] rfl rfl hb (by simp [Value.oneCell']) (by omega) (by omega) ?_
          clear hb hcc hff hpl hqc hql
          intro v w2 hn
          rw [T2.out] at hn
          replace hn : Sat w w2 (row v1 2 1 (i + 1) M1 * (row v 2 1 (i + 1) M2 * (row (.slice A3 i d3) 2 1 i L3 * (pt p [.bool inner, .int .i64 lo, .slice A1 i d1, .slice A2 i d2, .slice A3 i d3] 43 * (pt q (encP x) 134 * (pt rr [.bool false, .int .i64 0, .slice none 0 0, .slice none 0 0, .slice none 0 0] 43 * Old w)))))) := (hn.rot.right).of_eq (by ac_rfl)
          have hP := hn.b3
          have hcc := hP.cell
          have hff := hP.frozen
          have hpl := hP.lt
          have hQ := hn.b4
          have hqc := hQ.cell
          simp only [encP] at hqc
          have hql := hQ.lt
          clear hP hQ
          go_wp2
          refine hR _ _ ?_ ?_
          · repeat (first | refine obl_cons rfl rfl (by go_simp <;> first | exact IntWalk.i64_in _ (by omega) | rfl) ?_ | refine obl_consg rfl rfl rfl (by go_simp) (by go_simp <;> first | exact IntWalk.i64_in _ (by omega) | rfl) ?_ | refine obl_skip rfl rfl rfl (by go_simp) (by go_simp) ?_)
            exact obl_nil
          clear hR R
          exact S2_12.out (g1, g2, g3, v1, v, v3) _ hn
        ·
          refine wpC_wrp rfl rfl (fun R hR => ?_)
          go_wp2
          refine hR _ _ ?_ ?_
          · repeat (first | refine obl_cons rfl rfl (by go_simp <;> first | exact IntWalk.i64_in _ (by omega) | rfl) ?_ | refine obl_consg rfl rfl rfl (by go_simp) (by go_simp <;> first | exact IntWalk.i64_in _ (by omega) | rfl) ?_ | refine obl_skip rfl rfl rfl (by go_simp) (by go_simp) ?_)
            exact obl_nil
          clear hR R
          have hn := hS.alloc [.int .i64 x.2] 2
          exact S1_123.out (g1, g2, w2.heap.size, v1, v2, v3) _ (hn.of_eq (by dsimp only; try ac_rfl))
      have S1_12 := Lib.hid hSS
      clear hSS
      refine wpC_cut (.wr 12 [0, 1, 2, 3, 4, 7, 8, 14, 15, 16, 17, 20] (.wr 13 [14, 15, 16, 17, 20] (.wr 19 [20] (.wr 21 [] (.rd 22 (.wr 23 [] (.rd 24 (.wr 25 [] .fin .stop)) .stop)) .stop) .stop) .stop) .stop) (fun y : Nat × Nat × Nat × Value × Value × Value => { tmps := #[.slice (some ⟨b, o, none⟩) ps.length c, .bool inner, undef, undef, .pointer (some ⟨rr, 0, none⟩), .pointer (some ⟨p, 0, none⟩), undef, .pointer (some ⟨q, 0, none⟩), .bool inner, .slice (some ⟨b, o, none⟩) ps.length c, .pointer (some ⟨b, o, none⟩), .pointer (some ⟨b, o, none⟩), .pointer (some ⟨b, o, none⟩), .int .i64 lo, .agg #[.bool inner, .int .i64 lo, .slice none 0 0, .slice none 0 0, .slice none 0 0], .slice (some ⟨b, o, none⟩) ps.length c, .int .i64 ps.length, .int .i64 i, .bool true, .pointer (some ⟨b, o + i * 4, none⟩), .agg #[.int .i64 x.1.lo, .int .i64 x.1.e, .int .i64 x.1.h, .int .i64 x.2], .pointer (some ⟨p, 2, none⟩), .slice A1 i d1, .pointer (some ⟨q, 0, none⟩), .pointer (some ⟨q, 1, none⟩), .int .i64 x.1.e, .slice (some ⟨y.1, 0, none⟩) 1 1, y.2.2.2.1, .pointer (some ⟨p, 3, none⟩), .slice A2 i d2, .pointer (some ⟨q, 0, none⟩), .pointer (some ⟨q, 2, none⟩), .int .i64 x.1.h, u33, u34, .pointer (some ⟨p, 4, none⟩), .slice A3 i d3, .pointer (some ⟨q, 3, none⟩), .int .i64 x.2, .slice (some ⟨y.2.2.1, 0, none⟩) 1 1, u40, .pointer (some ⟨p, 2, none⟩), u42, u43, u44, undef], defers := [] }) (fun y w2 => Sat w w2 (pt y.2.2.1 [.int .i64 x.2] 2 * (row y.2.2.2.1 2 1 (i + 1) M1 * (row (.slice A2 i d2) 2 1 i L2 * (row (.slice A3 i d3) 2 1 i L3 * (pt p [.bool inner, .int .i64 lo, .slice A1 i d1, .slice A2 i d2, .slice A3 i d3] 43 * (pt q (encP x) 134 * (pt rr [.bool false, .int .i64 0, .slice none 0 0, .slice none 0 0, .slice none 0 0] 43 * Old w)))))))) (fun y w2 hS => ?_) (fun hSS => ?_)
      ·
        obtain ⟨g1, g2, g3, v1, v2, v3⟩ := y
        dsimp only at hS ⊢
        have hP := hS.b4
        have hcc := hP.cell
        have hff := hP.frozen
        have hpl := hP.lt
        have hQ := hS.b5
        have hqc := hQ.cell
        simp only [encP] at hqc
        have hql := hQ.lt
        clear hP hQ
        refine wpC_wrp rfl rfl (fun R hR => ?_)
        go_wp2
        refine hR _ _ ?_ ?_
        · repeat (first | refine obl_cons rfl rfl (by go_simp <;> first | exact IntWalk.i64_in _ (by omega) | rfl) ?_ | refine obl_consg rfl rfl rfl (by go_simp) (by go_simp <;> first | exact IntWalk.i64_in _ (by omega) | rfl) ?_ | refine obl_skip rfl rfl rfl (by go_simp) (by go_simp) ?_)
          exact obl_nil
        clear hR R
        have hn := hS.alloc [.int .i64 x.1.h] 2
        exact S1_123.out (g1, w2.heap.size, g3, v1, v2, v3) _ (hn.of_eq (by dsimp only; try ac_rfl))
      have S1_13 := Lib.hid hSS
      clear hSS
      refine wpC_cut (.wr 12 [0, 1, 2, 3, 4, 7, 8, 14, 15, 16, 17, 20] (.wr 13 [14, 15, 16, 17, 20] (.wr 18 [0, 1, 2, 3, 4, 7, 8, 9, 10, 11, 14, 15, 20] (.wr 19 [20] (.wr 21 [] (.rd 22 (.wr 23 [] (.rd 24 (.wr 25 [] .fin .stop)) .stop)) .stop) .stop) .stop) (.wr 18 [0, 1, 2, 3, 4, 7, 8, 9, 10, 11, 14, 15, 20] (.wr 13 [14, 15, 16, 17, 20] (.wr 19 [20] (.wr 21 [] (.rd 22 (.wr 23 [] (.rd 24 (.wr 25 [] .fin .stop)) .stop)) .stop) .stop) .stop) .stop)) (.wr 18 [0, 1, 2, 3, 4, 7, 8, 9, 10, 11, 14, 15, 20] (.wr 12 [0, 1, 2, 3, 4, 7, 8, 14, 15, 16, 17, 20] (.wr 13 [14, 15, 16, 17, 20] (.wr 19 [20] (.wr 21 [] (.rd 22 (.wr 23 [] (.rd 24 (.wr 25 [] .fin .stop)) .stop)) .stop) .stop) .stop) .stop) .stop)) (fun y : Nat × Nat × Nat × Value × Value × Value => { tmps := #[.slice (some ⟨b, o, none⟩) ps.length c, .bool inner, undef, undef, .pointer (some ⟨rr, 0, none⟩), .pointer (some ⟨p, 0, none⟩), undef, .pointer (some ⟨q, 0, none⟩), .bool inner, .slice (some ⟨b, o, none⟩) ps.length c, .pointer (some ⟨b, o, none⟩), .pointer (some ⟨b, o, none⟩), .pointer (some ⟨b, o, none⟩), .int .i64 lo, .agg #[.bool inner, .int .i64 lo, .slice none 0 0, .slice none 0 0, .slice none 0 0], .slice (some ⟨b, o, none⟩) ps.length c, .int .i64 ps.length, .int .i64 i, .bool true, .pointer (some ⟨b, o + i * 4, none⟩), .agg #[.int .i64 x.1.lo, .int .i64 x.1.e, .int .i64 x.1.h, .int .i64 x.2], .pointer (some ⟨p, 2, none⟩), .slice A1 i d1, .pointer (some ⟨q, 0, none⟩), .pointer (some ⟨q, 1, none⟩), .int .i64 x.1.e, .slice (some ⟨y.1, 0, none⟩) 1 1, y.2.2.2.1, .pointer (some ⟨p, 3, none⟩), .slice A2 i d2, .pointer (some ⟨q, 0, none⟩), .pointer (some ⟨q, 2, none⟩), .int .i64 x.1.h, u33, u34, .pointer (some ⟨p, 4, none⟩), .slice A3 i d3, .pointer (some ⟨q, 3, none⟩), .int .i64 x.2, u39, u40, .pointer (some ⟨p, 2, none⟩), u42, u43, u44, undef], defers := [] }) (fun y w2 => Sat w w2 (row y.2.2.2.1 2 1 (i + 1) M1 * (row (.slice A2 i d2) 2 1 i L2 * (row (.slice A3 i d3) 2 1 i L3 * (pt p [.bool inner, .int .i64 lo, .slice A1 i d1, .slice A2 i d2, .slice A3 i d3] 43 * (pt q (encP x) 134 * (pt rr [.bool false, .int .i64 0, .slice none 0 0, .slice none 0 0, .slice none 0 0] 43 * Old w))))))) (fun y w2 hS => ?_) (fun hSS => ?_)
      ·
        obtain ⟨g1, g2, g3, v1, v2, v3⟩ := y
        dsimp only at hS ⊢
        have hP := hS.b3
        have hcc := hP.cell
        have hff := hP.frozen
        have hpl := hP.lt
        have hQ := hS.b4
        have hqc := hQ.cell
        simp only [encP] at hqc
        have hql := hQ.lt
        clear hP hQ
        refine wpC_or ?_ ?_
        ·
          refine wpC_wrp rfl rfl (fun R hR => ?_)
          go_wp2
          refine hR _ _ ?_ ?_
          · repeat (first | refine obl_cons rfl rfl (by go_simp <;> first | exact IntWalk.i64_in _ (by omega) | rfl) ?_ | refine obl_consg rfl rfl rfl (by go_simp) (by go_simp <;> first | exact IntWalk.i64_in _ (by omega) | rfl) ?_ | refine obl_skip rfl rfl rfl (by go_simp) (by go_simp) ?_)
            exact obl_nil
          clear hR R
          have hn := hS.alloc [.int .i64 x.1.h] 2
          exact S1_12.out (g1, w2.heap.size, g3, v1, v2, v3) _ (hn.of_eq (by dsimp only; try ac_rfl))
        ·
          refine wpC_wrp rfl rfl (fun R hR => ?_)
          go_wp2
          refine hR _ _ ?_ ?_
          · repeat (first | refine obl_cons rfl rfl (by go_simp <;> first | exact IntWalk.i64_in _ (by omega) | rfl) ?_ | refine obl_consg rfl rfl rfl (by go_simp) (by go_simp <;> first | exact IntWalk.i64_in _ (by omega) | rfl) ?_ | refine obl_skip rfl rfl rfl (by go_simp) (by go_simp) ?_)
            exact obl_nil
          clear hR R
          have hn := hS.alloc [.int .i64 x.2] 2
          exact S1_13.out (g1, g2, w2.heap.size, v1, v2, v3) _ (hn.of_eq (by dsimp only; try ac_rfl))
      have S1_1 := Lib.hid hSS
      clear hSS
      refine wpC_cut (.wr 6 [7, 8, 9, 10, 11, 14, 15, 16, 17] (.rd 20 (.wr 13 [14, 15, 16, 17, 20] (.wr 19 [20] (.wr 21 [] (.rd 22 (.wr 23 [] (.rd 24 (.wr 25 [] .fin .stop)) .stop)) .stop) .stop) .stop)) .stop) (fun y : Nat × Nat × Nat × Value × Value × Value => { tmps := #[.slice (some ⟨b, o, none⟩) ps.length c, .bool inner, undef, undef, .pointer (some ⟨rr, 0, none⟩), .pointer (some ⟨p, 0, none⟩), undef, .pointer (some ⟨q, 0, none⟩), .bool inner, .slice (some ⟨b, o, none⟩) ps.length c, .pointer (some ⟨b, o, none⟩), .pointer (some ⟨b, o, none⟩), .pointer (some ⟨b, o, none⟩), .int .i64 lo, .agg #[.bool inner, .int .i64 lo, .slice none 0 0, .slice none 0 0, .slice none 0 0], .slice (some ⟨b, o, none⟩) ps.length c, .int .i64 ps.length, .int .i64 i, .bool true, .pointer (some ⟨b, o + i * 4, none⟩), .agg #[.int .i64 x.1.lo, .int .i64 x.1.e, .int .i64 x.1.h, .int .i64 x.2], .pointer (some ⟨p, 2, none⟩), .slice A1 i d1, .pointer (some ⟨q, 0, none⟩), .pointer (some ⟨q, 1, none⟩), .int .i64 x.1.e, .slice (some ⟨y.1, 0, none⟩) 1 1, u27, .pointer (some ⟨p, 3, none⟩), .slice A2 i d2, .pointer (some ⟨q, 0, none⟩), .pointer (some ⟨q, 2, none⟩), .int .i64 x.1.h, .slice (some ⟨y.2.1, 0, none⟩) 1 1, u34, .pointer (some ⟨p, 4, none⟩), .slice A3 i d3, .pointer (some ⟨q, 3, none⟩), .int .i64 x.2, .slice (some ⟨y.2.2.1, 0, none⟩) 1 1, u40, u41, u42, u43, u44, undef], defers := [] }) (fun y w2 => Sat w w2 (pt y.1 [.int .i64 x.1.e] 2 * (pt y.2.1 [.int .i64 x.1.h] 2 * (pt y.2.2.1 [.int .i64 x.2] 2 * (row (.slice A1 i d1) 2 1 i L1 * (row (.slice A2 i d2) 2 1 i L2 * (row (.slice A3 i d3) 2 1 i L3 * (pt p [.bool inner, .int .i64 lo, .slice A1 i d1, .slice A2 i d2, .slice A3 i d3] 43 * (pt q (encP x) 134 * (pt rr [.bool false, .int .i64 0, .slice none 0 0, .slice none 0 0, .slice none 0 0] 43 * Old w)))))))))) (fun y w2 hS => ?_) (fun hSS => ?_)
      ·
        obtain ⟨g1, g2, g3, v1, v2, v3⟩ := y
        dsimp only at hS ⊢
        have hP := hS.b6
        have hcc := hP.cell
        have hff := hP.frozen
        have hpl := hP.lt
        have hQ := hS.b7
        have hqc := hQ.cell
        simp only [encP] at hqc
        have hql := hQ.lt
        clear hP hQ
        refine wpC_wrp rfl rfl (fun R hR => ?_)
        have hb := hS.blk
        refine wpList_append_new rfl _ _ 23 rfl 2 _ 1 8 Try.underlying23 info2 rfl (by decide) _ _ _ _ rfl (hS.b3) _ [.int .i64 x.1.e] rfl rfl hb (by simp [Value.oneCell']) (by omega) (by omega) ?_
        clear hb hcc hff hpl hqc hql
        intro v w2 hn
        rw [T1.out] at hn
        replace hn : Sat w w2 (pt g2 [.int .i64 x.1.h] 2 * (pt g3 [.int .i64 x.2] 2 * (row v 2 1 (i + 1) M1 * (row (.slice A2 i d2) 2 1 i L2 * (row (.slice A3 i d3) 2 1 i L3 * (pt p [.bool inner, .int .i64 lo, .slice A1 i d1, .slice A2 i d2, .slice A3 i d3] 43 * (pt q (encP x) 134 * (pt rr [.bool false, .int .i64 0, .slice none 0 0, .slice none 0 0, .slice none 0 0] 43 * Old w)))))))) := (hn.rot.right).of_eq (by ac_rfl)
        have hP := hn.b5
        have hcc := hP.cell
        have hff := hP.frozen
        have hpl := hP.lt
        have hQ := hn.b6
        have hqc := hQ.cell
        simp only [encP] at hqc
        have hql := hQ.lt
        clear hP hQ
        go_wp2
        refine hR _ _ ?_ ?_
        · repeat (first | refine obl_cons rfl rfl (by go_simp <;> first | exact IntWalk.i64_in _ (by omega) | rfl) ?_ | refine obl_consg rfl rfl rfl (by go_simp) (by go_simp <;> first | exact IntWalk.i64_in _ (by omega) | rfl) ?_ | refine obl_skip rfl rfl rfl (by go_simp) (by go_simp) ?_)
          exact obl_nil
        clear hR R
        repeat' (first | (refine wpC_rdp rfl rfl (fun K hK => ?_); go_simp; (try go_bits)) | (refine hK _ ?_; clear hK K))
        exact S1_123.out (g1, g2, g3, v, v2, v3) _ hn
      have S0_123 := Lib.hid hSS
      clear hSS
      refine wpC_cut (.wr 6 [7, 8, 9, 10, 11, 14, 15, 16, 17] (.rd 20 (.wr 13 [14, 15, 16, 17, 20] (.wr 18 [0, 1, 2, 3, 4, 7, 8, 9, 10, 11, 14, 15, 20] (.wr 19 [20] (.wr 21 [] (.rd 22 (.wr 23 [] (.rd 24 (.wr 25 [] .fin .stop)) .stop)) .stop) .stop) .stop) (.wr 18 [0, 1, 2, 3, 4, 7, 8, 9, 10, 11, 14, 15, 20] (.wr 13 [14, 15, 16, 17, 20] (.wr 19 [20] (.wr 21 [] (.rd 22 (.wr 23 [] (.rd 24 (.wr 25 [] .fin .stop)) .stop)) .stop) .stop) .stop) .stop))) (.wr 18 [0, 1, 2, 3, 4, 7, 8, 9, 10, 11, 14, 15] (.wr 6 [7, 8, 9, 10, 11, 14, 15, 16, 17] (.rd 20 (.wr 13 [14, 15, 16, 17, 20] (.wr 19 [20] (.wr 21 [] (.rd 22 (.wr 23 [] (.rd 24 (.wr 25 [] .fin .stop)) .stop)) .stop) .stop) .stop)) .stop) .stop)) (fun y : Nat × Nat × Nat × Value × Value × Value => { tmps := #[.slice (some ⟨b, o, none⟩) ps.length c, .bool inner, undef, undef, .pointer (some ⟨rr, 0, none⟩), .pointer (some ⟨p, 0, none⟩), undef, .pointer (some ⟨q, 0, none⟩), .bool inner, .slice (some ⟨b, o, none⟩) ps.length c, .pointer (some ⟨b, o, none⟩), .pointer (some ⟨b, o, none⟩), .pointer (some ⟨b, o, none⟩), .int .i64 lo, .agg #[.bool inner, .int .i64 lo, .slice none 0 0, .slice none 0 0, .slice none 0 0], .slice (some ⟨b, o, none⟩) ps.length c, .int .i64 ps.length, .int .i64 i, .bool true, .pointer (some ⟨b, o + i * 4, none⟩), .agg #[.int .i64 x.1.lo, .int .i64 x.1.e, .int .i64 x.1.h, .int .i64 x.2], .pointer (some ⟨p, 2, none⟩), .slice A1 i d1, .pointer (some ⟨q, 0, none⟩), .pointer (some ⟨q, 1, none⟩), .int .i64 x.1.e, .slice (some ⟨y.1, 0, none⟩) 1 1, u27, .pointer (some ⟨p, 3, none⟩), .slice A2 i d2, .pointer (some ⟨q, 0, none⟩), .pointer (some ⟨q, 2, none⟩), .int .i64 x.1.h, .slice (some ⟨y.2.1, 0, none⟩) 1 1, u34, .pointer (some ⟨p, 4, none⟩), .slice A3 i d3, .pointer (some ⟨q, 3, none⟩), .int .i64 x.2, u39, u40, u41, u42, u43, u44, undef], defers := [] }) (fun y w2 => Sat w w2 (pt y.1 [.int .i64 x.1.e] 2 * (pt y.2.1 [.int .i64 x.1.h] 2 * (row (.slice A1 i d1) 2 1 i L1 * (row (.slice A2 i d2) 2 1 i L2 * (row (.slice A3 i d3) 2 1 i L3 * (pt p [.bool inner, .int .i64 lo, .slice A1 i d1, .slice A2 i d2, .slice A3 i d3] 43 * (pt q (encP x) 134 * (pt rr [.bool false, .int .i64 0, .slice none 0 0, .slice none 0 0, .slice none 0 0] 43 * Old w))))))))) (fun y w2 hS => ?_) (fun hSS => ?_)
      ·
        obtain ⟨g1, g2, g3, v1, v2, v3⟩ := y
        dsimp only at hS ⊢
        have hP := hS.b5
        have hcc := hP.cell
        have hff := hP.frozen
        have hpl := hP.lt
        have hQ := hS.b6
        have hqc := hQ.cell
        simp only [encP] at hqc
        have hql := hQ.lt
        clear hP hQ
        refine wpC_or ?_ ?_
        ·
          refine wpC_wrp rfl rfl (fun R hR => ?_)
          have hb := hS.blk
          refine wpList_append_new rfl _ _ 23 rfl 2 _ 1 8 Try.underlying23 info2 rfl (by decide) _ _ _ _ rfl (hS.b2) _ [.int .i64 x.1.e] rfl rfl hb (by simp [Value.oneCell']) (by omega) (by omega) ?_
          clear hb hcc hff hpl hqc hql
          intro v w2 hn
          rw [T1.out] at hn
          replace hn : Sat w w2 (pt g2 [.int .i64 x.1.h] 2 * (row v 2 1 (i + 1) M1 * (row (.slice A2 i d2) 2 1 i L2 * (row (.slice A3 i d3) 2 1 i L3 * (pt p [.bool inner, .int .i64 lo, .slice A1 i d1, .slice A2 i d2, .slice A3 i d3] 43 * (pt q (encP x) 134 * (pt rr [.bool false, .int .i64 0, .slice none 0 0, .slice none 0 0, .slice none 0 0] 43 * Old w))))))) := (hn.rot.right).of_eq (by ac_rfl)
          have hP := hn.b4
          have hcc := hP.cell
          have hff := hP.frozen
          have hpl := hP.lt
          have hQ := hn.b5
          have hqc := hQ.cell
          simp only [encP] at hqc
          have hql := hQ.lt
          clear hP hQ
          go_wp2
          refine hR _ _ ?_ ?_
          · repeat (first | refine obl_cons rfl rfl (by go_simp <;> first | exact IntWalk.i64_in _ (by omega) | rfl) ?_ | refine obl_consg rfl rfl rfl (by go_simp) (by go_simp <;> first | exact IntWalk.i64_in _ (by omega) | rfl) ?_ | refine obl_skip rfl rfl rfl (by go_simp) (by go_simp) ?_)
            exact obl_nil
          clear hR R
          repeat' (first | (refine wpC_rdp rfl rfl (fun K hK => ?_); go_simp; (try go_bits)) | (refine hK _ ?_; clear hK K))
          exact S1_12.out (g1, g2, g3, v, v2, v3) _ hn
        ·
          refine wpC_wrp rfl rfl (fun R hR => ?_)
          go_wp2
          refine hR _ _ ?_ ?_
          · repeat (first | refine obl_cons rfl rfl (by go_simp <;> first | exact IntWalk.i64_in _ (by omega) | rfl) ?_ | refine obl_consg rfl rfl rfl (by go_simp) (by go_simp <;> first | exact IntWalk.i64_in _ (by omega) | rfl) ?_ | refine obl_skip rfl rfl rfl (by go_simp) (by go_simp) ?_)
            exact obl_nil
          clear hR R
          have hn := hS.alloc [.int .i64 x.2] 2
          exact S0_123.out (g1, g2, w2.heap.size, v1, v2, v3) _ (hn.of_eq (by dsimp only; try ac_rfl))
      have S0_12 := Lib.hid hSS
      clear hSS
      refine wpC_cut (.wr 6 [7, 8, 9, 10, 11, 14, 15, 16, 17] (.rd 20 (.wr 12 [0, 1, 2, 3, 4, 7, 8, 14, 15, 16, 17, 20] (.wr 13 [14, 15, 16, 17, 20] (.wr 19 [20] (.wr 21 [] (.rd 22 (.wr 23 [] (.rd 24 (.wr 25 [] .fin .stop)) .stop)) .stop) .stop) .stop) .stop)) (.wr 12 [0, 1, 2, 3, 4, 7, 8, 14, 15, 16, 17] (.wr 6 [7, 8, 9, 10, 11, 14, 15, 16, 17] (.rd 20 (.wr 13 [14, 15, 16, 17, 20] (.wr 19 [20] (.wr 21 [] (.rd 22 (.wr 23 [] (.rd 24 (.wr 25 [] .fin .stop)) .stop)) .stop) .stop) .stop)) .stop) .stop)) (fun y : Nat × Nat × Nat × Value × Value × Value => { tmps := #[.slice (some ⟨b, o, none⟩) ps.length c, .bool inner, undef, undef, .pointer (some ⟨rr, 0, none⟩), .pointer (some ⟨p, 0, none⟩), undef, .pointer (some ⟨q, 0, none⟩), .bool inner, .slice (some ⟨b, o, none⟩) ps.length c, .pointer (some ⟨b, o, none⟩), .pointer (some ⟨b, o, none⟩), .pointer (some ⟨b, o, none⟩), .int .i64 lo, .agg #[.bool inner, .int .i64 lo, .slice none 0 0, .slice none 0 0, .slice none 0 0], .slice (some ⟨b, o, none⟩) ps.length c, .int .i64 ps.length, .int .i64 i, .bool true, .pointer (some ⟨b, o + i * 4, none⟩), .agg #[.int .i64 x.1.lo, .int .i64 x.1.e, .int .i64 x.1.h, .int .i64 x.2], .pointer (some ⟨p, 2, none⟩), .slice A1 i d1, .pointer (some ⟨q, 0, none⟩), .pointer (some ⟨q, 1, none⟩), .int .i64 x.1.e, .slice (some ⟨y.1, 0, none⟩) 1 1, u27, .pointer (some ⟨p, 3, none⟩), .slice A2 i d2, .pointer (some ⟨q, 0, none⟩), .pointer (some ⟨q, 2, none⟩), .int .i64 x.1.h, u33, u34, .pointer (some ⟨p, 4, none⟩), .slice A3 i d3, .pointer (some ⟨q, 3, none⟩), .int .i64 x.2, .slice (some ⟨y.2.2.1, 0, none⟩) 1 1, u40, u41, u42, u43, u44, undef], defers := [] }) (fun y w2 => Sat w w2 (pt y.1 [.int .i64 x.1.e] 2 * (pt y.2.2.1 [.int .i64 x.2] 2 * (row (.slice A1 i d1) 2 1 i L1 * (row (.slice A2 i d2) 2 1 i L2 * (row (.slice A3 i d3) 2 1 i L3 * (pt p [.bool inner, .int .i64 lo, .slice A1 i d1, .slice A2 i d2, .slice A3 i d3] 43 * (pt q (encP x) 134 * (pt rr [.bool false, .int .i64 0, .slice none 0 0, .slice none 0 0, .slice none 0 0] 43 * Old w))))))))) (fun y w2 hS => ?_) (fun hSS => ?_)
      ·
        obtain ⟨g1, g2, g3, v1, v2, v3⟩ := y
        dsimp only at hS ⊢
        have hP := hS.b5
        have hcc := hP.cell
        have hff := hP.frozen
        have hpl := hP.lt
        have hQ := hS.b6
        have hqc := hQ.cell
        simp only [encP] at hqc
        have hql := hQ.lt
        clear hP hQ
        refine wpC_or ?_ ?_
        ·
          refine wpC_wrp rfl rfl (fun R hR => ?_)
          have hb := hS.blk
          refine wpList_append_new rfl _ _ 23 rfl 2 _ 1 8 Try.underlying23 info2 rfl (by decide) _ _ _ _ rfl (hS.b2) _ [.int .i64 x.1.e] rfl rfl hb (by simp [Value.oneCell']) (by omega) (by omega) ?_
          clear hb hcc hff hpl hqc hql
          intro v w2 hn
          rw [T1.out] at hn
          replace hn : Sat w w2 (pt g3 [.int .i64 x.2] 2 * (row v 2 1 (i + 1) M1 * (row (.slice A2 i d2) 2 1 i L2 * (row (.slice A3 i d3) 2 1 i L3 * (pt p [.bool inner, .int .i64 lo, .slice A1 i d1, .slice A2 i d2, .slice A3 i d3] 43 * (pt q (encP x) 134 * (pt rr [.bool false, .int .i64 0, .slice none 0 0, .slice none 0 0, .slice none 0 0] 43 * Old w))))))) := (hn.rot.right).of_eq (by ac_rfl)
          have hP := hn.b4
          have hcc := hP.cell
          have hff := hP.frozen
          have hpl := hP.lt
          have hQ := hn.b5
          have hqc := hQ.cell
          simp only [encP] at hqc
          have hql := hQ.lt
          clear hP hQ
          go_wp2
          refine hR _ _ ?_ ?_
          · repeat (first | refine obl_cons rfl rfl (by go_simp <;> first | exact IntWalk.i64_in _ (by omega) | rfl) ?_ | refine obl_consg rfl rfl rfl (by go_simp) (by go_simp <;> first | exact IntWalk.i64_in _ (by omega) | rfl) ?_ | refine obl_skip rfl rfl rfl (by go_simp) (by go_simp) ?_)
            exact obl_nil
          clear hR R
          repeat' (first | (refine wpC_rdp rfl rfl (fun K hK => ?_); go_simp; (try go_bits)) | (refine hK _ ?_; clear hK K))
          exact S1_13.out (g1, g2, g3, v, v2, v3) _ hn
        ·
          refine wpC_wrp rfl rfl (fun R hR => ?_)
          go_wp2
          refine hR _ _ ?_ ?_
          · repeat (first | refine obl_cons rfl rfl (by go_simp <;> first | exact IntWalk.i64_in _ (by omega) | rfl) ?_ | refine obl_consg rfl rfl rfl (by go_simp) (by go_simp <;> first | exact IntWalk.i64_in _ (by omega) | rfl) ?_ | refine obl_skip rfl rfl rfl (by go_simp) (by go_simp) ?_)
            exact obl_nil
          clear hR R
          have hn := hS.alloc [.int .i64 x.1.h] 2
          exact S0_123.out (g1, w2.heap.size, g3, v1, v2, v3) _ (hn.of_eq (by dsimp only; try ac_rfl))
      have S0_13 := Lib.hid hSS
      clear hSS
      refine wpC_cut (.wr 5 [0, 1, 7, 8, 9, 10, 11, 14, 15, 16, 17] (.wr 6 [7, 8, 9, 10, 11, 14, 15, 16, 17] (.rd 20 (.wr 13 [14, 15, 16, 17, 20] (.wr 19 [20] (.wr 21 [] (.rd 22 (.wr 23 [] (.rd 24 (.wr 25 [] .fin .stop)) .stop)) .stop) .stop) .stop)) .stop) .stop) (fun y : Nat × Nat × Nat × Value × Value × Value => { tmps := #[.slice (some ⟨b, o, none⟩) ps.length c, .bool inner, undef, undef, .pointer (some ⟨rr, 0, none⟩), .pointer (some ⟨p, 0, none⟩), undef, .pointer (some ⟨q, 0, none⟩), .bool inner, .slice (some ⟨b, o, none⟩) ps.length c, .pointer (some ⟨b, o, none⟩), .pointer (some ⟨b, o, none⟩), .pointer (some ⟨b, o, none⟩), .int .i64 lo, .agg #[.bool inner, .int .i64 lo, .slice none 0 0, .slice none 0 0, .slice none 0 0], .slice (some ⟨b, o, none⟩) ps.length c, .int .i64 ps.length, .int .i64 i, .bool true, .pointer (some ⟨b, o + i * 4, none⟩), .agg #[.int .i64 x.1.lo, .int .i64 x.1.e, .int .i64 x.1.h, .int .i64 x.2], .pointer (some ⟨p, 2, none⟩), .slice A1 i d1, .pointer (some ⟨q, 0, none⟩), .pointer (some ⟨q, 1, none⟩), .int .i64 x.1.e, u26, u27, .pointer (some ⟨p, 3, none⟩), .slice A2 i d2, .pointer (some ⟨q, 0, none⟩), .pointer (some ⟨q, 2, none⟩), .int .i64 x.1.h, .slice (some ⟨y.2.1, 0, none⟩) 1 1, u34, .pointer (some ⟨p, 4, none⟩), .slice A3 i d3, .pointer (some ⟨q, 3, none⟩), .int .i64 x.2, .slice (some ⟨y.2.2.1, 0, none⟩) 1 1, u40, u41, u42, u43, u44, undef], defers := [] }) (fun y w2 => Sat w w2 (pt y.2.1 [.int .i64 x.1.h] 2 * (pt y.2.2.1 [.int .i64 x.2] 2 * (row (.slice A1 i d1) 2 1 i L1 * (row (.slice A2 i d2) 2 1 i L2 * (row (.slice A3 i d3) 2 1 i L3 * (pt p [.bool inner, .int .i64 lo, .slice A1 i d1, .slice A2 i d2, .slice A3 i d3] 43 * (pt q (encP x) 134 * (pt rr [.bool false, .int .i64 0, .slice none 0 0, .slice none 0 0, .slice none 0 0] 43 * Old w))))))))) (fun y w2 hS => ?_) (fun hSS => ?_)
      ·
        obtain ⟨g1, g2, g3, v1, v2, v3⟩ := y
        dsimp only at hS ⊢
        have hP := hS.b5
        have hcc := hP.cell
        have hff := hP.frozen
        have hpl := hP.lt
        have hQ := hS.b6
        have hqc := hQ.cell
        simp only [encP] at hqc
        have hql := hQ.lt
        clear hP hQ
        refine wpC_wrp rfl rfl (fun R hR => ?_)
        go_wp2
        refine hR _ _ ?_ ?_
        · repeat (first | refine obl_cons rfl rfl (by go_simp <;> first | exact IntWalk.i64_in _ (by omega) | rfl) ?_ | refine obl_consg rfl rfl rfl (by go_simp) (by go_simp <;> first | exact IntWalk.i64_in _ (by omega) | rfl) ?_ | refine obl_skip rfl rfl rfl (by go_simp) (by go_simp) ?_)
          exact obl_nil
        clear hR R
        have hn := hS.alloc [.int .i64 x.1.e] 2
        exact S0_123.out (w2.heap.size, g2, g3, v1, v2, v3) _ (hn.of_eq (by dsimp only; try ac_rfl))
      have S0_23 := Lib.hid hSS
      clear hSS
      refine wpC_cut (.wr 6 [7, 8, 9, 10, 11, 14, 15, 16, 17] (.rd 20 (.wr 12 [0, 1, 2, 3, 4, 7, 8, 14, 15, 16, 17, 20] (.wr 13 [14, 15, 16, 17, 20] (.wr 18 [0, 1, 2, 3, 4, 7, 8, 9, 10, 11, 14, 15, 20] (.wr 19 [20] (.wr 21 [] (.rd 22 (.wr 23 [] (.rd 24 (.wr 25 [] .fin .stop)) .stop)) .stop) .stop) .stop) (.wr 18 [0, 1, 2, 3, 4, 7, 8, 9, 10, 11, 14, 15, 20] (.wr 13 [14, 15, 16, 17, 20] (.wr 19 [20] (.wr 21 [] (.rd 22 (.wr 23 [] (.rd 24 (.wr 25 [] .fin .stop)) .stop)) .stop) .stop) .stop) .stop)) (.wr 18 [0, 1, 2, 3, 4, 7, 8, 9, 10, 11, 14, 15, 20] (.wr 12 [0, 1, 2, 3, 4, 7, 8, 14, 15, 16, 17, 20] (.wr 13 [14, 15, 16, 17, 20] (.wr 19 [20] (.wr 21 [] (.rd 22 (.wr 23 [] (.rd 24 (.wr 25 [] .fin .stop)) .stop)) .stop) .stop) .stop) .stop) .stop))) (.wr 12 [0, 1, 2, 3, 4, 7, 8, 14, 15, 16, 17] (.wr 6 [7, 8, 9, 10, 11, 14, 15, 16, 17] (.rd 20 (.wr 13 [14, 15, 16, 17, 20] (.wr 18 [0, 1, 2, 3, 4, 7, 8, 9, 10, 11, 14, 15, 20] (.wr 19 [20] (.wr 21 [] (.rd 22 (.wr 23 [] (.rd 24 (.wr 25 [] .fin .stop)) .stop)) .stop) .stop) .stop) (.wr 18 [0, 1, 2, 3, 4, 7, 8, 9, 10, 11, 14, 15, 20] (.wr 13 [14, 15, 16, 17, 20] (.wr 19 [20] (.wr 21 [] (.rd 22 (.wr 23 [] (.rd 24 (.wr 25 [] .fin .stop)) .stop)) .stop) .stop) .stop) .stop))) (.wr 18 [0, 1, 2, 3, 4, 7, 8, 9, 10, 11, 14, 15] (.wr 6 [7, 8, 9, 10, 11, 14, 15, 16, 17] (.rd 20 (.wr 13 [14, 15, 16, 17, 20] (.wr 19 [20] (.wr 21 [] (.rd 22 (.wr 23 [] (.rd 24 (.wr 25 [] .fin .stop)) .stop)) .stop) .stop) .stop)) .stop) .stop)) (.wr 18 [0, 1, 2, 3, 4, 7, 8, 9, 10, 11, 14, 15] (.wr 6 [7, 8, 9, 10, 11, 14, 15, 16, 17] (.rd 20 (.wr 12 [0, 1, 2, 3, 4, 7, 8, 14, 15, 16, 17, 20] (.wr 13 [14, 15, 16, 17, 20] (.wr 19 [20] (.wr 21 [] (.rd 22 (.wr 23 [] (.rd 24 (.wr 25 [] .fin .stop)) .stop)) .stop) .stop) .stop) .stop)) (.wr 12 [0, 1, 2, 3, 4, 7, 8, 14, 15, 16, 17] (.wr 6 [7, 8, 9, 10, 11, 14, 15, 16, 17] (.rd 20 (.wr 13 [14, 15, 16, 17, 20] (.wr 19 [20] (.wr 21 [] (.rd 22 (.wr 23 [] (.rd 24 (.wr 25 [] .fin .stop)) .stop)) .stop) .stop) .stop)) .stop) .stop)) .stop))) (fun y : Nat × Nat × Nat × Value × Value × Value => { tmps := #[.slice (some ⟨b, o, none⟩) ps.length c, .bool inner, undef, undef, .pointer (some ⟨rr, 0, none⟩), .pointer (some ⟨p, 0, none⟩), undef, .pointer (some ⟨q, 0, none⟩), .bool inner, .slice (some ⟨b, o, none⟩) ps.length c, .pointer (some ⟨b, o, none⟩), .pointer (some ⟨b, o, none⟩), .pointer (some ⟨b, o, none⟩), .int .i64 lo, .agg #[.bool inner, .int .i64 lo, .slice none 0 0, .slice none 0 0, .slice none 0 0], .slice (some ⟨b, o, none⟩) ps.length c, .int .i64 ps.length, .int .i64 i, .bool true, .pointer (some ⟨b, o + i * 4, none⟩), .agg #[.int .i64 x.1.lo, .int .i64 x.1.e, .int .i64 x.1.h, .int .i64 x.2], .pointer (some ⟨p, 2, none⟩), .slice A1 i d1, .pointer (some ⟨q, 0, none⟩), .pointer (some ⟨q, 1, none⟩), .int .i64 x.1.e, .slice (some ⟨y.1, 0, none⟩) 1 1, u27, .pointer (some ⟨p, 3, none⟩), .slice A2 i d2, .pointer (some ⟨q, 0, none⟩), .pointer (some ⟨q, 2, none⟩), .int .i64 x.1.h, u33, u34, .pointer (some ⟨p, 4, none⟩), .slice A3 i d3, .pointer (some ⟨q, 3, none⟩), .int .i64 x.2, u39, u40, u41, u42, u43, u44, undef], defers := [] }) (fun y w2 => Sat w w2 (pt y.1 [.int .i64 x.1.e] 2 * (row (.slice A1 i d1) 2 1 i L1 * (row (.slice A2 i d2) 2 1 i L2 * (row (.slice A3 i d3) 2 1 i L3 * (pt p [.bool inner, .int .i64 lo, .slice A1 i d1, .slice A2 i d2, .slice A3 i d3] 43 * (pt q (encP x) 134 * (pt rr [.bool false, .int .i64 0, .slice none 0 0, .slice none 0 0, .slice none 0 0] 43 * Old w)))))))) (fun y w2 hS => ?_) (fun hSS => ?_)
      ·
        obtain ⟨g1, g2, g3, v1, v2, v3⟩ := y
        dsimp only at hS ⊢
        have hP := hS.b4
        have hcc := hP.cell
        have hff := hP.frozen
        have hpl := hP.lt
        have hQ := hS.b5
        have hqc := hQ.cell
        simp only [encP] at hqc
        have hql := hQ.lt
        clear hP hQ
        refine wpC_or ?_ ?_
        ·
          refine wpC_wrp rfl rfl (fun R hR => ?_)
          have hb := hS.blk
          refine wpList_append_new rfl _ _ 23 rfl 2 _ 1 8 Try.underlying23 info2 rfl (by decide) _ _ _ _ rfl (hS.rot) _ [.int .i64 x.1.e] rfl rfl hb (by simp [Value.oneCell']) (by omega) (by omega) ?_
          clear hb hcc hff hpl hqc hql
          intro v w2 hn
          rw [T1.out] at hn
          replace hn : Sat w w2 (row v 2 1 (i + 1) M1 * (row (.slice A2 i d2) 2 1 i L2 * (row (.slice A3 i d3) 2 1 i L3 * (pt p [.bool inner, .int .i64 lo, .slice A1 i d1, .slice A2 i d2, .slice A3 i d3] 43 * (pt q (encP x) 134 * (pt rr [.bool false, .int .i64 0, .slice none 0 0, .slice none 0 0, .slice none 0 0] 43 * Old w)))))) := (hn.rot.right).of_eq (by ac_rfl)
          have hP := hn.b3
          have hcc := hP.cell
          have hff := hP.frozen
          have hpl := hP.lt
          have hQ := hn.b4
          have hqc := hQ.cell
          simp only [encP] at hqc
          have hql := hQ.lt
          clear hP hQ
          go_wp2
          refine hR _ _ ?_ ?_
          · repeat (first | refine obl_cons rfl rfl (by go_simp <;> first | exact IntWalk.i64_in _ (by omega) | rfl) ?_ | refine obl_consg rfl rfl rfl (by go_simp) (by go_simp <;> first | exact IntWalk.i64_in _ (by omega) | rfl) ?_ | refine obl_skip rfl rfl rfl (by go_simp) (by go_simp) ?_)
            exact obl_nil
          clear hR R
          repeat' (first | (refine wpC_rdp rfl rfl (fun K hK => ?_); go_simp; (try go_bits)) | (refine hK _ ?_; clear hK K))
          exact S1_1.out (g1, g2, g3, v, v2, v3) _ hn
        ·
          refine wpC_or ?_ ?_
          ·
            refine wpC_wrp rfl rfl (fun R hR => ?_)
            go_wp2
            refine hR _ _ ?_ ?_
            · repeat (first | refine obl_cons rfl rfl (by go_simp <;> first | exact IntWalk.i64_in _ (by omega) | rfl) ?_ | refine obl_consg rfl rfl rfl (by go_simp) (by go_simp <;> first | exact IntWalk.i64_in _ (by omega) | rfl) ?_ | refine obl_skip rfl rfl rfl (by go_simp) (by go_simp) ?_)
              exact obl_nil
            clear hR R
            have hn := hS.alloc [.int .i64 x.1.h] 2
            exact S0_12.out (g1, w2.heap.size, g3, v1, v2, v3) _ (hn.of_eq (by dsimp only; try ac_rfl))
          ·
            refine wpC_wrp rfl rfl (fun R hR => ?_)
            go_wp2
            refine hR _ _ ?_ ?_
            · repeat (first | refine obl_cons rfl rfl (by go_simp <;> first | exact IntWalk.i64_in _ (by omega) | rfl) ?_ | refine obl_consg rfl rfl rfl (by go_simp) (by go_simp <;> first | exact IntWalk.i64_in _ (by omega) | rfl) ?_ | refine obl_skip rfl rfl rfl (by go_simp) (by go_simp) ?_)
              exact obl_nil
            clear hR R
            have hn := hS.alloc [.int .i64 x.2] 2
            exact S0_13.out (g1, g2, w2.heap.size, v1, v2, v3) _ (hn.of_eq (by dsimp only; try ac_rfl))
      have S0_1 := Lib.hid hSS
      clear hSS
      refine wpC_cut (.wr 5 [0, 1, 7, 8, 9, 10, 11, 14, 15, 16, 17] (.wr 6 [7, 8, 9, 10, 11, 14, 15, 16, 17] (.rd 20 (.wr 13 [14, 15, 16, 17, 20] (.wr 18 [0, 1, 2, 3, 4, 7, 8, 9, 10, 11, 14, 15, 20] (.wr 19 [20] (.wr 21 [] (.rd 22 (.wr 23 [] (.rd 24 (.wr 25 [] .fin .stop)) .stop)) .stop) .stop) .stop) (.wr 18 [0, 1, 2, 3, 4, 7, 8, 9, 10, 11, 14, 15, 20] (.wr 13 [14, 15, 16, 17, 20] (.wr 19 [20] (.wr 21 [] (.rd 22 (.wr 23 [] (.rd 24 (.wr 25 [] .fin .stop)) .stop)) .stop) .stop) .stop) .stop))) (.wr 18 [0, 1, 2, 3, 4, 7, 8, 9, 10, 11, 14, 15] (.wr 6 [7, 8, 9, 10, 11, 14, 15, 16, 17] (.rd 20 (.wr 13 [14, 15, 16, 17, 20] (.wr 19 [20] (.wr 21 [] (.rd 22 (.wr 23 [] (.rd 24 (.wr 25 [] .fin .stop)) .stop)) .stop) .stop) .stop)) .stop) .stop)) (.wr 18 [0, 1, 2, 3, 4, 7, 8, 9, 10, 11, 14, 15] (.wr 5 [0, 1, 7, 8, 9, 10, 11, 14, 15, 16, 17] (.wr 6 [7, 8, 9, 10, 11, 14, 15, 16, 17] (.rd 20 (.wr 13 [14, 15, 16, 17, 20] (.wr 19 [20] (.wr 21 [] (.rd 22 (.wr 23 [] (.rd 24 (.wr 25 [] .fin .stop)) .stop)) .stop) .stop) .stop)) .stop) .stop) .stop)) (fun y : Nat × Nat × Nat × Value × Value × Value => { tmps := #[.slice (some ⟨b, o, none⟩) ps.length c, .bool inner, undef, undef, .pointer (some ⟨rr, 0, none⟩), .pointer (some ⟨p, 0, none⟩), undef, .pointer (some ⟨q, 0, none⟩), .bool inner, .slice (some ⟨b, o, none⟩) ps.length c, .pointer (some ⟨b, o, none⟩), .pointer (some ⟨b, o, none⟩), .pointer (some ⟨b, o, none⟩), .int .i64 lo, .agg #[.bool inner, .int .i64 lo, .slice none 0 0, .slice none 0 0, .slice none 0 0], .slice (some ⟨b, o, none⟩) ps.length c, .int .i64 ps.length, .int .i64 i, .bool true, .pointer (some ⟨b, o + i * 4, none⟩), .agg #[.int .i64 x.1.lo, .int .i64 x.1.e, .int .i64 x.1.h, .int .i64 x.2], .pointer (some ⟨p, 2, none⟩), .slice A1 i d1, .pointer (some ⟨q, 0, none⟩), .pointer (some ⟨q, 1, none⟩), .int .i64 x.1.e, u26, u27, .pointer (some ⟨p, 3, none⟩), .slice A2 i d2, .pointer (some ⟨q, 0, none⟩), .pointer (some ⟨q, 2, none⟩), .int .i64 x.1.h, .slice (some ⟨y.2.1, 0, none⟩) 1 1, u34, .pointer (some ⟨p, 4, none⟩), .slice A3 i d3, .pointer (some ⟨q, 3, none⟩), .int .i64 x.2, u39, u40, u41, u42, u43, u44, undef], defers := [] }) (fun y w2 => Sat w w2 (pt y.2.1 [.int .i64 x.1.h] 2 * (row (.slice A1 i d1) 2 1 i L1 * (row (.slice A2 i d2) 2 1 i L2 * (row (.slice A3 i d3) 2 1 i L3 * (pt p [.bool inner, .int .i64 lo, .slice A1 i d1, .slice A2 i d2, .slice A3 i d3] 43 * (pt q (encP x) 134 * (pt rr [.bool false, .int .i64 0, .slice none 0 0, .slice none 0 0, .slice none 0 0] 43 * Old w)))))))) (fun y w2 hS => ?_) (fun hSS => ?_)
      ·
        obtain ⟨g1, g2, g3, v1, v2, v3⟩ := y
        dsimp only at hS ⊢
        have hP := hS.b4
        have hcc := hP.cell
        have hff := hP.frozen
        have hpl := hP.lt
        have hQ := hS.b5
        have hqc := hQ.cell
        simp only [encP] at hqc
        have hql := hQ.lt
        clear hP hQ
        refine wpC_or ?_ ?_
        ·
          refine wpC_wrp rfl rfl (fun R hR => ?_)
          go_wp2
          refine hR _ _ ?_ ?_
          · repeat (first | refine obl_cons rfl rfl (by go_simp <;> first | exact IntWalk.i64_in _ (by omega) | rfl) ?_ | refine obl_consg rfl rfl rfl (by go_simp) (by go_simp <;> first | exact IntWalk.i64_in _ (by omega) | rfl) ?_ | refine obl_skip rfl rfl rfl (by go_simp) (by go_simp) ?_)
            exact obl_nil
          clear hR R
          have hn := hS.alloc [.int .i64 x.1.e] 2
          exact S0_12.out (w2.heap.size, g2, g3, v1, v2, v3) _ (hn.of_eq (by dsimp only; try ac_rfl))
        ·
          refine wpC_wrp rfl rfl (fun R hR => ?_)
          go_wp2
          refine hR _ _ ?_ ?_
          · repeat (first | refine obl_cons rfl rfl (by go_simp <;> first | exact IntWalk.i64_in _ (by omega) | rfl) ?_ | refine obl_consg rfl rfl rfl (by go_simp) (by go_simp <;> first | exact IntWalk.i64_in _ (by omega) | rfl) ?_ | refine obl_skip rfl rfl rfl (by go_simp) (by go_simp) ?_)
            exact obl_nil
          clear hR R
          have hn := hS.alloc [.int .i64 x.2] 2
          exact S0_23.out (g1, g2, w2.heap.size, v1, v2, v3) _ (hn.of_eq (by dsimp only; try ac_rfl))
      have S0_2 := Lib.hid hSS
      clear hSS
      refine wpC_cut (.wr 5 [0, 1, 7, 8, 9, 10, 11, 14, 15, 16, 17] (.wr 6 [7, 8, 9, 10, 11, 14, 15, 16, 17] (.rd 20 (.wr 12 [0, 1, 2, 3, 4, 7, 8, 14, 15, 16, 17, 20] (.wr 13 [14, 15, 16, 17, 20] (.wr 19 [20] (.wr 21 [] (.rd 22 (.wr 23 [] (.rd 24 (.wr 25 [] .fin .stop)) .stop)) .stop) .stop) .stop) .stop)) (.wr 12 [0, 1, 2, 3, 4, 7, 8, 14, 15, 16, 17] (.wr 6 [7, 8, 9, 10, 11, 14, 15, 16, 17] (.rd 20 (.wr 13 [14, 15, 16, 17, 20] (.wr 19 [20] (.wr 21 [] (.rd 22 (.wr 23 [] (.rd 24 (.wr 25 [] .fin .stop)) .stop)) .stop) .stop) .stop)) .stop) .stop)) (.wr 12 [0, 1, 2, 3, 4, 7, 8, 14, 15, 16, 17] (.wr 5 [0, 1, 7, 8, 9, 10, 11, 14, 15, 16, 17] (.wr 6 [7, 8, 9, 10, 11, 14, 15, 16, 17] (.rd 20 (.wr 13 [14, 15, 16, 17, 20] (.wr 19 [20] (.wr 21 [] (.rd 22 (.wr 23 [] (.rd 24 (.wr 25 [] .fin .stop)) .stop)) .stop) .stop) .stop)) .stop) .stop) .stop)) (fun y : Nat × Nat × Nat × Value × Value × Value => { tmps := #[.slice (some ⟨b, o, none⟩) ps.length c, .bool inner, undef, undef, .pointer (some ⟨rr, 0, none⟩), .pointer (some ⟨p, 0, none⟩), undef, .pointer (some ⟨q, 0, none⟩), .bool inner, .slice (some ⟨b, o, none⟩) ps.length c, .pointer (some ⟨b, o, none⟩), .pointer (some ⟨b, o, none⟩), .pointer (some ⟨b, o, none⟩), .int .i64 lo, .agg #[.bool inner, .int .i64 lo, .slice none 0 0, .slice none 0 0, .slice none 0 0], .slice (some ⟨b, o, none⟩) ps.length c, .int .i64 ps.length, .int .i64 i, .bool true, .pointer (some ⟨b, o + i * 4, none⟩), .agg #[.int .i64 x.1.lo, .int .i64 x.1.e, .int .i64 x.1.h, .int .i64 x.2], .pointer (some ⟨p, 2, none⟩), .slice A1 i d1, .pointer (some ⟨q, 0, none⟩), .pointer (some ⟨q, 1, none⟩), .int .i64 x.1.e, u26, u27, .pointer (some ⟨p, 3, none⟩), .slice A2 i d2, .pointer (some ⟨q, 0, none⟩), .pointer (some ⟨q, 2, none⟩), .int .i64 x.1.h, u33, u34, .pointer (some ⟨p, 4, none⟩), .slice A3 i d3, .pointer (some ⟨q, 3, none⟩), .int .i64 x.2, .slice (some ⟨y.2.2.1, 0, none⟩) 1 1, u40, u41, u42, u43, u44, undef], defers := [] }) (fun y w2 => Sat w w2 (pt y.2.2.1 [.int .i64 x.2] 2 * (row (.slice A1 i d1) 2 1 i L1 * (row (.slice A2 i d2) 2 1 i L2 * (row (.slice A3 i d3) 2 1 i L3 * (pt p [.bool inner, .int .i64 lo, .slice A1 i d1, .slice A2 i d2, .slice A3 i d3] 43 * (pt q (encP x) 134 * (pt rr [.bool false, .int .i64 0, .slice none 0 0, .slice none 0 0, .slice none 0 0] 43 * Old w)))))))) (fun y w2 hS => ?_) (fun hSS => ?_)
      ·
        obtain ⟨g1, g2, g3, v1, v2, v3⟩ := y
        dsimp only at hS ⊢
        have hP := hS.b4
        have hcc := hP.cell
        have hff := hP.frozen
        have hpl := hP.lt
        have hQ := hS.b5
        have hqc := hQ.cell
        simp only [encP] at hqc
        have hql := hQ.lt
        clear hP hQ
        refine wpC_or ?_ ?_
        ·
          refine wpC_wrp rfl rfl (fun R hR => ?_)
          go_wp2
          refine hR _ _ ?_ ?_
          · repeat (first | refine obl_cons rfl rfl (by go_simp <;> first | exact IntWalk.i64_in _ (by omega) | rfl) ?_ | refine obl_consg rfl rfl rfl (by go_simp) (by go_simp <;> first | exact IntWalk.i64_in _ (by omega) | rfl) ?_ | refine obl_skip rfl rfl rfl (by go_simp) (by go_simp) ?_)
            exact obl_nil
          clear hR R
          have hn := hS.alloc [.int .i64 x.1.e] 2
          exact S0_13.out (w2.heap.size, g2, g3, v1, v2, v3) _ (hn.of_eq (by dsimp only; try ac_rfl))
        ·
          refine wpC_wrp rfl rfl (fun R hR => ?_)
          go_wp2
          refine hR _ _ ?_ ?_
          · repeat (first | refine obl_cons rfl rfl (by go_simp <;> first | exact IntWalk.i64_in _ (by omega) | rfl) ?_ | refine obl_consg rfl rfl rfl (by go_simp) (by go_simp <;> first | exact IntWalk.i64_in _ (by omega) | rfl) ?_ | refine obl_skip rfl rfl rfl (by go_simp) (by go_simp) ?_)
            exact obl_nil
          clear hR R
          have hn := hS.alloc [.int .i64 x.1.h] 2
          exact S0_23.out (g1, w2.heap.size, g3, v1, v2, v3) _ (hn.of_eq (by dsimp only; try ac_rfl))
      have S0_3 := Lib.hid hSS
      clear hSS
      refine wpC_cut (.wr 5 [0, 1, 7, 8, 9, 10, 11, 14, 15, 16, 17] (.wr 6 [7, 8, 9, 10, 11, 14, 15, 16, 17] (.rd 20 (.wr 12 [0, 1, 2, 3, 4, 7, 8, 14, 15, 16, 17, 20] (.wr 13 [14, 15, 16, 17, 20] (.wr 18 [0, 1, 2, 3, 4, 7, 8, 9, 10, 11, 14, 15, 20] (.wr 19 [20] (.wr 21 [] (.rd 22 (.wr 23 [] (.rd 24 (.wr 25 [] .fin .stop)) .stop)) .stop) .stop) .stop) (.wr 18 [0, 1, 2, 3, 4, 7, 8, 9, 10, 11, 14, 15, 20] (.wr 13 [14, 15, 16, 17, 20] (.wr 19 [20] (.wr 21 [] (.rd 22 (.wr 23 [] (.rd 24 (.wr 25 [] .fin .stop)) .stop)) .stop) .stop) .stop) .stop)) (.wr 18 [0, 1, 2, 3, 4, 7, 8, 9, 10, 11, 14, 15, 20] (.wr 12 [0, 1, 2, 3, 4, 7, 8, 14, 15, 16, 17, 20] (.wr 13 [14, 15, 16, 17, 20] (.wr 19 [20] (.wr 21 [] (.rd 22 (.wr 23 [] (.rd 24 (.wr 25 [] .fin .stop)) .stop)) .stop) .stop) .stop) .stop) .stop))) (.wr 12 [0, 1, 2, 3, 4, 7, 8, 14, 15, 16, 17] (.wr 6 [7, 8, 9, 10, 11, 14, 15, 16, 17] (.rd 20 (.wr 13 [14, 15, 16, 17, 20] (.wr 18 [0, 1, 2, 3, 4, 7, 8, 9, 10, 11, 14, 15, 20] (.wr 19 [20] (.wr 21 [] (.rd 22 (.wr 23 [] (.rd 24 (.wr 25 [] .fin .stop)) .stop)) .stop) .stop) .stop) (.wr 18 [0, 1, 2, 3, 4, 7, 8, 9, 10, 11, 14, 15, 20] (.wr 13 [14, 15, 16, 17, 20] (.wr 19 [20] (.wr 21 [] (.rd 22 (.wr 23 [] (.rd 24 (.wr 25 [] .fin .stop)) .stop)) .stop) .stop) .stop) .stop))) (.wr 18 [0, 1, 2, 3, 4, 7, 8, 9, 10, 11, 14, 15] (.wr 6 [7, 8, 9, 10, 11, 14, 15, 16, 17] (.rd 20 (.wr 13 [14, 15, 16, 17, 20] (.wr 19 [20] (.wr 21 [] (.rd 22 (.wr 23 [] (.rd 24 (.wr 25 [] .fin .stop)) .stop)) .stop) .stop) .stop)) .stop) .stop)) (.wr 18 [0, 1, 2, 3, 4, 7, 8, 9, 10, 11, 14, 15] (.wr 6 [7, 8, 9, 10, 11, 14, 15, 16, 17] (.rd 20 (.wr 12 [0, 1, 2, 3, 4, 7, 8, 14, 15, 16, 17, 20] (.wr 13 [14, 15, 16, 17, 20] (.wr 19 [20] (.wr 21 [] (.rd 22 (.wr 23 [] (.rd 24 (.wr 25 [] .fin .stop)) .stop)) .stop) .stop) .stop) .stop)) (.wr 12 [0, 1, 2, 3, 4, 7, 8, 14, 15, 16, 17] (.wr 6 [7, 8, 9, 10, 11, 14, 15, 16, 17] (.rd 20 (.wr 13 [14, 15, 16, 17, 20] (.wr 19 [20] (.wr 21 [] (.rd 22 (.wr 23 [] (.rd 24 (.wr 25 [] .fin .stop)) .stop)) .stop) .stop) .stop)) .stop) .stop)) .stop))) (.wr 12 [0, 1, 2, 3, 4, 7, 8, 14, 15, 16, 17] (.wr 5 [0, 1, 7, 8, 9, 10, 11, 14, 15, 16, 17] (.wr 6 [7, 8, 9, 10, 11, 14, 15, 16, 17] (.rd 20 (.wr 13 [14, 15, 16, 17, 20] (.wr 18 [0, 1, 2, 3, 4, 7, 8, 9, 10, 11, 14, 15, 20] (.wr 19 [20] (.wr 21 [] (.rd 22 (.wr 23 [] (.rd 24 (.wr 25 [] .fin .stop)) .stop)) .stop) .stop) .stop) (.wr 18 [0, 1, 2, 3, 4, 7, 8, 9, 10, 11, 14, 15, 20] (.wr 13 [14, 15, 16, 17, 20] (.wr 19 [20] (.wr 21 [] (.rd 22 (.wr 23 [] (.rd 24 (.wr 25 [] .fin .stop)) .stop)) .stop) .stop) .stop) .stop))) (.wr 18 [0, 1, 2, 3, 4, 7, 8, 9, 10, 11, 14, 15] (.wr 6 [7, 8, 9, 10, 11, 14, 15, 16, 17] (.rd 20 (.wr 13 [14, 15, 16, 17, 20] (.wr 19 [20] (.wr 21 [] (.rd 22 (.wr 23 [] (.rd 24 (.wr 25 [] .fin .stop)) .stop)) .stop) .stop) .stop)) .stop) .stop)) (.wr 18 [0, 1, 2, 3, 4, 7, 8, 9, 10, 11, 14, 15] (.wr 5 [0, 1, 7, 8, 9, 10, 11, 14, 15, 16, 17] (.wr 6 [7, 8, 9, 10, 11, 14, 15, 16, 17] (.rd 20 (.wr 13 [14, 15, 16, 17, 20] (.wr 19 [20] (.wr 21 [] (.rd 22 (.wr 23 [] (.rd 24 (.wr 25 [] .fin .stop)) .stop)) .stop) .stop) .stop)) .stop) .stop) .stop)) (.wr 18 [0, 1, 2, 3, 4, 7, 8, 9, 10, 11, 14, 15] (.wr 5 [0, 1, 7, 8, 9, 10, 11, 14, 15, 16, 17] (.wr 6 [7, 8, 9, 10, 11, 14, 15, 16, 17] (.rd 20 (.wr 12 [0, 1, 2, 3, 4, 7, 8, 14, 15, 16, 17, 20] (.wr 13 [14, 15, 16, 17, 20] (.wr 19 [20] (.wr 21 [] (.rd 22 (.wr 23 [] (.rd 24 (.wr 25 [] .fin .stop)) .stop)) .stop) .stop) .stop) .stop)) (.wr 12 [0, 1, 2, 3, 4, 7, 8, 14, 15, 16, 17] (.wr 6 [7, 8, 9, 10, 11, 14, 15, 16, 17] (.rd 20 (.wr 13 [14, 15, 16, 17, 20] (.wr 19 [20] (.wr 21 [] (.rd 22 (.wr 23 [] (.rd 24 (.wr 25 [] .fin .stop)) .stop)) .stop) .stop) .stop)) .stop) .stop)) (.wr 12 [0, 1, 2, 3, 4, 7, 8, 14, 15, 16, 17] (.wr 5 [0, 1, 7, 8, 9, 10, 11, 14, 15, 16, 17] (.wr 6 [7, 8, 9, 10, 11, 14, 15, 16, 17] (.rd 20 (.wr 13 [14, 15, 16, 17, 20] (.wr 19 [20] (.wr 21 [] (.rd 22 (.wr 23 [] (.rd 24 (.wr 25 [] .fin .stop)) .stop)) .stop) .stop) .stop)) .stop) .stop) .stop)) .stop))) (fun y : Nat × Nat × Nat × Value × Value × Value => { tmps := #[.slice (some ⟨b, o, none⟩) ps.length c, .bool inner, undef, undef, .pointer (some ⟨rr, 0, none⟩), .pointer (some ⟨p, 0, none⟩), undef, .pointer (some ⟨q, 0, none⟩), .bool inner, .slice (some ⟨b, o, none⟩) ps.length c, .pointer (some ⟨b, o, none⟩), .pointer (some ⟨b, o, none⟩), .pointer (some ⟨b, o, none⟩), .int .i64 lo, .agg #[.bool inner, .int .i64 lo, .slice none 0 0, .slice none 0 0, .slice none 0 0], .slice (some ⟨b, o, none⟩) ps.length c, .int .i64 ps.length, .int .i64 i, .bool true, .pointer (some ⟨b, o + i * 4, none⟩), .agg #[.int .i64 x.1.lo, .int .i64 x.1.e, .int .i64 x.1.h, .int .i64 x.2], .pointer (some ⟨p, 2, none⟩), .slice A1 i d1, .pointer (some ⟨q, 0, none⟩), .pointer (some ⟨q, 1, none⟩), .int .i64 x.1.e, u26, u27, .pointer (some ⟨p, 3, none⟩), .slice A2 i d2, .pointer (some ⟨q, 0, none⟩), .pointer (some ⟨q, 2, none⟩), .int .i64 x.1.h, u33, u34, .pointer (some ⟨p, 4, none⟩), .slice A3 i d3, .pointer (some ⟨q, 3, none⟩), .int .i64 x.2, u39, u40, u41, u42, u43, u44, undef], defers := [] }) (fun y w2 => Sat w w2 (row (.slice A1 i d1) 2 1 i L1 * (row (.slice A2 i d2) 2 1 i L2 * (row (.slice A3 i d3) 2 1 i L3 * (pt p [.bool inner, .int .i64 lo, .slice A1 i d1, .slice A2 i d2, .slice A3 i d3] 43 * (pt q (encP x) 134 * (pt rr [.bool false, .int .i64 0, .slice none 0 0, .slice none 0 0, .slice none 0 0] 43 * Old w))))))) (fun y w2 hS => ?_) (fun hSS => ?_)
      ·
        obtain ⟨g1, g2, g3, v1, v2, v3⟩ := y
        dsimp only at hS ⊢
        have hP := hS.b3
        have hcc := hP.cell
        have hff := hP.frozen
        have hpl := hP.lt
        have hQ := hS.b4
        have hqc := hQ.cell
        simp only [encP] at hqc
        have hql := hQ.lt
        clear hP hQ
        refine wpC_or ?_ ?_
        ·
          refine wpC_wrp rfl rfl (fun R hR => ?_)
          go_wp2
          refine hR _ _ ?_ ?_
          · repeat (first | refine obl_cons rfl rfl (by go_simp <;> first | exact IntWalk.i64_in _ (by omega) | rfl) ?_ | refine obl_consg rfl rfl rfl (by go_simp) (by go_simp <;> first | exact IntWalk.i64_in _ (by omega) | rfl) ?_ | refine obl_skip rfl rfl rfl (by go_simp) (by go_simp) ?_)
            exact obl_nil
          clear hR R
          have hn := hS.alloc [.int .i64 x.1.e] 2
          exact S0_1.out (w2.heap.size, g2, g3, v1, v2, v3) _ (hn.of_eq (by dsimp only; try ac_rfl))
        ·
          refine wpC_or ?_ ?_
          ·
            refine wpC_wrp rfl rfl (fun R hR => ?_)
            go_wp2
            refine hR _ _ ?_ ?_
            · repeat (first | refine obl_cons rfl rfl (by go_simp <;> first | exact IntWalk.i64_in _ (by omega) | rfl) ?_ | refine obl_consg rfl rfl rfl (by go_simp) (by go_simp <;> first | exact IntWalk.i64_in _ (by omega) | rfl) ?_ | refine obl_skip rfl rfl rfl (by go_simp) (by go_simp) ?_)
              exact obl_nil
            clear hR R
            have hn := hS.alloc [.int .i64 x.1.h] 2
            exact S0_2.out (g1, w2.heap.size, g3, v1, v2, v3) _ (hn.of_eq (by dsimp only; try ac_rfl))
          ·
            refine wpC_wrp rfl rfl (fun R hR => ?_)
            go_wp2
            refine hR _ _ ?_ ?_
            · repeat (first | refine obl_cons rfl rfl (by go_simp <;> first | exact IntWalk.i64_in _ (by omega) | rfl) ?_ | refine obl_consg rfl rfl rfl (by go_simp) (by go_simp <;> first | exact IntWalk.i64_in _ (by omega) | rfl) ?_ | refine obl_skip rfl rfl rfl (by go_simp) (by go_simp) ?_)
              exact obl_nil
            clear hR R
            have hn := hS.alloc [.int .i64 x.2] 2
            exact S0_3.out (g1, g2, w2.heap.size, v1, v2, v3) _ (hn.of_eq (by dsimp only; try ac_rfl))
      have S0_0 := Lib.hid hSS
      clear hSS
      exact S0_0.out (0, 0, 0, undef, undef, undef) _ (hS.of_eq (by ac_rfl))
    · have hii : i = ps.length := by omega
      subst hii
      have T1 := Lib.hid (tk_all (·.1.e) ps)
      have T2 := Lib.hid (tk_all (·.1.h) ps)
      have T3 := Lib.hid (tk_all (·.2) ps)
      have h4 := hS.b4.frozen
      have h5 := hS.b4.cell
      go_wp2
      have hS5 := ((((hS.b4.set 0 (.bool inner)).set 1 (.int .i64 lo)).set 2 (.slice A1 ps.length d1)).set 3 (.slice A2 ps.length d2)).set 4 (.slice A3 ps.length d3)
      simp only [List.set_cons_zero, List.set_cons_succ] at hS5
      have q := hS5.cell
      have q0 := q 0
      have q1 := q 1
      have q2 := q 2
      have q3 := q 3
      have q4 := q 4
      simp only [List.getElem?_cons_zero, List.getElem?_cons_succ] at q0 q1 q2 q3 q4
      refine bodyPost_ret (v := .agg #[.bool inner, .int .i64 lo, .slice A1 ps.length d1, .slice A2 ps.length d2, .slice A3 ps.length d3]) (by simp [results, Try.results103, go_sem, q0, q1, q2, q3, q4]) rfl ⟨_, _, _, by rw [HLO.out], ?_⟩
      have hS6 := hS5.right
      rw [T1.out, T2.out, T3.out] at hS6
      exact hS6.b3.right
end Go.Proofs.Ytpiobilidhmedaa
