/-
  What samararef18.Node answers: the node of some parts.
-/
import Derived.Test.YtpiobilidhmedaaG1
namespace Go.Proofs.Ytpiobilidhmedaa
open Go.RowKit Go.Sl Go.Ct
set_option linter.unusedVariables false
set_option linter.unusedSimpArgs false

theorem setCell_size (w : World) (a : Addr) (v : Value) : (w.setCell a v).heap.size = w.heap.size := by simp

set_option maxRecDepth 100000 in
set_option maxHeartbeats 32000000 in
theorem rnode_calls (b o c : Nat) (ps : List (En × Int)) (inner : Bool) (gA : Option Addr) (gn gc : Nat) (w : World) (r : Rd En.cells 3 w (some ⟨b, o, none⟩) (ps.map (·.1)))
    (hg : inner = true → gn = ps.length ∧ Rd encI 1 w gA (ps.map (·.2))) (ok : PtsOk inner ps) (h1 : 1 ≤ ps.length) (hl : ps.length ≤ 1000) :
    Calls Try.prog 75 #[.slice (some ⟨b, o, none⟩) ps.length c, .slice gA gn gc, .bool inner] w (NodePost ps inner w) := by
  obtain ⟨x0, hx0⟩ : ∃ x, ps[0]? = some x := ⟨ps[0], by simp⟩
  have hlo : (nodeOf ps inner).lo = x0.1.lo := by
    cases ps with
    | nil => cases hx0
    | cons y l => simp at hx0; subst hx0; rfl
  obtain ⟨c0, c1, c2⟩ := r.en (k := 0) (x := x0.1) (by simp [hx0])
  simp only [Nat.zero_mul, Nat.add_zero] at c0 c1 c2
  have hS := ((((((Sat.refl w).alloc [.bool false, .int .i64 0, .slice none 0 0, .slice none 0 0, .slice none 0 0] 43).alloc [.bool inner, .int .i64 x0.1.lo, .slice none 0 0, .slice none 0 0, .slice none 0 0] 43).row_start 2 1).row_start 2 1).row_start 2 1)
  simp only [alloc_size] at hS
  have HLO := Lib.hid hlo
  have HOK := Lib.hid ok
  have HGG := Lib.hid hg
  have hp0 : (0 : Int) < (ps.length : Int) := by omega
  have hb := World.block_lt_of_cell? _ _ c0
  simp only [] at hb
  clear hlo hx0 ok hg
  generalize x0.1.lo = lo at *
  go_enter Try.func75, Try.ntmps75
  go_wp2
  have hbp : b ≠ w.heap.size + 1 := by omega
  have hbr : b ≠ w.heap.size := by omega
  generalize w.heap.size + 1 = p at *
  generalize w.heap.size = rr at *
  go_loopg [8] ps.length (fun gk v8 w' => ∃ (i : Nat) (v1 v2 v3 : Value), i + gk = ps.length ∧ v8 = .int .i64 i ∧ Sat w w' (row v1 2 1 i (tk (·.1.e) ps i) * (row v2 2 1 i (tk (·.1.h) ps i) * (row v3 2 1 i (tk (·.2) ps i) * (pt p [.bool inner, .int .i64 lo, v1, v2, v3] 43 * (pt rr [.bool false, .int .i64 0, .slice none 0 0, .slice none 0 0, .slice none 0 0] 43 * Old w))))))
  case atStart => exact ⟨0, _, _, _, by omega, rfl, hS⟩
  case round =>
    clear hS c0 c1 c2 hb
    obtain ⟨i, v1, v2, v3, hgk, rfl, hS⟩ := hrel
    have HG := Lib.hid hgk
    have hi : i ≤ ps.length := by omega
    clear hgk
    obtain ⟨A1, d1, rfl⟩ := row_shape hS
    obtain ⟨A2, d2, rfl⟩ := row_shape hS.rot
    obtain ⟨A3, d3, rfl⟩ := row_shape hS.b2
    have hcc := hS.b3.cell
    have hff := hS.b3.frozen
    have hpl : p < wr.heap.size := hS.b3.lt
    by_cases hlt : i < ps.length
    case neg =>
      have hii : i = ps.length := by omega
      subst hii
      have T1 := Lib.hid (tk_all (·.1.e) ps)
      have T2 := Lib.hid (tk_all (·.1.h) ps)
      have T3 := Lib.hid (tk_all (·.2) ps)
      have h4 := hS.b4.frozen
      have h5 := hS.b4.cell
      go_wp2
      have hS5 := ((((hS.b4.set 0 (.bool inner)).set 1 (.int .i64 lo)).set 2 (.slice A1 ps.length d1)).set 3 (.slice A2 ps.length d2)).set 4 (.slice A3 ps.length d3)
      simp only [List.set_cons_zero, List.set_cons_succ] at hS5
      have q := hS5.cell
      have q0 := q 0
      have q1 := q 1
      have q2 := q 2
      have q3 := q 3
      have q4 := q 4
      simp only [List.getElem?_cons_zero, List.getElem?_cons_succ] at q0 q1 q2 q3 q4
      refine bodyPost_ret (v := .agg #[.bool inner, .int .i64 lo, .slice A1 ps.length d1, .slice A2 ps.length d2, .slice A3 ps.length d3]) (by simp [results, Try.results75, go_sem, q0, q1, q2, q3, q4]) rfl ⟨_, _, _, by rw [HLO.out], ?_⟩
      have hS6 := hS5.right
      rw [T1.out, T2.out, T3.out] at hS6
      exact hS6.b3.right
    case pos =>
      obtain ⟨x, hx⟩ : ∃ x, ps[i]? = some x := ⟨ps[i], by simp⟩
      have hx1 : Hid ((ps.map (·.1))[i]? = some x.1) := Lib.hid (by simp [hx])
      obtain ⟨c0, c1, c2⟩ := (r.below (sz := 3) (fun _ => rfl) hS.right.right.right.right.right.below0).en hx1.out
      have hb := World.block_lt_of_cell? _ _ c0
      simp only [] at hb
      have t1 := tk_succ (·.1.e) hx
      have t2 := tk_succ (·.1.h) hx
      have t3 := tk_succ (·.2) hx
      have T1 := Lib.hid t1
      have T2 := Lib.hid t2
      have T3 := Lib.hid t3
      clear t1 t2 t3
      generalize tk (·.1.e) ps i = L1 at *
      generalize tk (·.1.h) ps i = L2 at *
      generalize tk (·.2) ps i = L3 at *
      generalize hM1 : tk (·.1.e) ps (i + 1) = M1 at *
      generalize hM2 : tk (·.1.h) ps (i + 1) = M2 at *
      generalize hM3 : tk (·.2) ps (i + 1) = M3 at *
      have HM1 := Lib.hid hM1
      have HM2 := Lib.hid hM2
      have HM3 := Lib.hid hM3
      have hent := HOK.out.ent i x hx
      have hlo2 := HOK.out.lo i x hx
      have e1 := hent.lt
      have e2 := hent.le
      have e3 := hlo2.1
      have HEN := Lib.hid hent
      have HX := Lib.hid hx
      clear hM1 hM2 hM3 hent hlo2 hx
      cases inner with
      | true =>
        have hge := HGG.out rfl
        obtain ⟨rfl, rg⟩ := hge
        obtain ⟨gb, go_, rfl⟩ := rg.addr (k := i) (by simpa using hlt)
        go_wp2
        replace hS := hS.drew
        refine wp_region_ct (.rd 0 (.rd 1 (.rd 2 (.rd 3 (.rd 4 (.rd 5 (.rd 6 (.wr 7 [0, 1] (.wr 8 [] (.rd 9 (.wr 10 [] .fin .stop)) .stop) .stop)))))))) 75 mixed (by kernel_rfl) (Nat.le_refl _) (fun c a a' w e h => ⟨e ▸ h.1, h.2⟩) ?_
        repeat' (first | (refine wpC_rdp rfl rfl (fun K hK => ?_); go_simp; (try go_bits)) | (refine wpC_rdg rfl rfl rfl (fun K hK => ?_); go_simp; (try go_bits)) | (refine hK _ ?_; clear hK K))
        refine wpC_wrp rfl rfl (fun R hR => ?_)
        go_wp2
        refine hR _ _ ?_ ?_
        · repeat (first | refine obl_cons rfl rfl (by go_simp <;> first | exact IntWalk.i64_in _ (by omega) | rfl) ?_ | refine obl_consg rfl rfl rfl (by go_simp) (by go_simp <;> first | exact IntWalk.i64_in _ (by omega) | rfl) ?_ | refine obl_skip rfl rfl rfl (by go_simp) (by go_simp) ?_)
          exact obl_nil
        clear hR R
        replace hS := hS.alloc [.int .i64 x.1.e] 2
        simp only [setCell_size, drew_size] at hS
        have hb2 := hS.blk
        replace hS := hS.rot
        refine wpC_wrp rfl rfl (fun R hR => ?_)
        refine wpList_append_new rfl _ _ 23 rfl 2 _ 1 8 Try.underlying23 info2 rfl (by decide) _ _ _ _ rfl hS _ [.int .i64 x.1.e] rfl rfl hb2 (by simp [Value.oneCell']) (by omega) (by omega) ?_
        clear hS hb2 hcc hff c0 c1 c2 hpl hb
        intro u1 w1 hS
        replace hS := hS.rot.right
        obtain ⟨A1, d1, rfl⟩ := row_shape hS
        rw [T1.out] at hS
        have hcc := hS.b3.cell
        have hff := hS.b3.frozen
        obtain ⟨c0, c1, c2⟩ := (r.below (sz := 3) (fun _ => rfl) hS.right.right.right.right.right.below0).en hx1.out
        have hpl := hS.b3.lt
        have hb := World.block_lt_of_cell? _ _ c0
        simp only [] at hb
        go_wp2
        refine hR _ _ ?_ ?_
        · exact obl_nil
        clear hR R
        repeat' (first | (refine wpC_rdp rfl rfl (fun K hK => ?_); go_simp; (try go_bits)) | (refine wpC_rdg rfl rfl rfl (fun K hK => ?_); go_simp; (try go_bits)) | (refine hK _ ?_; clear hK K))
        refine wpC_wrp rfl rfl (fun R hR => ?_)
        go_wp2
        refine hR _ _ ?_ ?_
        · exact obl_nil
        clear hR R
        replace hS := (hS.b3).set 2 (.slice A1 (i + 1) d1)
        simp only [List.set_cons_zero, List.set_cons_succ] at hS
        replace hS := hS.of_eq (B := row (.slice A2 i d2) 2 1 i L2 * (row (.slice A3 i d3) 2 1 i L3 * (row (.slice A1 (i + 1) d1) 2 1 (i + 1) M1 * (pt p [.bool true, .int .i64 lo, .slice A1 (i + 1) d1, .slice A2 i d2, .slice A3 i d3] 43 * (pt rr [.bool false, .int .i64 0, .slice none 0 0, .slice none 0 0, .slice none 0 0] 43 * Old w))))) (by ac_rfl)
        refine wpC_fin ?_
        go_wp2
        replace hS := hS.drew
        refine wp_region_ct (.rd 0 (.rd 1 (.rd 2 (.rd 3 (.rd 4 (.rd 5 (.rd 6 (.wr 7 [0, 1] (.wr 8 [] (.rd 9 (.wr 10 [] .fin .stop)) .stop) .stop)))))))) 75 mixed (by kernel_rfl) (Nat.le_refl _) (fun c a a' w e h => ⟨e ▸ h.1, h.2⟩) ?_
        repeat' (first | (refine wpC_rdp rfl rfl (fun K hK => ?_); go_simp; (try go_bits)) | (refine wpC_rdg rfl rfl rfl (fun K hK => ?_); go_simp; (try go_bits)) | (refine hK _ ?_; clear hK K))
        refine wpC_wrp rfl rfl (fun R hR => ?_)
        go_wp2
        refine hR _ _ ?_ ?_
        · repeat (first | refine obl_cons rfl rfl (by go_simp <;> first | exact IntWalk.i64_in _ (by omega) | rfl) ?_ | refine obl_consg rfl rfl rfl (by go_simp) (by go_simp <;> first | exact IntWalk.i64_in _ (by omega) | rfl) ?_ | refine obl_skip rfl rfl rfl (by go_simp) (by go_simp) ?_)
          exact obl_nil
        clear hR R
        replace hS := hS.alloc [.int .i64 x.1.h] 2
        simp only [setCell_size, drew_size] at hS
        have hb2 := hS.blk
        replace hS := hS.rot
        refine wpC_wrp rfl rfl (fun R hR => ?_)
        refine wpList_append_new rfl _ _ 23 rfl 2 _ 1 8 Try.underlying23 info2 rfl (by decide) _ _ _ _ rfl hS _ [.int .i64 x.1.h] rfl rfl hb2 (by simp [Value.oneCell']) (by omega) (by omega) ?_
        clear hS hb2 hcc hff c0 c1 c2 hpl hb
        intro u2 w2 hS
        replace hS := hS.rot.right
        obtain ⟨A2, d2, rfl⟩ := row_shape hS
        rw [T2.out] at hS
        have hcc := hS.b3.cell
        have hff := hS.b3.frozen
        obtain ⟨c0, c1, c2⟩ := (r.below (sz := 3) (fun _ => rfl) hS.right.right.right.right.right.below0).en hx1.out
        have hpl := hS.b3.lt
        have hb := World.block_lt_of_cell? _ _ c0
        simp only [] at hb
        go_wp2
        refine hR _ _ ?_ ?_
        · exact obl_nil
        clear hR R
        repeat' (first | (refine wpC_rdp rfl rfl (fun K hK => ?_); go_simp; (try go_bits)) | (refine wpC_rdg rfl rfl rfl (fun K hK => ?_); go_simp; (try go_bits)) | (refine hK _ ?_; clear hK K))
        refine wpC_wrp rfl rfl (fun R hR => ?_)
        go_wp2
        refine hR _ _ ?_ ?_
        · exact obl_nil
        clear hR R
        replace hS := (hS.b3).set 3 (.slice A2 (i + 1) d2)
        simp only [List.set_cons_zero, List.set_cons_succ] at hS
        replace hS := hS.of_eq (B := row (.slice A3 i d3) 2 1 i L3 * (row (.slice A1 (i + 1) d1) 2 1 (i + 1) M1 * (row (.slice A2 (i + 1) d2) 2 1 (i + 1) M2 * (pt p [.bool true, .int .i64 lo, .slice A1 (i + 1) d1, .slice A2 (i + 1) d2, .slice A3 i d3] 43 * (pt rr [.bool false, .int .i64 0, .slice none 0 0, .slice none 0 0, .slice none 0 0] 43 * Old w))))) (by ac_rfl)
        refine wpC_fin ?_
        have g0 := (rg.below (sz := 1) (fun _ => rfl) hS.right.right.right.right.right.below0).num (k := i) (x := x.2) (by simp [HX.out])
        go_wp2_with (at_builtin; go_loud (refine wpList_append_new rfl _ _ 23 rfl 2 _ 1 8 Try.underlying23 info2 rfl (by decide) _ _ _ _ rfl (hS.alloc_any _) _ [.int .i64 x.2] rfl rfl (heap_alloc_at _ _ _ (by simp)) (by simp [Value.oneCell']) (by omega) (by omega) ?_); clear hcc hff c0 c1 c2 hpl hb; intro u3 w3 hS3; obtain ⟨B3, k3, rfl⟩ := row_shape hS3; rw [T3.out] at hS3; have hcc := hS3.b3.cell; have hff := hS3.b3.frozen; have hpl := hS3.b3.lt)
        go_roundg (gk - 1)
        case measure => have := HG.out; omega
        case rel =>
          have hS4 := hS3.b3.set 4 (.slice B3 (i + 1) k3)
          simp only [List.set_cons_zero, List.set_cons_succ] at hS4
          exact ⟨i + 1, .slice A1 (i + 1) d1, .slice A2 (i + 1) d2, .slice B3 (i + 1) k3, by have := HG.out; omega, by go_num, by rw [HM1.out, HM2.out, HM3.out]; exact hS4.of_eq (by ac_rfl)⟩
      | false =>
        have hge := HEN.out.leaf rfl
        by_cases hz : x.1.h = 0
        · rw [if_pos hz] at hge
          have HZ : Hid (x.2 = x.1.e - x.1.lo) := Lib.hid hge
          clear hge
          have t2 := T2.out
          rw [hz] at t2
          have T2 := Lib.hid t2
          clear t2
          go_wp2
          replace hS := hS.drew
          refine wp_region_ct (.rd 0 (.rd 1 (.rd 2 (.rd 3 (.rd 4 (.rd 5 (.rd 6 (.wr 7 [0, 1] (.wr 8 [] (.rd 9 (.wr 10 [] .fin .stop)) .stop) .stop)))))))) 75 mixed (by kernel_rfl) (Nat.le_refl _) (fun c a a' w e h => ⟨e ▸ h.1, h.2⟩) ?_
          repeat' (first | (refine wpC_rdp rfl rfl (fun K hK => ?_); go_simp; (try go_bits)) | (refine wpC_rdg rfl rfl rfl (fun K hK => ?_); go_simp; (try go_bits)) | (refine hK _ ?_; clear hK K))
          refine wpC_wrp rfl rfl (fun R hR => ?_)
          go_wp2
          refine hR _ _ ?_ ?_
          · repeat (first | refine obl_cons rfl rfl (by go_simp <;> first | exact IntWalk.i64_in _ (by omega) | rfl) ?_ | refine obl_consg rfl rfl rfl (by go_simp) (by go_simp <;> first | exact IntWalk.i64_in _ (by omega) | rfl) ?_ | refine obl_skip rfl rfl rfl (by go_simp) (by go_simp) ?_)
            exact obl_nil
          clear hR R
          replace hS := hS.alloc [.int .i64 x.1.e] 2
          simp only [setCell_size, drew_size] at hS
          have hb2 := hS.blk
          replace hS := hS.rot
          refine wpC_wrp rfl rfl (fun R hR => ?_)
          refine wpList_append_new rfl _ _ 23 rfl 2 _ 1 8 Try.underlying23 info2 rfl (by decide) _ _ _ _ rfl hS _ [.int .i64 x.1.e] rfl rfl hb2 (by simp [Value.oneCell']) (by omega) (by omega) ?_
          clear hS hb2 hcc hff c0 c1 c2 hpl hb
          intro u1 w1 hS
          replace hS := hS.rot.right
          obtain ⟨A1, d1, rfl⟩ := row_shape hS
          rw [T1.out] at hS
          have hcc := hS.b3.cell
          have hff := hS.b3.frozen
          obtain ⟨c0, c1, c2⟩ := (r.below (sz := 3) (fun _ => rfl) hS.right.right.right.right.right.below0).en hx1.out
          have hpl := hS.b3.lt
          have hb := World.block_lt_of_cell? _ _ c0
          simp only [] at hb
          go_wp2
          refine hR _ _ ?_ ?_
          · exact obl_nil
          clear hR R
          repeat' (first | (refine wpC_rdp rfl rfl (fun K hK => ?_); go_simp; (try go_bits)) | (refine wpC_rdg rfl rfl rfl (fun K hK => ?_); go_simp; (try go_bits)) | (refine hK _ ?_; clear hK K))
          refine wpC_wrp rfl rfl (fun R hR => ?_)
          go_wp2
          refine hR _ _ ?_ ?_
          · exact obl_nil
          clear hR R
          replace hS := (hS.b3).set 2 (.slice A1 (i + 1) d1)
          simp only [List.set_cons_zero, List.set_cons_succ] at hS
          replace hS := hS.of_eq (B := row (.slice A2 i d2) 2 1 i L2 * (row (.slice A3 i d3) 2 1 i L3 * (row (.slice A1 (i + 1) d1) 2 1 (i + 1) M1 * (pt p [.bool false, .int .i64 lo, .slice A1 (i + 1) d1, .slice A2 i d2, .slice A3 i d3] 43 * (pt rr [.bool false, .int .i64 0, .slice none 0 0, .slice none 0 0, .slice none 0 0] 43 * Old w))))) (by ac_rfl)
          refine wpC_fin ?_
          go_wp2
          replace hS := hS.drew
          refine wp_region_ct (.rd 0 (.rd 1 (.rd 2 (.rd 3 (.rd 4 (.rd 5 (.rd 6 (.wr 7 [0, 1] (.wr 8 [] (.rd 9 (.wr 10 [] .fin .stop)) .stop) .stop)))))))) 75 mixed (by kernel_rfl) (Nat.le_refl _) (fun c a a' w e h => ⟨e ▸ h.1, h.2⟩) ?_
          repeat' (first | (refine wpC_rdp rfl rfl (fun K hK => ?_); go_simp; (try go_bits)) | (refine wpC_rdg rfl rfl rfl (fun K hK => ?_); go_simp; (try go_bits)) | (refine hK _ ?_; clear hK K))
          refine wpC_wrp rfl rfl (fun R hR => ?_)
          go_wp2
          refine hR _ _ ?_ ?_
          · repeat (first | refine obl_cons rfl rfl (by go_simp <;> first | exact IntWalk.i64_in _ (by omega) | rfl) ?_ | refine obl_consg rfl rfl rfl (by go_simp) (by go_simp <;> first | exact IntWalk.i64_in _ (by omega) | rfl) ?_ | refine obl_skip rfl rfl rfl (by go_simp) (by go_simp) ?_)
            exact obl_nil
          clear hR R
          replace hS := hS.alloc [.int .i64 0] 2
          simp only [setCell_size, drew_size] at hS
          have hb2 := hS.blk
          replace hS := hS.rot
          refine wpC_wrp rfl rfl (fun R hR => ?_)
          refine wpList_append_new rfl _ _ 23 rfl 2 _ 1 8 Try.underlying23 info2 rfl (by decide) _ _ _ _ rfl hS _ [.int .i64 0] rfl rfl hb2 (by simp [Value.oneCell']) (by omega) (by omega) ?_
          clear hS hb2 hcc hff c0 c1 c2 hpl hb
          intro u2 w2 hS
          replace hS := hS.rot.right
          obtain ⟨A2, d2, rfl⟩ := row_shape hS
          rw [T2.out] at hS
          have hcc := hS.b3.cell
          have hff := hS.b3.frozen
          obtain ⟨c0, c1, c2⟩ := (r.below (sz := 3) (fun _ => rfl) hS.right.right.right.right.right.below0).en hx1.out
          have hpl := hS.b3.lt
          have hb := World.block_lt_of_cell? _ _ c0
          simp only [] at hb
          go_wp2
          refine hR _ _ ?_ ?_
          · exact obl_nil
          clear hR R
          repeat' (first | (refine wpC_rdp rfl rfl (fun K hK => ?_); go_simp; (try go_bits)) | (refine wpC_rdg rfl rfl rfl (fun K hK => ?_); go_simp; (try go_bits)) | (refine hK _ ?_; clear hK K))
          refine wpC_wrp rfl rfl (fun R hR => ?_)
          go_wp2
          refine hR _ _ ?_ ?_
          · exact obl_nil
          clear hR R
          replace hS := (hS.b3).set 3 (.slice A2 (i + 1) d2)
          simp only [List.set_cons_zero, List.set_cons_succ] at hS
          replace hS := hS.of_eq (B := row (.slice A3 i d3) 2 1 i L3 * (row (.slice A1 (i + 1) d1) 2 1 (i + 1) M1 * (row (.slice A2 (i + 1) d2) 2 1 (i + 1) M2 * (pt p [.bool false, .int .i64 lo, .slice A1 (i + 1) d1, .slice A2 (i + 1) d2, .slice A3 i d3] 43 * (pt rr [.bool false, .int .i64 0, .slice none 0 0, .slice none 0 0, .slice none 0 0] 43 * Old w))))) (by ac_rfl)
          refine wpC_fin ?_
          rw [show x.2 = (x.1.e - x.1.lo) from HZ.out] at T3
          go_wp2
          replace hS := hS.drew
          refine wp_region_ct (.rd 0 (.rd 1 (.rd 2 (.rd 3 (.rd 4 (.rd 5 (.rd 6 (.rd 7 (.rd 8 (.rd 9 (.rd 10 (.rd 11 .fin)))))))))))) 75 mixed (by kernel_rfl) (Nat.le_refl _) (fun c a a' w e h => ⟨e ▸ h.1, h.2⟩) ?_
          repeat' (first | (refine wpC_rdp rfl rfl (fun K hK => ?_); go_simp; (try go_bits)) | (refine wpC_rdg rfl rfl rfl (fun K hK => ?_); go_simp; (try go_bits)) | (refine hK _ ?_; clear hK K))
          refine wpC_fin ?_
          go_wp2_with (at_builtin; go_loud (refine wpList_append_new rfl _ _ 23 rfl 2 _ 1 8 Try.underlying23 info2 rfl (by decide) _ _ _ _ rfl (hS.alloc_any _) _ [.int .i64 (x.1.e - x.1.lo)] rfl rfl (heap_alloc_at _ _ _ (by simp)) (by simp [Value.oneCell']) (by omega) (by omega) ?_); clear hcc hff c0 c1 c2 hpl hb; intro u3 w3 hS3; obtain ⟨B3, k3, rfl⟩ := row_shape hS3; rw [T3.out] at hS3; have hcc := hS3.b3.cell; have hff := hS3.b3.frozen; have hpl := hS3.b3.lt)
          go_roundg (gk - 1)
          case measure => have := HG.out; omega
          case rel =>
            have hS4 := hS3.b3.set 4 (.slice B3 (i + 1) k3)
            simp only [List.set_cons_zero, List.set_cons_succ] at hS4
            exact ⟨i + 1, .slice A1 (i + 1) d1, .slice A2 (i + 1) d2, .slice B3 (i + 1) k3, by have := HG.out; omega, by go_num, by rw [HM1.out, HM2.out, HM3.out]; exact hS4.of_eq (by ac_rfl)⟩
        · rw [if_neg hz] at hge
          have HZ : Hid (x.2 = 0) := Lib.hid hge
          clear hge
          have hz2 : (x.1.h == 0) = false := by rw [beq_eq_false_iff_ne]; exact hz
          clear hz
          go_wp2
          replace hS := hS.drew
          refine wp_region_ct (.rd 0 (.rd 1 (.rd 2 (.rd 3 (.rd 4 (.rd 5 (.rd 6 (.wr 7 [0, 1] (.wr 8 [] (.rd 9 (.wr 10 [] .fin .stop)) .stop) .stop)))))))) 75 mixed (by kernel_rfl) (Nat.le_refl _) (fun c a a' w e h => ⟨e ▸ h.1, h.2⟩) ?_
          repeat' (first | (refine wpC_rdp rfl rfl (fun K hK => ?_); go_simp; (try go_bits)) | (refine wpC_rdg rfl rfl rfl (fun K hK => ?_); go_simp; (try go_bits)) | (refine hK _ ?_; clear hK K))
          refine wpC_wrp rfl rfl (fun R hR => ?_)
          go_wp2
          refine hR _ _ ?_ ?_
          · repeat (first | refine obl_cons rfl rfl (by go_simp <;> first | exact IntWalk.i64_in _ (by omega) | rfl) ?_ | refine obl_consg rfl rfl rfl (by go_simp) (by go_simp <;> first | exact IntWalk.i64_in _ (by omega) | rfl) ?_ | refine obl_skip rfl rfl rfl (by go_simp) (by go_simp) ?_)
            exact obl_nil
          clear hR R
          replace hS := hS.alloc [.int .i64 x.1.e] 2
          simp only [setCell_size, drew_size] at hS
          have hb2 := hS.blk
          replace hS := hS.rot
          refine wpC_wrp rfl rfl (fun R hR => ?_)
          refine wpList_append_new rfl _ _ 23 rfl 2 _ 1 8 Try.underlying23 info2 rfl (by decide) _ _ _ _ rfl hS _ [.int .i64 x.1.e] rfl rfl hb2 (by simp [Value.oneCell']) (by omega) (by omega) ?_
          clear hS hb2 hcc hff c0 c1 c2 hpl hb
          intro u1 w1 hS
          replace hS := hS.rot.right
          obtain ⟨A1, d1, rfl⟩ := row_shape hS
          rw [T1.out] at hS
          have hcc := hS.b3.cell
          have hff := hS.b3.frozen
          obtain ⟨c0, c1, c2⟩ := (r.below (sz := 3) (fun _ => rfl) hS.right.right.right.right.right.below0).en hx1.out
          have hpl := hS.b3.lt
          have hb := World.block_lt_of_cell? _ _ c0
          simp only [] at hb
          go_wp2
          refine hR _ _ ?_ ?_
          · exact obl_nil
          clear hR R
          repeat' (first | (refine wpC_rdp rfl rfl (fun K hK => ?_); go_simp; (try go_bits)) | (refine wpC_rdg rfl rfl rfl (fun K hK => ?_); go_simp; (try go_bits)) | (refine hK _ ?_; clear hK K))
          refine wpC_wrp rfl rfl (fun R hR => ?_)
          go_wp2
          refine hR _ _ ?_ ?_
          · exact obl_nil
          clear hR R
          replace hS := (hS.b3).set 2 (.slice A1 (i + 1) d1)
          simp only [List.set_cons_zero, List.set_cons_succ] at hS
          replace hS := hS.of_eq (B := row (.slice A2 i d2) 2 1 i L2 * (row (.slice A3 i d3) 2 1 i L3 * (row (.slice A1 (i + 1) d1) 2 1 (i + 1) M1 * (pt p [.bool false, .int .i64 lo, .slice A1 (i + 1) d1, .slice A2 i d2, .slice A3 i d3] 43 * (pt rr [.bool false, .int .i64 0, .slice none 0 0, .slice none 0 0, .slice none 0 0] 43 * Old w))))) (by ac_rfl)
          refine wpC_fin ?_
          go_wp2
          replace hS := hS.drew
          refine wp_region_ct (.rd 0 (.rd 1 (.rd 2 (.rd 3 (.rd 4 (.rd 5 (.rd 6 (.wr 7 [0, 1] (.wr 8 [] (.rd 9 (.wr 10 [] .fin .stop)) .stop) .stop)))))))) 75 mixed (by kernel_rfl) (Nat.le_refl _) (fun c a a' w e h => ⟨e ▸ h.1, h.2⟩) ?_
          repeat' (first | (refine wpC_rdp rfl rfl (fun K hK => ?_); go_simp; (try go_bits)) | (refine wpC_rdg rfl rfl rfl (fun K hK => ?_); go_simp; (try go_bits)) | (refine hK _ ?_; clear hK K))
          refine wpC_wrp rfl rfl (fun R hR => ?_)
          go_wp2
          refine hR _ _ ?_ ?_
          · repeat (first | refine obl_cons rfl rfl (by go_simp <;> first | exact IntWalk.i64_in _ (by omega) | rfl) ?_ | refine obl_consg rfl rfl rfl (by go_simp) (by go_simp <;> first | exact IntWalk.i64_in _ (by omega) | rfl) ?_ | refine obl_skip rfl rfl rfl (by go_simp) (by go_simp) ?_)
            exact obl_nil
          clear hR R
          replace hS := hS.alloc [.int .i64 x.1.h] 2
          simp only [setCell_size, drew_size] at hS
          have hb2 := hS.blk
          replace hS := hS.rot
          refine wpC_wrp rfl rfl (fun R hR => ?_)
          refine wpList_append_new rfl _ _ 23 rfl 2 _ 1 8 Try.underlying23 info2 rfl (by decide) _ _ _ _ rfl hS _ [.int .i64 x.1.h] rfl rfl hb2 (by simp [Value.oneCell']) (by omega) (by omega) ?_
          clear hS hb2 hcc hff c0 c1 c2 hpl hb
          intro u2 w2 hS
          replace hS := hS.rot.right
          obtain ⟨A2, d2, rfl⟩ := row_shape hS
          rw [T2.out] at hS
          have hcc := hS.b3.cell
          have hff := hS.b3.frozen
          obtain ⟨c0, c1, c2⟩ := (r.below (sz := 3) (fun _ => rfl) hS.right.right.right.right.right.below0).en hx1.out
          have hpl := hS.b3.lt
          have hb := World.block_lt_of_cell? _ _ c0
          simp only [] at hb
          go_wp2
          refine hR _ _ ?_ ?_
          · exact obl_nil
          clear hR R
          repeat' (first | (refine wpC_rdp rfl rfl (fun K hK => ?_); go_simp; (try go_bits)) | (refine wpC_rdg rfl rfl rfl (fun K hK => ?_); go_simp; (try go_bits)) | (refine hK _ ?_; clear hK K))
          refine wpC_wrp rfl rfl (fun R hR => ?_)
          go_wp2
          refine hR _ _ ?_ ?_
          · exact obl_nil
          clear hR R
          replace hS := (hS.b3).set 3 (.slice A2 (i + 1) d2)
          simp only [List.set_cons_zero, List.set_cons_succ] at hS
          replace hS := hS.of_eq (B := row (.slice A3 i d3) 2 1 i L3 * (row (.slice A1 (i + 1) d1) 2 1 (i + 1) M1 * (row (.slice A2 (i + 1) d2) 2 1 (i + 1) M2 * (pt p [.bool false, .int .i64 lo, .slice A1 (i + 1) d1, .slice A2 (i + 1) d2, .slice A3 i d3] 43 * (pt rr [.bool false, .int .i64 0, .slice none 0 0, .slice none 0 0, .slice none 0 0] 43 * Old w))))) (by ac_rfl)
          refine wpC_fin ?_
          rw [show x.2 = 0 from HZ.out] at T3
          go_wp2_with (at_builtin; go_loud (refine wpList_append_new rfl _ _ 23 rfl 2 _ 1 8 Try.underlying23 info2 rfl (by decide) _ _ _ _ rfl (hS.alloc_any _) _ [.int .i64 0] rfl rfl (heap_alloc_at _ _ _ (by simp)) (by simp [Value.oneCell']) (by omega) (by omega) ?_); clear hcc hff c0 c1 c2 hpl hb; intro u3 w3 hS3; obtain ⟨B3, k3, rfl⟩ := row_shape hS3; rw [T3.out] at hS3; have hcc := hS3.b3.cell; have hff := hS3.b3.frozen; have hpl := hS3.b3.lt)
          go_roundg (gk - 1)
          case measure => have := HG.out; omega
          case rel =>
            have hS4 := hS3.b3.set 4 (.slice B3 (i + 1) k3)
            simp only [List.set_cons_zero, List.set_cons_succ] at hS4
            exact ⟨i + 1, .slice A1 (i + 1) d1, .slice A2 (i + 1) d2, .slice B3 (i + 1) k3, by have := HG.out; omega, by go_num, by rw [HM1.out, HM2.out, HM3.out]; exact hS4.of_eq (by ac_rfl)⟩
end Go.Proofs.Ytpiobilidhmedaa
