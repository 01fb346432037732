/-
  What samararef07.List answers of 512 pages.
-/
import Derived.Test.YtpiobilidhmedaaC1
namespace Go.Proofs.Ytpiobilidhmedaa
open Go.RowKit Go.Sl Go.Ct
set_option linter.unusedVariables false
set_option linter.unusedSimpArgs false

theorem flat_len {α : Type} {enc : α → List Value} {sz : Nat} (h : ∀ x, (enc x).length = sz) (l : List α) : (l.flatMap enc).length = l.length * sz := by
  induction l with
  | nil => simp
  | cons x l ih => rw [List.flatMap_cons, List.length_append, ih, h, List.length_cons, Nat.succ_mul]; omega
theorem flat_get {α : Type} {enc : α → List Value} {sz : Nat} (h : ∀ x, (enc x).length = sz) (l : List α) (i j : Nat) (x : α) (hx : l[i]? = some x) (hj : j < sz) :
    (l.flatMap enc)[i * sz + j]? = (enc x)[j]? := by
  induction l generalizing i with
  | nil => cases hx
  | cons y l ih =>
    rw [List.flatMap_cons]
    cases i with
    | zero =>
      simp at hx; subst hx
      rw [Nat.zero_mul, Nat.zero_add, List.getElem?_append_left (by rw [h]; exact hj)]
    | succ i =>
      rw [List.getElem?_append_right (by rw [h, Nat.succ_mul]; omega), h, show (i + 1) * sz + j - sz = i * sz + j by rw [Nat.succ_mul]; omega]
      exact ih i (by simpa using hx)
theorem flat_set {α : Type} {enc : α → List Value} {sz : Nat} (h : ∀ x, (enc x).length = sz) (l : List α) (i j : Nat) (x y : α) (v : Value) (hx : l[i]? = some x) (hj : j < sz) (hy : enc y = (enc x).set j v) :
    (l.flatMap enc).set (i * sz + j) v = (l.set i y).flatMap enc := by
  induction l generalizing i with
  | nil => cases hx
  | cons z l ih =>
    cases i with
    | zero =>
      simp at hx; subst hx
      rw [List.flatMap_cons, List.set_cons_zero, List.flatMap_cons, hy, Nat.zero_mul, Nat.zero_add, List.set_append_left _ _ (by rw [h]; exact hj)]
    | succ i =>
      rw [List.flatMap_cons, List.set_cons_succ, List.flatMap_cons, List.set_append_right _ _ (by rw [h, Nat.succ_mul]; omega), h, show (i + 1) * sz + j - sz = i * sz + j by rw [Nat.succ_mul]; omega]
      rw [ih i (by simpa using hx)]

def ca (l : List Ar) : List Value := l.flatMap Ar.cells
def RowA (W w : World) (F : As) (v : Value) (l : List Ar) : Prop := Sat W w (row v 130 6 l.length (ca l) * F)
/-- The area of one page. -/
def pgAr (f : Nat → Pg) (k : Nat) : Ar := ⟨4096 * (k : Int), 4096 * ((k : Int) + 1), (f k).a.p, (f k).a.sh, (f k).a.b, (f k).a.o⟩
/-- Does a page go on with the last area? -/
def goesOn (f : Nat → Pg) (y : Ar) (k : Nat) : Bool := y.e == 4096 * (k : Int) && (f (k - 1)).a.after (f k).a
/-- The list of the pages below one. -/
def lst (f : Nat → Pg) : Nat → List Ar
  | 0 => []
  | k + 1 => if 16 ≤ k ∧ (f k).m = true then
      match (lst f k)[(lst f k).length - 1]? with
      | some y => if goesOn f y k then (lst f k).set ((lst f k).length - 1) { y with e := 4096 * ((k : Int) + 1) } else lst f k ++ [pgAr f k]
      | none => lst f k ++ [pgAr f k]
    else lst f k
theorem lst_low (f : Nat → Pg) (k : Nat) (h : k ≤ 16) : lst f k = [] := by
  induction k with
  | zero => rfl
  | succ k ih => rw [lst, if_neg (by omega), ih (by omega)]
theorem lst_len (f : Nat → Pg) (k : Nat) : (lst f k).length ≤ k := by
  induction k with
  | zero => simp [lst]
  | succ k ih =>
    rw [lst]
    split
    · split
      · split <;> simp <;> omega
      · simp; omega
    · omega
theorem lst_no {f : Nat → Pg} {k : Nat} (h : (f k).m = false) : lst f (k + 1) = lst f k := by rw [lst, if_neg (by simp [h])]
theorem lst_new {f : Nat → Pg} {k : Nat} (h16 : 16 ≤ k) (h : (f k).m = true) (hy : ∀ y, (lst f k)[(lst f k).length - 1]? = some y → goesOn f y k = false) : lst f (k + 1) = lst f k ++ [pgAr f k] := by
  rw [lst, if_pos ⟨h16, h⟩]
  split
  · rename_i y e; rw [hy y e]; rfl
  · rfl
theorem lst_on {f : Nat → Pg} {k : Nat} (h16 : 16 ≤ k) (h : (f k).m = true) {y : Ar} (hy : (lst f k)[(lst f k).length - 1]? = some y) (hg : goesOn f y k = true) :
    lst f (k + 1) = (lst f k).set ((lst f k).length - 1) { y with e := 4096 * ((k : Int) + 1) } := by
  rw [lst, if_pos ⟨h16, h⟩, hy]
  simp [hg]
def ListPost (f : Nat → Pg) (w : World) (e : Ending) (w' : World) : Prop := ∃ v, e = .returned v ∧ RowA w w' (Old w) v (lst f 512)
def PgOk (f : Nat → Pg) : Prop := ∀ k, 0 ≤ (f k).a.o ∧ (f k).a.o ≤ 1099511627776

set_option maxRecDepth 100000 in
set_option maxHeartbeats 8000000 in
theorem list_calls (f : Nat → Pg) (w : World) (hf : PgOk f) : Calls Try.prog 96 #[.agg (pgs f).toArray] w (ListPost f w) := by
  have hS := Sat.refl w
  have HF := Lib.hid hf
  clear hf
  go_enter Try.func96, Try.ntmps96
  go_wp2_with (refine wpList_box_sat rfl 177 _ rfl (pgs f) rfl _ hS ?_; intro w1 hS1; clear hS)
  generalize w.heap.size = b1 at *
  go_loopg [3, 4] 496 (fun gk v3 v4 w' => ∃ k : Nat, k + gk = 512 ∧ 16 ≤ k ∧ v4 = .int .i64 k ∧ Sat w w' (row v3 130 6 (lst f k).length (ca (lst f k)) * (pt b1 (pgs f) 177 * Old w)))
  case atStart =>
    refine ⟨16, by omega, by omega, rfl, ?_⟩
    rw [lst_low f 16 (by omega)]
    exact hS1.row_start 130 6
  case round =>
    clear hS1
    obtain ⟨k, hgk, h16, rfl, hR⟩ := hrel
    have HG := Lib.hid hgk
    have hk : k ≤ 512 := by omega
    clear hgk
    by_cases hlt : k < 512
    case neg =>
      have : k = 512 := by omega
      subst this
      go_wp2
      go_ret
      exact ⟨_, rfl, hR.rot.right⟩
    case pos =>
    have hlen := lst_len f k
    have hno := @lst_no f k
    have hnew := @lst_new f k h16
    have hon := @lst_on f k h16
    generalize lst f k = out at *
    have HNO := Lib.hid hno
    have HNEW := Lib.hid hnew
    have HON := Lib.hid hon
    clear hno hnew hon
    have hb := hR.rot.cell
    have hget := fun j (hj : j < 5) => (hb (k * 5 + j)).trans (pgs_get f k j hlt hj)
    have p0 := hget 0 (by omega)
    have p1 := hget 1 (by omega)
    have p2 := hget 2 (by omega)
    have p3 := hget 3 (by omega)
    have p4 := hget 4 (by omega)
    simp only [Pg.cells, Nat.add_zero, List.getElem?_cons_zero, List.getElem?_cons_succ] at p0 p1 p2 p3 p4
    clear hget
    obtain ⟨bo, cap, rfl⟩ := row_shape hR
    cases hm : (f k).m with
    | false =>
      rw [hm] at p0
      clear hb
      have HM := Lib.hid hm
      clear hm
      go_wp2
      go_roundg (gk - 1)
      case measure => have := HG.out; omega
      case rel =>
        refine ⟨k + 1, by have := HG.out; omega, by omega, by go_num, ?_⟩
        rw [HNO.out HM.out]; exact hR
    | true =>
      rw [hm] at p0
      have HM := Lib.hid hm
      clear hm
      clear hb
      rcases Nat.eq_zero_or_pos out.length with h0 | h0
      · have hout : out = [] := List.length_eq_zero_iff.1 h0
        subst hout
        have hE := HNEW.out HM.out (fun y hy => by cases hy)
        have HE := Lib.hid hE
        clear hE
        go_wp2
        refine wp_region_ct (.rd 0 (.rd 1 (.rd 2 (.rd 3 (.rd 4 (.rd 5 (.rd 6 (.rd 7 (.rd 8 (.rd 9 (.rd 10 (.rd 11 (.rd 12 (.rd 13 (.rd 14 (.rd 15 (.rd 16 (.rd 17 (.rd 18 (.rd 19 (.rd 20 (.rd 21 (.rd 22 (.wr 23 [] (.rd 24 .fin) .stop)))))))))))))))))))))))) 73 mixed (by kernel_rfl) (Nat.le_refl _) (fun c a a' w e h => ⟨e ▸ h.1, h.2⟩) ?_
        repeat' (first | (refine wpC_rdp rfl rfl (fun K hK => ?_); go_simp; (try go_bits)) | (refine wpC_rdg rfl rfl rfl (fun K hK => ?_); go_simp; (try go_bits)) | (refine hK _ ?_; clear hK K))
        refine wpC_wrs rfl rfl rfl (by go_simp) obl_nil ?_
        repeat' (first | (refine wpC_rdp rfl rfl (fun K hK => ?_); go_simp; (try go_bits)) | (refine wpC_rdg rfl rfl rfl (fun K hK => ?_); go_simp; (try go_bits)) | (refine hK _ ?_; clear hK K))
        refine wpC_fin ?_
        go_wp2_with (at_builtin; go_loud (refine wpList_append_new rfl _ _ 22 rfl 130 _ 6 48 Try.underlying22 info130 rfl (by decide) _ _ _ _ rfl ((hR.drew.alloc_any _).alloc_any _) _ (Ar.cells (pgAr f k)) rfl rfl (heap_alloc_new1 _ _ _) (by simp [Ar.cells, Value.oneCell']) (by omega) (by omega) ?_); intro v' w4 hS4)
        go_roundg (gk - 1)
        case measure => have := HG.out; omega
        case rel =>
          refine ⟨k + 1, by have := HG.out; omega, by omega, by go_num, ?_⟩
          rw [HE.out]
          simpa [ca] using hS4
      · obtain ⟨y, hy⟩ : ∃ y, out[out.length - 1]? = some y := ⟨out[out.length - 1], by rw [List.getElem?_eq_getElem]⟩
        have h1 : (1 : Int) ≤ (out.length : Int) := by omega
        have h2 : (out.length : Int) - 1 < (out.length : Int) := by omega
        have h3 : (0 : Int) < (out.length : Int) := by omega
        rcases hR.row_open with ⟨_, h, _⟩ | ⟨g, cap', h, _, _, _, hc, hfz⟩
        · omega
        cases h
        have hget := fun j (hj : j < 6) => (hc ((out.length - 1) * 6 + j) (by omega)).trans (flat_get (enc := Ar.cells) (fun _ => rfl) out (out.length - 1) j y hy hj)
        have c1 := hget 1 (by omega)
        simp only [Ar.cells, List.getElem?_cons_zero, List.getElem?_cons_succ] at c1
        clear hget hc
        have HY := Lib.hid hy
        clear hy
        by_cases hye : y.e = 4096 * (k : Int)
        · have hye2 := ibeq hye
          have HYE := Lib.hid hye
          clear hye
          have hb := hR.rot.cell
          have hget := fun j (hj : j < 5) => (hb ((k - 1) * 5 + j)).trans (pgs_get f (k - 1) j (by omega) hj)
          have q1 := hget 1 (by omega)
          have q2 := hget 2 (by omega)
          have q3 := hget 3 (by omega)
          have q4 := hget 4 (by omega)
          simp only [Pg.cells, Nat.add_zero, List.getElem?_cons_zero, List.getElem?_cons_succ] at q1 q2 q3 q4
          clear hget hb
          have hk1 : (1 : Int) ≤ (k : Int) := by omega
          have hk2 : (k : Int) - 1 < 512 := by omega
          have ho1 := (HF.out (k - 1)).1
          have ho2 : (f (k - 1)).a.o ≤ 2199023255552 := by have := (HF.out (k - 1)).2; omega
          have hgo : goesOn f y k = (f (k - 1)).a.after (f k).a := by unfold goesOn; rw [hye2]; rfl
          have HGO := Lib.hid hgo
          clear hgo
          go_wp2
          refine wp_region_ct (.rd 0 (.rd 1 (.rd 2 (.rd 3 (.rd 4 (.rd 5 (.rd 6 (.rd 7 (.rd 8 (.rd 9 (.rd 10 (.rd 11 (.rd 12 (.rd 13 (.rd 14 (.rd 15 (.rd 16 (.rd 17 (.rd 18 (.rd 19 (.rd 20 (.rd 21 (.rd 22 (.wr 23 [] (.rd 24 .fin) .stop)))))))))))))))))))))))) 73 mixed (by kernel_rfl) (Nat.le_refl _) (fun c a a' w e h => ⟨e ▸ h.1, h.2⟩) ?_
          repeat' (first | (refine wpC_rdp rfl rfl (fun K hK => ?_); go_simp; (try go_bits)) | (refine wpC_rdg rfl rfl rfl (fun K hK => ?_); go_simp; (try go_bits)) | (refine hK _ ?_; clear hK K))
          refine wpC_wrg rfl rfl rfl (by go_simp) (fun R hRR => ?_)
          go_wp2_with (go_at_call 102; (with_reducible refine (after_calls (f (k - 1)).a (f k).a _ ho1 ho2).mono ?_); rintro e w3 ⟨rfl, hk3⟩)
          have hS3 := hR.drew.call0 hk3
          clear hk3 p0 p1 p2 p3 p4 q1 q2 q3 q4 c1 hfz
          rw [← HGO.out]
          generalize hgv : goesOn f y k = gv at *
          have HGV := Lib.hid hgv
          clear hgv
          have hb := hS3.rot.cell
          have hget := fun j (hj : j < 5) => (hb (k * 5 + j)).trans (pgs_get f k j hlt hj)
          have p1 := hget 1 (by omega)
          have p2 := hget 2 (by omega)
          have p3 := hget 3 (by omega)
          have p4 := hget 4 (by omega)
          simp only [Pg.cells, Nat.add_zero, List.getElem?_cons_zero, List.getElem?_cons_succ] at p1 p2 p3 p4
          clear hget hb
          refine hRR _ _ obl_nil ?_
          clear hRR R
          repeat' (first | (refine wpC_rdp rfl rfl (fun K hK => ?_); go_simp; (try go_bits)) | (refine wpC_rdg rfl rfl rfl (fun K hK => ?_); go_simp; (try go_bits)) | (refine hK _ ?_; clear hK K))
          refine wpC_fin ?_
          cases gv with
          | false =>
            have hE := HNEW.out HM.out (fun z hz => by rw [HY.out] at hz; cases hz; exact HGV.out)
            have HE := Lib.hid hE
            clear hE
            go_wp2_with (at_builtin; go_loud (refine wpList_append_new rfl _ _ 22 rfl 130 _ 6 48 Try.underlying22 info130 rfl (by decide) _ _ _ _ rfl ((hS3.alloc_any _).alloc_any _) _ (Ar.cells (pgAr f k)) rfl rfl (heap_alloc_new1 _ _ _) (by simp [Ar.cells, Value.oneCell']) (by omega) (by omega) ?_); intro v' w4 hS4)
            go_roundg (gk - 1)
            case measure => have := HG.out; omega
            case rel =>
              refine ⟨k + 1, by have := HG.out; omega, by omega, by go_num, ?_⟩
              rw [HE.out]
              simpa [ca] using hS4
          | true =>
            have hE := HON.out HM.out HY.out HGV.out
            have HE := Lib.hid hE
            clear hE
            rcases hS3.row_open with ⟨_, h, _⟩ | ⟨g', cap', h, _, _, _, hc, hfz⟩
            · omega
            cases h
            have c1 := (hc ((out.length - 1) * 6 + 1) (by omega)).trans (flat_get (enc := Ar.cells) (fun _ => rfl) out (out.length - 1) 1 y HY.out (by omega))
            simp only [Ar.cells, List.getElem?_cons_zero, List.getElem?_cons_succ] at c1
            have f1 := hfz ((out.length - 1) * 6 + 1)
            clear hc hfz
            go_wp2
            go_roundg (gk - 1)
            case measure => have := HG.out; omega
            case rel =>
              refine ⟨k + 1, by have := HG.out; omega, by omega, by go_num, ?_⟩
              rw [HE.out]
              have := hS3.row_set ((out.length - 1) * 6 + 1) (.int .i64 (4096 * ((k : Int) + 1)))
              rw [ca, flat_set (enc := Ar.cells) (sz := 6) (fun _ => rfl) out (out.length - 1) 1 y { y with e := 4096 * ((k : Int) + 1) } _ HY.out (by omega) rfl] at this
              simpa [ca] using this
        · have hye2 : (y.e == 4096 * (k : Int)) = false := by rw [beq_eq_false_iff_ne]; exact hye
          clear hye
          have hE := HNEW.out HM.out (fun z hz => by rw [HY.out] at hz; cases hz; unfold goesOn; rw [hye2]; rfl)
          have HE := Lib.hid hE
          clear hE
          go_wp2
          refine wp_region_ct (.rd 0 (.rd 1 (.rd 2 (.rd 3 (.rd 4 (.rd 5 (.rd 6 (.rd 7 (.rd 8 (.rd 9 (.rd 10 (.rd 11 (.rd 12 (.rd 13 (.rd 14 (.rd 15 (.rd 16 (.rd 17 (.rd 18 (.rd 19 (.rd 20 (.rd 21 (.rd 22 (.wr 23 [] (.rd 24 .fin) .stop)))))))))))))))))))))))) 73 mixed (by kernel_rfl) (Nat.le_refl _) (fun c a a' w e h => ⟨e ▸ h.1, h.2⟩) ?_
          repeat' (first | (refine wpC_rdp rfl rfl (fun K hK => ?_); go_simp; (try go_bits)) | (refine wpC_rdg rfl rfl rfl (fun K hK => ?_); go_simp; (try go_bits)) | (refine hK _ ?_; clear hK K))
          refine wpC_wrs rfl rfl rfl (by go_simp) obl_nil ?_
          repeat' (first | (refine wpC_rdp rfl rfl (fun K hK => ?_); go_simp; (try go_bits)) | (refine wpC_rdg rfl rfl rfl (fun K hK => ?_); go_simp; (try go_bits)) | (refine hK _ ?_; clear hK K))
          refine wpC_fin ?_
          go_wp2_with (at_builtin; go_loud (refine wpList_append_new rfl _ _ 22 rfl 130 _ 6 48 Try.underlying22 info130 rfl (by decide) _ _ _ _ rfl ((hR.drew.alloc_any _).alloc_any _) _ (Ar.cells (pgAr f k)) rfl rfl (heap_alloc_new1 _ _ _) (by simp [Ar.cells, Value.oneCell']) (by omega) (by omega) ?_); intro v' w4 hS4)
          go_roundg (gk - 1)
          case measure => have := HG.out; omega
          case rel =>
            refine ⟨k + 1, by have := HG.out; omega, by omega, by go_num, ?_⟩
            rw [HE.out]
            simpa [ca] using hS4
end Go.Proofs.Ytpiobilidhmedaa
