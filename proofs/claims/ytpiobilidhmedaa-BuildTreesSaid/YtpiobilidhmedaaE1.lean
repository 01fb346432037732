/-
  What build.Entries and samararef18.Entries, and samararef18.May, answer.
-/
import Derived.Test.YtpiobilidhmedaaA5
import Derived.Test.YtpiobilidhmedaaB2
namespace Go.Proofs.Ytpiobilidhmedaa
open Go.RowKit Go.Sl Go.Ct
set_option linter.unusedVariables false
set_option linter.unusedSimpArgs false

/-- An entry. -/
structure En where
  lo : Int
  e : Int
  h : Int
def En.cells (x : En) : List Value := [.int .i64 x.lo, .int .i64 x.e, .int .i64 x.h]
def ce (l : List En) : List Value := l.flatMap En.cells
theorem ce_snoc (l : List En) (x : En) : ce (l ++ [x]) = ce l ++ x.cells := by simp [ce]
def RowE (W w : World) (F : As) (v : Value) (l : List En) : Prop := Sat W w (row v 31 3 l.length (ce l) * F)

/-- The entries of the first areas, and where the last one ends. -/
def entS (A : List Ar) (H : List Int) : Nat → List En × Int
  | 0 => ([], 65536)
  | i + 1 => match A[i]?, H[i]? with
    | some x, some h => ((entS A H i).1 ++ (if (entS A H i).2 < x.s then [⟨(entS A H i).2, x.s, 0⟩] else []) ++ [⟨x.s, x.e, h⟩], x.e)
    | _, _ => entS A H i
theorem entS_succ {A : List Ar} {H : List Int} {i : Nat} {x : Ar} {h : Int} (hx : A[i]? = some x) (hh : H[i]? = some h) :
    entS A H (i + 1) = ((entS A H i).1 ++ (if (entS A H i).2 < x.s then [⟨(entS A H i).2, x.s, 0⟩] else []) ++ [⟨x.s, x.e, h⟩], x.e) := by
  simp [entS, hx, hh]
theorem entS_len (A : List Ar) (H : List Int) (i : Nat) : (entS A H i).1.length ≤ 2 * i := by
  induction i with
  | zero => simp [entS]
  | succ i ih =>
    rw [entS]
    split
    · simp only [List.length_append, List.length_singleton]
      split <;> simp <;> omega
    · omega
def ents (A : List Ar) (H : List Int) : List En :=
  (entS A H A.length).1 ++ if (entS A H A.length).2 < 2097152 then [⟨(entS A H A.length).2, 2097152, 0⟩] else []
def may (A : List Ar) (H : List Int) : Bool := right A && A.length == H.length && aboveB H
def EntPost (A : List Ar) (H : List Int) (w : World) (e : Ending) (w' : World) : Prop := ∃ v, e = .returned v ∧ RowE w w' (Old w) v (if may A H then ents A H else [])
def EntsPost (A : List Ar) (H : List Int) (w : World) (e : Ending) (w' : World) : Prop := ∃ v, e = .returned v ∧ RowE w w' (Old w) v (ents A H)

theorem Rd.num {w : World} {b o : Nat} {l : List Int} (h : Rd encI 1 w (some ⟨b, o, none⟩) l) {k : Nat} {x : Int} (hx : l[k]? = some x) :
    w.cell? ⟨b, o + k, none⟩ = some (.int .i64 x) := by
  obtain ⟨b', o', hA, hc⟩ := h.at (List.getElem?_eq_some_iff.1 hx).1
  cases hA
  have := hc k x hx 0 (by omega)
  simpa [encI] using this

set_option maxRecDepth 100000 in
set_option maxHeartbeats 4000000 in
theorem may_calls (Aa Ha : Option Addr) (ca ch : Nat) (A : List Ar) (H : List Int) (w : World) (hA : Rd Ar.cells 6 w Aa A) (hH : Rd encI 1 w Ha H) (la : A.length ≤ 1000000) (lh : H.length ≤ 1000000) :
    Calls Try.prog 19 #[.slice Aa A.length ca, .slice Ha H.length ch] w (fun e w' => e = .returned (.bool (may A H)) ∧ Sat w w' (Old w)) := by
  have hS := Sat.refl w
  have hm : ∀ b, right A = b → may A H = (b && A.length == H.length && aboveB H) := fun b h => by unfold may; rw [h]
  have HM := Lib.hid hm
  clear hm
  have hl2 : (A.length == H.length) = decide (A.length = H.length) := by rw [Bool.eq_iff_iff]; simp
  have HL := Lib.hid hl2
  clear hl2
  generalize hr : right A = r at *
  have HR := Lib.hid hr
  clear hr
  cases r with
  | false =>
    go_enter Try.func19, Try.ntmps19
    go_wp2_with (first
      | (go_at_call 70; (with_reducible refine (rright_calls Aa ca A w hA la).mono ?_); rintro e w1 ⟨rfl, hk⟩; rw [HR.out]; have hS1 := hS.call0 hk))
    go_ret
    exact ⟨ret_bool (by rw [HM.out _ rfl]; rfl), hS1⟩
  | true =>
    by_cases he : A.length = H.length
    · have he' : ((A.length : Int) == (H.length : Int)) = true := ibeq (by omega)
      have HE := Lib.hid he
      clear he
      go_enter Try.func19, Try.ntmps19
      go_wp2_with (first
        | (go_at_call 70; (with_reducible refine (rright_calls Aa ca A w hA la).mono ?_); rintro e w1 ⟨rfl, hk⟩; rw [HR.out]; have hS1 := hS.call0 hk)
        | (go_at_call 71; (with_reducible refine (rabove_calls Ha ch H _ (hH.below (sz := 1) (fun _ => rfl) hS1.below0) lh).mono ?_); rintro e w2 ⟨rfl, rfl⟩))
      go_ret
      exact ⟨ret_bool (by rw [HM.out _ rfl, HL.out]; simp [HE.out]), hS1⟩
    · have he' : ((A.length : Int) == (H.length : Int)) = false := by rw [beq_eq_false_iff_ne]; omega
      go_enter Try.func19, Try.ntmps19
      go_wp2_with (first
        | (go_at_call 70; (with_reducible refine (rright_calls Aa ca A w hA la).mono ?_); rintro e w1 ⟨rfl, hk⟩; rw [HR.out]; have hS1 := hS.call0 hk))
      go_ret
      exact ⟨ret_bool (by rw [HM.out _ rfl, HL.out]; simp [he]), hS1⟩

set_option maxRecDepth 100000 in
set_option maxHeartbeats 4000000 in
theorem entries_no (Aa Ha : Option Addr) (ca ch : Nat) (A : List Ar) (H : List Int) (w : World) (hA : Rd Ar.cells 6 w Aa A) (hH : Rd encI 1 w Ha H) (la : A.length ≤ 1000000) (lh : H.length ≤ 1000000)
    (hm : may A H = false) : Calls Try.prog 18 #[.slice Aa A.length ca, .slice Ha H.length ch] w (EntPost A H w) := by
  have hS := Sat.refl w
  have hpost : ∀ w', Sat w w' (Old w) → EntPost A H w (.returned (.slice none 0 0)) w' := fun w' h => ⟨_, rfl, by rw [hm]; exact h.row_start 31 3⟩
  have HP := Lib.hid hpost
  clear hpost
  unfold may at hm
  generalize hr : right A = r at *
  have HR := Lib.hid hr
  clear hr
  cases r with
  | false =>
    clear hm
    go_enter Try.func18, Try.ntmps18
    go_wp2_with (first
      | (go_at_call 68; (with_reducible refine (right_calls Aa ca A w hA la).mono ?_); rintro e w1 ⟨rfl, hk⟩; rw [HR.out]; have hS1 := hS.call0 hk))
    go_ret
    exact HP.out _ hS1
  | true =>
    by_cases he : A.length = H.length
    · have hb : aboveB H = false := by simpa [he] using hm
      have he' : ((H.length : Int) != (A.length : Int)) = false := by rw [bne_eq_false_iff_eq]; omega
      have HB := Lib.hid hb
      clear he hb hm
      go_enter Try.func18, Try.ntmps18
      go_wp2_with (first
        | (go_at_call 68; (with_reducible refine (right_calls Aa ca A w hA la).mono ?_); rintro e w1 ⟨rfl, hk⟩; rw [HR.out]; have hS1 := hS.call0 hk)
        | (go_at_call 69; (with_reducible refine (above_calls Ha ch H _ (hH.below (sz := 1) (fun _ => rfl) hS1.below0) lh).mono ?_); rintro e w2 ⟨rfl, rfl⟩; rw [HB.out]))
      go_ret
      exact HP.out _ hS1
    · have he' : ((H.length : Int) != (A.length : Int)) = true := by rw [bne_iff_ne]; omega
      clear hm
      go_enter Try.func18, Try.ntmps18
      go_wp2_with (first
        | (go_at_call 68; (with_reducible refine (right_calls Aa ca A w hA la).mono ?_); rintro e w1 ⟨rfl, hk⟩; rw [HR.out]; have hS1 := hS.call0 hk))
      go_ret
      exact HP.out _ hS1

theorem heap_alloc_new1 (w : World) (o o' : Obj) : ((w.alloc o).alloc o').heap[w.heap.size + 1]? = some o' := by
  have := heap_alloc_new (w.alloc o) o'
  rwa [show (w.alloc o).heap.size = w.heap.size + 1 by simp] at this
theorem RowE.snoc_eq (l : List En) (x : En) : (l ++ [x]).length = l.length + 1 := by simp

theorem entS_bound {A : List Ar} {H : List Int} {n i : Nat} (hn : n ≤ 1000000) (hi : i ≤ n) : (entS A H i).1.length ≤ 2000000 := by
  have := entS_len A H i; omega

set_option maxRecDepth 100000 in
set_option maxHeartbeats 8000000 in
theorem entries_yes (Aa Ha : Option Addr) (ca ch : Nat) (A : List Ar) (H : List Int) (w : World) (hA : Rd Ar.cells 6 w Aa A) (hH : Rd encI 1 w Ha H) (la : A.length ≤ 1000000) (lh : H.length ≤ 1000000)
    (hm : may A H = true) : Calls Try.prog 18 #[.slice Aa A.length ca, .slice Ha H.length ch] w (EntPost A H w) := by
  have hS := Sat.refl w
  have hm0 := hm
  unfold may at hm
  simp only [Bool.and_eq_true, beq_iff_eq] at hm
  obtain ⟨⟨hr, he⟩, hb⟩ := hm
  have he' : ((H.length : Int) != (A.length : Int)) = false := by rw [bne_eq_false_iff_eq]; omega
  have HR := Lib.hid hr
  have HB := Lib.hid hb
  have HE := Lib.hid he
  have HM := Lib.hid hm0
  clear hr he hb hm0
  go_enter Try.func18, Try.ntmps18
  go_wp2_with (first
    | (go_at_call 68; (with_reducible refine (right_calls Aa ca A w hA la).mono ?_); rintro e w1 ⟨rfl, hk⟩; rw [HR.out]; have hS1 := hS.call0 hk)
    | (go_at_call 69; (with_reducible refine (above_calls Ha ch H _ (hH.below (sz := 1) (fun _ => rfl) hS1.below0) lh).mono ?_); rintro e w2 ⟨rfl, rfl⟩; rw [HB.out]))
  go_loopg [5, 6, 26] A.length (fun gk v5 v6 v26 w' => ∃ i : Nat, i + gk = A.length ∧ v26 = .int .i64 i ∧ v6 = .int .i64 (entS A H i).2 ∧ RowE w w' (Old w) v5 (entS A H i).1)
  case atStart => exact ⟨0, by omega, rfl, rfl, hS1.row_start 31 3⟩
  case round =>
    clear hk hS1 hS
    obtain ⟨i, hgk, rfl, rfl, hRow⟩ := hrel
    have HG := Lib.hid hgk
    have hi : i ≤ A.length := by omega
    clear hgk
    by_cases hlt : i < A.length
    · have hltH : i < H.length := by rw [← HE.out]; exact hlt
      obtain ⟨b, o, rfl⟩ := hA.addr hlt
      obtain ⟨x, hx⟩ : ∃ x, A[i]? = some x := ⟨A[i], by simp [hlt]⟩
      obtain ⟨b2, o2, rfl⟩ := hH.addr (k := i) (by rw [← HE.out]; exact hlt)
      obtain ⟨y, hy⟩ : ∃ x, H[i]? = some x := ⟨H[i]'(by rw [← HE.out]; exact hlt), by simp⟩
      have hbl := hRow.right.below0
      obtain ⟨c0, c1, c2, c3, c4, c5⟩ := (hA.below (sz := 6) (fun _ => rfl) hbl).area hx
      have d0 := (hH.below (sz := 1) (fun _ => rfl) hbl).num hy
      have hsucc := entS_succ hx hy
      have hlen := entS_bound (A := A) (H := H) la hi
      clear hbl
      generalize entS A H i = z at *
      obtain ⟨l, at_⟩ := z
      have HSU := Lib.hid hsucc
      have HX := Lib.hid hx
      have HY := Lib.hid hy
      clear hx hy hsucc
      unfold RowE at hRow
      simp only at hRow hlen HSU ⊢
      have h1 := (hRow.alloc x.cells 130).rot
      by_cases hat : at_ < x.s
      · go_wp2_with (at_builtin; refine wpList_append_new rfl _ _ 27 rfl 31 _ 3 24 Try.underlying27 info31 rfl (by decide) _ _ _ _ rfl (h1.alloc_any _) _ [.int .i64 at_, .int .i64 x.s, .int .i64 0] rfl rfl (heap_alloc_new1 _ _ _) (by simp [Value.oneCell']) (by omega) (by omega) ?_; intro v' w1 hS1; have hd := hS1.right.right.below0; have hcc := hS1.rot.cell; simp only [Ar.cells] at hcc; have hff := hS1.rot.frozen; have d1 := (hH.below (sz := 1) (fun _ => rfl) hd).num HY.out; clear hd c0 c1 c2 c3 c4 c5 d0)
        refine wp_region_ct (.rd 0 (.rd 1 (.rd 2 (.rd 3 (.rd 4 (.rd 5 (.rd 6 (.rd 7 (.rd 8 (.rd 9 (.wr 10 [0] (.wr 11 [] (.wr 12 [] .fin .stop) .stop) .stop))))))))))) 65 mixed (by kernel_rfl) (Nat.le_refl _) (fun c a a' w e h => ⟨e ▸ h.1, h.2⟩) ?_
        repeat' (first | (refine wpC_rdp rfl rfl (fun K hK => ?_); go_simp; (try go_bits)) | (refine wpC_rdg rfl rfl rfl (fun K hK => ?_); go_simp; (try go_bits)) | (refine hK _ ?_; clear hK K))
        refine wpC_wrp rfl rfl (fun R hR => ?_)
        go_wp2
        refine hR _ _ ?_ ?_
        · repeat (first | refine obl_cons rfl rfl (by go_simp <;> first | exact IntWalk.i64_in _ (by omega) | rfl) ?_ | refine obl_consg rfl rfl rfl (by go_simp) (by go_simp <;> first | exact IntWalk.i64_in _ (by omega) | rfl) ?_ | refine obl_skip rfl rfl rfl (by go_simp) (by go_simp) ?_)
          exact obl_nil
        clear hR R
        refine wpC_wrp rfl rfl (fun R hR => ?_)
        refine wpList_append_new rfl _ _ 27 rfl 31 _ 3 24 Try.underlying27 info31 rfl (by decide) _ _ _ _ rfl (hS1.drew.alloc_any _) _ [.int .i64 x.s, .int .i64 x.e, .int .i64 y] rfl rfl (heap_alloc_new _ _) (by simp [Value.oneCell']) (by omega) (by omega) ?_
        intro v2 w2 hS2
        have hc2 := hS2.rot.cell
        simp only [Ar.cells] at hc2
        have hf2 := hS2.rot.frozen
        clear d1 hcc hff hS1
        go_wp2
        refine hR _ _ obl_nil ?_
        clear hR R
        refine wpC_wrp rfl rfl (fun R hR => ?_)
        go_wp2
        refine hR _ _ obl_nil ?_
        clear hR R
        refine wpC_fin ?_
        go_wp2
        go_roundg (gk - 1)
        case measure => have := HG.out; omega
        case rel =>
          refine ⟨i + 1, by have := HG.out; omega, by go_num, by rw [HSU.out], ?_⟩
          rw [HSU.out]
          unfold RowE
          have := hS2.rot.right
          simpa [ce, En.cells, hat] using this
      · have d1 := (hH.below (sz := 1) (fun _ => rfl) h1.right.right.below0).num HY.out
        simp only [Ar.cells] at d1
        go_wp2
        refine wp_region_ct (.rd 0 (.rd 1 (.rd 2 (.rd 3 (.rd 4 (.rd 5 (.rd 6 (.rd 7 (.rd 8 (.rd 9 (.wr 10 [0] (.wr 11 [] (.wr 12 [] .fin .stop) .stop) .stop))))))))))) 65 mixed (by kernel_rfl) (Nat.le_refl _) (fun c a a' w e h => ⟨e ▸ h.1, h.2⟩) ?_
        repeat' (first | (refine wpC_rdp rfl rfl (fun K hK => ?_); go_simp; (try go_bits)) | (refine wpC_rdg rfl rfl rfl (fun K hK => ?_); go_simp; (try go_bits)) | (refine hK _ ?_; clear hK K))
        refine wpC_wrp rfl rfl (fun R hR => ?_)
        go_wp2
        refine hR _ _ ?_ ?_
        · repeat (first | refine obl_cons rfl rfl (by go_simp <;> first | exact IntWalk.i64_in _ (by omega) | rfl) ?_ | refine obl_consg rfl rfl rfl (by go_simp) (by go_simp <;> first | exact IntWalk.i64_in _ (by omega) | rfl) ?_ | refine obl_skip rfl rfl rfl (by go_simp) (by go_simp) ?_)
          exact obl_nil
        clear hR R
        refine wpC_wrp rfl rfl (fun R hR => ?_)
        refine wpList_append_new rfl _ _ 27 rfl 31 _ 3 24 Try.underlying27 info31 rfl (by decide) _ _ _ _ rfl (h1.drew.alloc_any _) _ [.int .i64 x.s, .int .i64 x.e, .int .i64 y] rfl rfl (by first | exact heap_alloc_new _ _ | exact heap_alloc_new1 _ _ _) (by simp [Value.oneCell']) (by omega) (by omega) ?_
        intro v2 w2 hS2
        have hc2 := hS2.rot.cell
        simp only [Ar.cells] at hc2
        have hf2 := hS2.rot.frozen
        clear c0 c1 c2 c3 c4 c5 d0 d1 h1
        go_wp2
        refine hR _ _ obl_nil ?_
        clear hR R
        refine wpC_wrp rfl rfl (fun R hR => ?_)
        go_wp2
        refine hR _ _ obl_nil ?_
        clear hR R
        refine wpC_fin ?_
        go_wp2
        go_roundg (gk - 1)
        case measure => have := HG.out; omega
        case rel =>
          refine ⟨i + 1, by have := HG.out; omega, by go_num, by rw [HSU.out], ?_⟩
          rw [HSU.out]
          unfold RowE
          have := hS2.rot.right
          rw [if_neg (by omega), List.append_nil]
          simpa [ce, En.cells] using this
    · have : i = A.length := by omega
      subst this
      have hents : ents A H = (entS A H A.length).1 ++ if (entS A H A.length).2 < 2097152 then [⟨(entS A H A.length).2, 2097152, 0⟩] else [] := rfl
      have hlen := entS_bound (A := A) (H := H) la hi
      generalize entS A H A.length = z at *
      obtain ⟨l, at_⟩ := z
      have HEN := Lib.hid hents
      clear hents
      unfold RowE at hRow
      simp only at hRow hlen HEN ⊢
      by_cases hat : at_ < 2097152
      · go_wp2_with (at_builtin; go_loud (refine wpList_append_new rfl _ _ 27 rfl 31 _ 3 24 Try.underlying27 info31 rfl (by decide) _ _ _ _ rfl (hRow.alloc_any _) _ [.int .i64 at_, .int .i64 2097152, .int .i64 0] rfl rfl (heap_alloc_new _ _) (by simp [Value.oneCell']) (by omega) (by omega) ?_); intro v' w1 hS1)
        go_ret
        refine ⟨_, rfl, ?_⟩
        rw [HM.out, if_pos rfl, HEN.out]
        unfold RowE
        simpa [ce, En.cells, hat] using hS1
      · go_wp2
        go_ret
        refine ⟨_, rfl, ?_⟩
        rw [HM.out, if_pos rfl, HEN.out]
        unfold RowE
        rw [if_neg (by omega), List.append_nil]
        exact hRow
end Go.Proofs.Ytpiobilidhmedaa
