/-
  What build.Tree answers.
-/
import Derived.Test.YtpiobilidhmedaaG3
import Derived.LoopN
namespace Go.Sl
open Go Go.RowKit
section
variable {P : Program}
/-- One slice of the call's own behind another one. -/
theorem wpList_append_row {W w : World} {ops : Array Oper} {rest : List Oper} {o : Oper} {a : Act} {Q : Exit → Act → World → Prop} (hgd : o.guard = none) (s x : Operand) (t : TypeId)
    (ho : o.op = .call { callee := .builtin .append, args := #[s, x], argTypes := #[t, t] })
    (e : TypeId) (z : Value) (size bytes : Nat) (ht : P.underlying t = some (.slice e)) (hinfo : (P.info? e).map (fun i => (i.zero, i.size, i.bytes)) = some (some z, size, bytes))
    (hzs : z.cells.size = size) (hsz : 0 < size)
    (v : Value) (n : Nat) (xs : List Value) (b : Option Addr) (m c : Nat) (ys : List Value) (F : As) (hs : a.eval s = v) (hown : Sat W w (row v e size n xs * (row (.slice b m c) e size m ys * F)))
    (hm : 1 ≤ m) (hx : a.eval x = .slice b m c) (h1 : ∀ u ∈ ys, u.oneCell' = true)
    (h63 : n + m ≤ 1000000000000) (hbytes : (n + m) * bytes ≤ 140737488355328)
    (h : ∀ v' w', Sat W w' (row v' e size (n + m) (xs ++ ys) * (row (.slice b m c) e size m ys * F)) → wpList P ops Q rest (a.put o.dst v') w') : wpList P ops Q (o :: rest) a w := by
  obtain ⟨i, hi, hz0, hz1, hz2⟩ := info_parts hinfo
  have hlen := hown.rot.row_len
  rcases hown.rot.row_open with ⟨_, h2, _⟩ | ⟨g, cap, hv, h3, h4, h5, hc, _⟩
  · omega
  · cases hv
    refine wpList_append_sat hgd s x t ho e i z size bytes ht hi hz0 hz1 hz2 hzs hsz v n xs _ hs hown ⟨g, 0, none⟩ m c ys hx hlen ?_ h1 (by simp only [maxLen]; omega) hbytes h
    intro j u hu
    have hadd : (⟨g, 0, none⟩ : Addr).add j = ⟨g, j, none⟩ := by unfold Addr.add; split <;> simp_all
    rw [hadd, hc j (by rw [← hlen]; exact (List.getElem?_eq_some_iff.1 hu).1), hu]
end
end Go.Sl
namespace Go.Proofs.Ytpiobilidhmedaa
open Go.RowKit Go.Sl Go.Ct
set_option linter.unusedVariables false
set_option linter.unusedSimpArgs false
theorem PlsH.oneCell {x : Hp} {cs : List (List Value)} {L : List (Int × Nd)} (h : PlsH x cs L) : ∀ u ∈ cs.flatten, u.oneCell' = true := by
  intro u hu
  obtain ⟨c, hc, hu⟩ := List.mem_flatten.1 hu
  obtain ⟨j, hj⟩ := List.getElem?_of_mem hc
  have hlt := (List.getElem?_eq_some_iff.1 hj).1
  obtain ⟨y, hy⟩ : ∃ y, L[j]? = some y := ⟨L[j]'(by rw [← h.1]; exact hlt), by simp⟩
  obtain ⟨t, rfl, A1, c1, A2, c2, A3, c3, rfl, _⟩ := h.2 j c y hj hy
  simp only [List.mem_cons, List.not_mem_nil, or_false] at hu
  rcases hu with rfl | rfl | rfl | rfl | rfl | rfl <;> rfl

def TreePost (L : List (Int × Nd)) (w : World) (e : Ending) (w' : World) : Prop := ∃ v x cs, e = .returned v ∧ PlsH x cs L ∧ Sat w w' (row v 45 6 L.length cs.flatten * (RO x * Old w))

set_option maxRecDepth 100000 in
set_option maxHeartbeats 4000000 in
theorem tree_no (A : Option Addr) (c : Nat) (l : List En) (hA : Option Addr) (hc : Nat) (hs : List Int) (w : World) (r : Rd En.cells 3 w A l) (hl : l.length ≤ 1000)
    (h : formedB l = false ∨ hs.length ≠ count l.length) : Calls Try.prog 23 #[.slice A l.length c, .slice hA hs.length hc] w (TreePost [] w) := by
  have hS := Sat.refl w
  have hpost : ∀ w', Sat w w' (Old w) → TreePost [] w (.returned (.slice none 0 0)) w' := fun w' h => ⟨_, Hp.emp, [], rfl, PlsH.nil _, by simpa using (h.ro_emp).row_start 45 6⟩
  have HP := Lib.hid hpost
  clear hpost
  cases hf : formedB l with
  | false =>
    have HF := Lib.hid hf
    clear hf h
    go_enter Try.func23, Try.ntmps23
    go_wp2_with (first
      | (go_at_call 72; (with_reducible refine (formed72_calls A c l w r (by omega)).mono ?_); rintro e w1 ⟨rfl, hk⟩; rw [HF.out]; have hS1 := hS.call0 hk))
    go_ret
    exact HP.out _ hS1
  | true =>
    have hne : hs.length ≠ count l.length := by
      rcases h with h | h
      · rw [hf] at h; cases h
      · exact h
    have HF := Lib.hid hf
    have hcn : ((hs.length : Int) != ((count (l.length : Int).toNat : Nat) : Int)) = true := by
      rw [bne_iff_ne, Int.toNat_natCast]; omega
    clear hf h hne
    generalize hq : ((count (l.length : Int).toNat : Nat) : Int) = q at *
    have HQ := Lib.hid hq
    clear hq
    go_enter Try.func23, Try.ntmps23
    go_wp2_with (first
      | (go_at_call 72; (with_reducible refine (formed72_calls A c l w r (by omega)).mono ?_); rintro e w1 ⟨rfl, hk⟩; rw [HF.out]; have hS1 := hS.call0 hk)
      | (go_at_call 22; (with_reducible refine (count_calls _ _).mono ?_); rintro e w2 ⟨rfl, hk⟩; rw [HQ.out]; have hS2 := hS1.call0 hk))
    go_ret
    exact HP.out _ hS2

theorem parts_take {l : List En} {i : Nat} {x : En} (hx : l[i]? = some x) : (parts l).take (i + 1) = (parts l).take i ++ [(x, gapOf x)] := by
  rw [List.take_add_one]
  simp [parts, hx]

set_option maxRecDepth 100000 in
set_option maxHeartbeats 16000000 in
theorem tree_yes (A : Option Addr) (c : Nat) (l : List En) (hA : Option Addr) (hc : Nat) (hs : List Int) (w : World) (r : Rd En.cells 3 w A l) (rh : Rd encI 1 w hA hs)
    (hf : formedB l = true) (hn : hs.length = count l.length) (ha : aboveB hs = true) (hcap : hs.length ≤ hc) (hcm : hc ≤ maxLen) :
    Calls Try.prog 23 #[.slice A l.length c, .slice hA hs.length hc] w (TreePost (treeL (parts l) hs) w) := by
  have hS := Sat.refl w
  obtain ⟨_, h1, h64⟩ := (formedB_iff l).1 hf
  have hok := parts_ok hf
  have hlen := parts_length l
  have HF := Lib.hid hf
  have HA := Lib.hid ha
  have HN := Lib.hid hn
  have HOK := Lib.hid hok
  have HLEN := Lib.hid hlen
  have hcn : ((hs.length : Int) != ((count (l.length : Int).toNat : Nat) : Int)) = false := by
    rw [bne_eq_false_iff_eq, Int.toNat_natCast]; omega
  have hs9 : 1 ≤ hs.length ∧ hs.length ≤ 9 := by
    rw [hn]
    have : ∀ m, m < 65 → 1 ≤ m → 1 ≤ count m ∧ count m ≤ 9 := by decide +kernel
    exact this _ (by omega) h1
  clear hf ha hn hok hlen
  obtain ⟨b, o, rfl⟩ := r.addr (k := 0) (by omega)
  obtain ⟨bh, oh, rfl⟩ := rh.addr (k := 0) (by omega)
  generalize hq : ((count (l.length : Int).toNat : Nat) : Int) = q at *
  have HQ := Lib.hid hq
  clear hq
  go_enter Try.func23, Try.ntmps23
  go_wp2_with (first
    | (go_at_call 72; (with_reducible refine (formed72_calls _ c l w r (by omega)).mono ?_); rintro e w1 ⟨rfl, hk⟩; rw [HF.out]; have hS1 := hS.call0 hk)
    | (go_at_call 22; (with_reducible refine (count_calls _ _).mono ?_); rintro e w2 ⟨rfl, hk⟩; rw [HQ.out]; have hS2 := hS1.call0 hk)
    | (go_at_call 69; (with_reducible refine (above_calls _ hc hs _ (rh.below (sz := 1) (fun _ => rfl) hS2.below0) (by omega)).mono ?_); rintro e w3 ⟨rfl, rfl⟩; rw [HA.out]))
  go_loopg [5, 31] l.length (fun gk v5 v31 w' => ∃ i : Nat, i + gk = l.length ∧ v31 = .int .i64 i ∧ Sat w w' (row v5 134 4 i (((parts l).take i).flatMap encP) * Old w))
  case atStart => exact ⟨0, by omega, rfl, hS2.row_start 134 4⟩
  case round =>
    clear hS hS1 hS2
    obtain ⟨i, hgk, rfl, hS⟩ := hrel
    have HG := Lib.hid hgk
    have hi : i ≤ l.length := by omega
    clear hgk
    by_cases hlt : i < l.length
    case pos =>
      obtain ⟨x, hx⟩ : ∃ x, l[i]? = some x := ⟨l[i], by simp⟩
      have hpt := parts_take hx
      obtain ⟨c0, c1, c2⟩ := (r.below (sz := 3) (fun _ => rfl) hS.right.below0).en hx
      have hok := HOK.out.ent i (x, gapOf x) (by simp [parts, hx])
      have e1 : x.lo < x.e := hok.lt
      have e2 : x.e ≤ 2097152 := hok.le
      have e3 : 65536 ≤ x.lo := (HOK.out.lo i (x, gapOf x) (by simp [parts, hx])).1
      have HPT := Lib.hid hpt
      have hb := World.block_lt_of_cell? _ _ c0
      simp only [] at hb
      clear hx hpt hok
      by_cases hz : x.h = 0
      · have hgap : gapOf x = x.e - x.lo := by unfold gapOf; rw [if_pos hz]
        have HGAP := Lib.hid hgap
        rw [hz] at c2
        clear hgap
        have HZ := Lib.hid hz
        clear hz
        go_wp2_with (at_builtin; go_loud (refine wpList_append_new rfl _ _ 132 rfl 134 _ 4 32 Try.underlying132 info134 rfl (by decide) _ _ _ _ rfl ((hS.alloc_any _).alloc_any _) _ [.int .i64 x.lo, .int .i64 x.e, .int .i64 0, .int .i64 (x.e - x.lo)] rfl rfl (heap_alloc_new1 _ _ _) (by simp [Value.oneCell']) (by omega) (by omega) ?_); intro v4 w4 hS4)
        go_roundg (gk - 1)
        case measure => have := HG.out; omega
        case rel =>
          refine ⟨i + 1, by have := HG.out; omega, by go_num, ?_⟩
          rw [HPT.out]
          simpa [encP, HGAP.out, HZ.out] using hS4
      · have hgap : gapOf x = 0 := by unfold gapOf; rw [if_neg hz]
        have HGAP := Lib.hid hgap
        have hz2 : (x.h == 0) = false := by rw [beq_eq_false_iff_ne]; exact hz
        clear hgap hz
        go_wp2_with (at_builtin; go_loud (refine wpList_append_new rfl _ _ 132 rfl 134 _ 4 32 Try.underlying132 info134 rfl (by decide) _ _ _ _ rfl ((hS.alloc_any _).alloc_any _) _ [.int .i64 x.lo, .int .i64 x.e, .int .i64 x.h, .int .i64 0] rfl rfl (heap_alloc_new1 _ _ _) (by simp [Value.oneCell']) (by omega) (by omega) ?_); intro v4 w4 hS4)
        go_roundg (gk - 1)
        case measure => have := HG.out; omega
        case rel =>
          refine ⟨i + 1, by have := HG.out; omega, by go_num, ?_⟩
          rw [HPT.out]
          simpa [encP, HGAP.out] using hS4
    case neg =>
      have : i = l.length := by omega
      subst this
      rw [List.take_of_length_le (by rw [HLEN.out]; omega), ← HLEN.out] at hS
      have hnk : (parts l).length = l.length := HLEN.out
      generalize hps : parts l = ps at *
      have HPS := Lib.hid hps
      have hcount : ∀ m, m < 65 → 1 ≤ m → (m + 7) / 8 ≤ count m ∧ ((m + 7) / 8 ≠ 1 → count m = (m + 7) / 8 + 1) := by decide +kernel
      have hcnt := hcount ps.length (by omega) (by omega)
      rw [hnk, ← HN.out] at hcnt
      rw [← hnk] at h1 h64 hcnt
      rcases hS.row_open with ⟨_, h2, _⟩ | ⟨g, cap, rfl, hncap, hcapm, hglt, _, _⟩
      · omega
      have rps := row_rd (enc := encP) (sz := 4) (fun _ => rfl) hS
      have rhs := rh.below (sz := 1) (fun _ => rfl) hS.right.below0
      have hlv := level_calls g 0 cap ps (some ⟨bh, oh, none⟩) hc hs false wr rps rhs HOK.out h1 h64 hncap hcapm hcnt.1 (by omega)
      have HLV := Lib.hid hlv
      have hlN := levelN_length ps hs false
      have hlU := levelU_length ps hs
      have hab : ∀ j, j < hs.length → 0 < hs.getD j 0 := by
        intro j hj
        have := HA.out
        unfold aboveB at this
        rw [List.all_eq_true] at this
        have := this hs[j] (List.getElem_mem _)
        rw [List.getD_eq_getElem?_getD, List.getElem?_eq_getElem hj]
        simpa using this
      unfold maxLen at hcm hcapm
      clear hlv hcount hps rps rhs
      have n1 : ¬ hc = 0 := by omega
      have n2 : (0 : Int) ≤ (hc : Int) := by omega
      by_cases hk1 : (ps.length + 7) / 8 = 1
      case pos =>
        rw [hk1] at hlN hlU
        have HK1 := Lib.hid hk1
        have HLN := Lib.hid hlN
        have HLU := Lib.hid hlU
        clear hk1 hlN hlU hab hnk hcnt
        go_wp2
        refine wp_loop_rounds 1 ?_
        rw [rounds_succ]
        go_wp2_with (first
          | (go_at_call 73; go_loud (refine HLV.out.mono ?_); rintro e w4 ⟨v6, v7, x, cs, rfl, hpl, hk⟩; go_loud (rw [HLN.out, HLU.out] at hk; replace hS := hS.lift3 hk; obtain ⟨A6, c6, rfl⟩ := row_shape hS; obtain ⟨A7, c7, rfl⟩ := row_shape hS.rot; clear hk; have HPL := Lib.hid hpl; clear hpl))
          | (at_builtin; go_loud (refine wpList_append_row rfl _ _ 37 rfl 45 _ 6 96 Try.underlying37 info45z rfl (by decide) (.slice none 0 0) 0 [] A6 1 c6 cs.flatten _ rfl (hS.row_start 45 6) (by omega) rfl HPL.out.oneCell (by omega) (by omega) ?_); intro v9 w5 hS5))
        go_ret
        have hs6 := hS5.rot.right.rot.right.b2.right
        have hL : treeL ps hs = levelN ps hs false := by unfold treeL; rw [if_pos HK1.out, List.append_nil]
        refine ⟨v9, x, cs, rfl, by rw [hL]; exact HPL.out, ?_⟩
        rw [hL, HLN.out]
        simpa using hs6
      case neg =>
        have hk9 : (ps.length + 7) / 8 ≤ 8 := by omega
        have hk2 : 2 ≤ (ps.length + 7) / 8 := by omega
        have hs1 : hs.length = (ps.length + 7) / 8 + 1 := hcnt.2 hk1
        have hok2 := levelU_ok HOK.out h1 h64 hs (fun i hi => hab i (by omega))
        have hL : treeL ps hs = levelN ps hs false ++ levelN (levelU ps hs) (hs.drop ((ps.length + 7) / 8)) true := by unfold treeL; rw [if_neg hk1]
        generalize hk : (ps.length + 7) / 8 = k at *
        have hlU2 := hlU
        generalize hu : levelU ps hs = us at *
        have HU := Lib.hid hu
        clear hu
        have hlN2 := levelN_length us (hs.drop k) true
        have hlM2 := levelU_length us (hs.drop k)
        have hq1 : (us.length + 7) / 8 = 1 := by omega
        rw [hq1] at hlN2 hlM2
        have hdl : (hs.drop k).length = 1 := by rw [List.length_drop]; omega
        have hdt : (hs.drop k).take 1 = hs.drop k := List.take_of_length_le (by omega)
        have hsk : hs.length - k = 1 := by omega
        have HLN := Lib.hid hlN
        have HLU := Lib.hid hlU
        have HLN2 := Lib.hid hlN2
        have HLM2 := Lib.hid hlM2
        have HOK2 := Lib.hid hok2
        have HL := Lib.hid hL
        have HDT := Lib.hid hdt
        have HDL := Lib.hid hdl
        have HK := Lib.hid hk
        have HQ1 := Lib.hid hq1
        have HS1 := Lib.hid hs1
        have HSK := Lib.hid hsk
        have g1 : ((k : Nat) : Int) ≤ (hs.length : Int) := by omega
        have g2 : ((k : Nat) : Int) ≤ (hc : Int) := by omega
        have g3 : ¬ hc = k := by omega
        have g4 : ((k : Int) == 1) = false := by rw [beq_eq_false_iff_ne]; omega
        have g5 : k ≤ 8 := by omega
        clear hs1 hsk hlU2 hlN hlU hlN2 hlM2 hok2 hL hdt hdl hk hq1 hab hnk hcnt hk1
        go_wp2
        refine wp_loop_rounds 2 ?_
        rw [rounds_succ]
        go_wp2_with (first
          | (go_at_call 73; go_loud (refine HLV.out.mono ?_); rintro e w4 ⟨v6, v7, x, cs, rfl, hpl, hk⟩; go_loud (rw [HU.out, HLN.out, HLU.out] at hk; replace hS := hS.lift3 hk; obtain ⟨A6, c6, rfl⟩ := row_shape hS; obtain ⟨A7, c7, rfl⟩ := row_shape hS.rot; clear hk; have HPL := Lib.hid hpl; clear hpl HLV))
          | (at_builtin; go_loud (refine wpList_append_row rfl _ _ 37 rfl 45 _ 6 96 Try.underlying37 info45z rfl (by decide) (.slice none 0 0) 0 [] A6 k c6 cs.flatten _ rfl (hS.row_start 45 6) (by omega) rfl HPL.out.oneCell (by omega) (by omega) ?_); intro v9 w5 hS5; rw [Nat.zero_add, List.nil_append] at hS5; obtain ⟨A9, c9, rfl⟩ := row_shape hS5; clear hS))
        replace hS := hS5.b2
        clear hS5
        rcases hS.row_open with ⟨_, h2, _⟩ | ⟨g7, cap7, hv7, hncap7, hcapm7, hglt7, _, _⟩
        · omega
        cases hv7
        have rps2 := row_rd (enc := encP) (sz := 4) (l := us) (b := some ⟨g7, 0, none⟩) (cap := c7) (fun _ => rfl) (by rw [HLU.out]; exact hS)
        have rhs2 : Rd encI 1 w5 (some ⟨bh, oh + k, none⟩) (hs.drop k) := by
          have := (rh.below (sz := 1) (fun _ => rfl) hS.right.right.right.right.right.below0).piece k 1
          rw [HDT.out, Nat.mul_one] at this
          exact this
        have hlv := level_calls g7 0 c7 us (some ⟨bh, oh + k, none⟩) (hc - k) (hs.drop k) true w5 rps2 rhs2 HOK2.out (by rw [HLU.out]; omega) (by rw [HLU.out]; omega) (by rw [HLU.out]; exact hncap7) hcapm7 (by rw [HQ1.out, HDL.out]; exact Nat.le_refl _) (by rw [HDL.out]; omega)
        rw [HLU.out, List.length_drop] at hlv
        have HLV := Lib.hid hlv
        clear hlv rps2 rhs2
        unfold maxLen at hcapm7
        rw [rounds_succ]
        go_wp2_with (first
          | (go_at_call 73; go_loud (refine HLV.out.mono ?_); rintro e w6 ⟨v6, v7, x2, cs2, rfl, hpl, hk⟩; go_loud (rw [HLN2.out, HLM2.out] at hk; replace hS := hS.lift3 hk; obtain ⟨B6, e6, rfl⟩ := row_shape hS; obtain ⟨B7, e7, rfl⟩ := row_shape hS.rot; clear hk; have HPL2 := Lib.hid hpl; clear hpl HLV))
          | (at_builtin; go_loud (refine wpList_append_row rfl _ _ 37 rfl 45 _ 6 96 Try.underlying37 info45z rfl (by decide) _ k _ B6 1 e6 cs2.flatten _ rfl hS.b4 (by omega) rfl HPL2.out.oneCell (by omega) (by omega) ?_); intro v9 w7 hS5))
        go_ret
        have hs6 := hS5.rot.right.rot.right.b2.right.b2.right.b3.right
        obtain ⟨hs7, l1, l2⟩ := Sat.merge hs6.rot.b2
        refine ⟨v9, x.un x2, cs ++ cs2, rfl, by rw [HL.out]; exact (HPL.out.mono l1).append (HPL2.out.mono l2), ?_⟩
        rw [HL.out, List.length_append, HLN.out, HLN2.out, List.flatten_append]
        exact hs7.rot
end Go.Proofs.Ytpiobilidhmedaa
