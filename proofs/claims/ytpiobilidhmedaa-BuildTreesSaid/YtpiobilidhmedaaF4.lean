/-
  What slot.Formed, slot.Largest and samararef15.Formed answer of a formed node.
-/
import Derived.Test.YtpiobilidhmedaaF3
namespace Go.Proofs.Ytpiobilidhmedaa
open Go.RowKit Go.Sl Go.Ct
set_option linter.unusedVariables false
set_option linter.unusedSimpArgs false

theorem start_succ {n : Nd} {i : Nat} {e : Int} (h : n.ends[i]? = some e) : n.start (i + 1) = e := by simp [Nd.start, List.getD_eq_getElem?_getD, h]

set_option maxRecDepth 100000 in
set_option maxHeartbeats 4000000 in
theorem formed_calls (n : Nd) (A1 A2 A3 : Option Addr) (c1 c2 c3 : Nat) (w : World) (fm : Fm n) (rA1 : Rd encI 1 w A1 n.ends) (rA2 : Rd encI 1 w A2 n.slots) (rA3 : Rd encI 1 w A3 n.gaps) :
    Calls Try.prog 106 #[.agg #[.bool n.inner, .int .i64 n.lo, .slice A1 n.ends.length c1, .slice A2 n.slots.length c2, .slice A3 n.gaps.length c3]] w (TruePost w) := by
  have hS := ((Sat.refl w).alloc (nv n A1 A2 A3 c1 c2 c3) 43)
  unfold nv at hS
  have FM := Lib.hid fm
  have k1 := fm.k1
  have k8 := fm.k8
  have g1 : ¬ (n.ends.length : Int) < 1 := by omega
  have g1b : (1 : Int) ≤ (n.ends.length : Int) := by omega
  have g1c : (n.ends.length : Int) - 1 < (n.ends.length : Int) := by omega
  have g2 : ¬ (8 : Int) < (n.ends.length : Int) := by omega
  have g3 : ((n.slots.length : Int) != (n.ends.length : Int)) = false := by rw [bne_eq_false_iff_eq, fm.ks]
  have g4 : ((n.gaps.length : Int) != (n.ends.length : Int)) = false := by rw [bne_eq_false_iff_eq, fm.kg]
  have g5 : ¬ n.lo < 65536 := by have := fm.lo1; omega
  have g6 : (n.lo.tmod 4096 == 0) = true := by rw [tmod4b, beq_iff_eq]; exact fm.loal
  have g6' : n.lo % 4096 = 0 := fm.loal
  have g7 : 0 ≤ n.lo := by have := fm.lo1; omega
  have g8 : n.lo ≤ 2097152 := (fm.start_bd 0 (by omega)).2
  obtain ⟨le, ls, lg, hle, hls, hlg, lok⟩ := fm.at (i := n.ends.length - 1) (by omega)
  have g9 : ¬ 2097152 < le := by have := lok.le; omega
  obtain ⟨b1, o1, rfl⟩ := rA1.addr (k := 0) (by omega)
  have p1 := (rA1.below (sz := 1) (fun _ => rfl) hS.right.below0).num hle
  clear fm hle hls hlg lok
  go_enter Try.func106, Try.ntmps106
  go_wp2
  generalize w.heap.size = g at *
  go_loopg [4, 52] n.ends.length (fun gk v4 v52 w' => ∃ i : Nat, i + gk = n.ends.length ∧ v52 = .int .i64 i ∧ v4 = .int .i64 (n.start i) ∧ Sat w w' (pt g [.bool n.inner, .int .i64 n.lo, .slice (some ⟨b1, o1, none⟩) n.ends.length c1, .slice A2 n.slots.length c2, .slice A3 n.gaps.length c3] 43 * Old w))
  case atStart => exact ⟨0, by omega, rfl, rfl, hS⟩
  case round =>
    clear hS p1
    obtain ⟨i, hgk, rfl, rfl, hR⟩ := hrel
    have HG := Lib.hid hgk
    have hi : i ≤ n.ends.length := by omega
    clear hgk
    have hcc := hR.cell
    by_cases hlt : i < n.ends.length
    · obtain ⟨e, s, gg, he, hs, hg, ok⟩ := FM.out.at hlt
      have hbd := FM.out.start_bd i hi
      have hst := start_succ he
      have hent := entry_calls n (some ⟨b1, o1, none⟩) A2 A3 c1 c2 c3 i (n.start i) e s gg
      have hr1 := rA1.below (sz := 1) (fun _ => rfl) hR.right.below0
      have hr2 := rA2.below (sz := 1) (fun _ => rfl) hR.right.below0
      have hr3 := rA3.below (sz := 1) (fun _ => rfl) hR.right.below0
      have HENT := Lib.hid (hent wr he hs hg ok hbd.1 hbd.2 hr1 hr2 hr3)
      have HE := Lib.hid he
      have HST := Lib.hid hst
      clear hent hr1 hr2 hr3 hs hg ok hst he hbd
      generalize n.start i = f at *
      go_wp2_with (go_at_call 123; (with_reducible refine HENT.out.mono ?_); rintro e' w3 ⟨rfl, hk⟩; have hS3 := hR.call0 hk; clear hk hcc; have hcc := hS3.cell; have p1 := (rA1.below (sz := 1) (fun _ => rfl) hS3.right.below0).num HE.out)
      go_roundg (gk - 1)
      case measure => have := HG.out; omega
      case rel => exact ⟨i + 1, by have := HG.out; omega, by go_num, by rw [HST.out], hS3⟩
    · go_wp2
      go_ret
      exact ⟨rfl, hR.right⟩

set_option maxRecDepth 100000 in
set_option maxHeartbeats 8000000 in
theorem rformed15_calls (n : Nd) (A1 A2 A3 : Option Addr) (c1 c2 c3 : Nat) (w : World) (fm : Fm n) (rA1 : Rd encI 1 w A1 n.ends) (rA2 : Rd encI 1 w A2 n.slots) (rA3 : Rd encI 1 w A3 n.gaps) :
    Calls Try.prog 28 #[.agg #[.bool n.inner, .int .i64 n.lo, .slice A1 n.ends.length c1, .slice A2 n.slots.length c2, .slice A3 n.gaps.length c3]] w (TruePost w) := by
  have hS := ((Sat.refl w).alloc (nv n A1 A2 A3 c1 c2 c3) 43)
  unfold nv at hS
  have FM := Lib.hid fm
  have k1 := fm.k1
  have k8 := fm.k8
  have g1 : ¬ (n.ends.length : Int) < 1 := by omega
  have g2 : ¬ (8 : Int) < (n.ends.length : Int) := by omega
  have g3 : ((n.slots.length : Int) != (n.ends.length : Int)) = false := by rw [bne_eq_false_iff_eq, fm.ks]
  have g4 : ((n.gaps.length : Int) != (n.ends.length : Int)) = false := by rw [bne_eq_false_iff_eq, fm.kg]
  have g5 : ¬ n.lo < 65536 := by have := fm.lo1; omega
  have g6 : (n.lo.tmod 4096 == 0) = true := by rw [tmod4b, beq_iff_eq]; exact fm.loal
  have g6' : n.lo % 4096 = 0 := fm.loal
  have g7 : 0 ≤ n.lo := by have := fm.lo1; omega
  have g8 : n.lo ≤ 2097152 := (fm.start_bd 0 (by omega)).2
  clear fm
  go_enter Try.func28, Try.ntmps28
  go_wp2
  generalize w.heap.size = g at *
  go_loopg [4, 5] n.ends.length (fun gk v4 v5 w' => ∃ i : Nat, i + gk = n.ends.length ∧ v5 = .int .i64 i ∧ v4 = .int .i64 (n.start i) ∧ Sat w w' (pt g [.bool n.inner, .int .i64 n.lo, .slice A1 n.ends.length c1, .slice A2 n.slots.length c2, .slice A3 n.gaps.length c3] 43 * Old w))
  case atStart => exact ⟨0, by omega, rfl, rfl, hS⟩
  case round =>
    clear hS
    obtain ⟨i, hgk, rfl, rfl, hR⟩ := hrel
    have HG := Lib.hid hgk
    have hi : i ≤ n.ends.length := by omega
    clear hgk
    have hcc := hR.cell
    by_cases hlt : i < n.ends.length
    · obtain ⟨e, s, gg, he, hs, hg, ok⟩ := FM.out.at hlt
      have hbd := FM.out.start_bd i hi
      have hst := start_succ he
      have hl2 : i < n.slots.length := (List.getElem?_eq_some_iff.1 hs).1
      have hl3 : i < n.gaps.length := (List.getElem?_eq_some_iff.1 hg).1
      obtain ⟨b1, o1, rfl⟩ := rA1.addr hlt
      obtain ⟨b2, o2, rfl⟩ := rA2.addr hl2
      obtain ⟨b3, o3, rfl⟩ := rA3.addr hl3
      have p1 := (rA1.below (sz := 1) (fun _ => rfl) hR.right.below0).num he
      have p2 := (rA2.below (sz := 1) (fun _ => rfl) hR.right.below0).num hs
      have p3 := (rA3.below (sz := 1) (fun _ => rfl) hR.right.below0).num hg
      have HST := Lib.hid hst
      clear hs hg hst he
      generalize n.start i = f at *
      have e1 : ¬ e ≤ f := by have := ok.lt; omega
      have e2 : ¬ 2097152 < e := by have := ok.le; omega
      have e2' : e ≤ 2097152 := ok.le
      have e0 : 0 ≤ e := by have := ok.lt; omega
      have e3 : e % 4096 = 0 := ok.al
      have e3' : (e.tmod 4096 == 0) = true := by rw [tmod4b, beq_iff_eq]; exact e3
      have e4 : ¬ s < 0 := by have := ok.s0; omega
      have f1 : 65536 ≤ f := hbd.1
      have f2 : f ≤ 2097152 := hbd.2
      have HI := Lib.hid ok.inn
      have HL := Lib.hid ok.leaf
      clear ok hbd
      have q1 := hcc 1
      have q2 := hcc 2
      have q3 := hcc 3
      have q4 := hcc 4
      have q0 := hcc 0
      simp only [List.getElem?_cons_zero, List.getElem?_cons_succ] at q0 q1 q2 q3 q4
      clear hcc
      rcases Bool.eq_false_or_eq_true n.inner with hinn | hinn
      · obtain ⟨i1, i2, i3⟩ := HI.out hinn
        rw [hinn] at q0
        have HINN := Lib.hid hinn
        clear hinn
        have e5 : (s == 0) = false := by rw [beq_eq_false_iff_ne]; omega
        have e6 : ¬ gg < 0 := by omega
        have e7 : ¬ e - f < gg := by omega
        go_wp2
        go_roundg (gk - 1)
        case measure => have := HG.out; omega
        case rel => exact ⟨i + 1, by have := HG.out; omega, by go_num, by rw [HST.out], hR⟩
      · have i1 := HL.out hinn
        rw [hinn] at q0
        have HINN := Lib.hid hinn
        clear hinn
        by_cases hs : s = 0
        · subst hs
          rw [if_pos rfl] at i1
          subst i1
          have e5 : ((0 : Int) == 0) = true := rfl
          go_wp2
          go_roundg (gk - 1)
          case measure => have := HG.out; omega
          case rel => exact ⟨i + 1, by have := HG.out; omega, by go_num, by rw [HST.out], hR⟩
        · rw [if_neg hs] at i1
          subst i1
          have e5 : (s == 0) = false := by rw [beq_eq_false_iff_ne]; exact hs
          clear hs
          go_wp2
          go_roundg (gk - 1)
          case measure => have := HG.out; omega
          case rel => exact ⟨i + 1, by have := HG.out; omega, by go_num, by rw [HST.out], hR⟩
    · go_wp2
      go_ret
      exact ⟨rfl, hR.right⟩

/-- The greatest of the first ones. -/
def mx (l : List Int) : Int := l.foldl max (l.headD 0)
def MaxPost (l : List Int) (w : World) (e : Ending) (w' : World) : Prop := e = .returned (.int .i64 (mx l)) ∧ Sat w w' (Old w)
def mxTo (l : List Int) (i : Nat) : Int := (l.take i).foldl max (l.headD 0)
theorem mxTo_succ {l : List Int} {i : Nat} {x : Int} (h : l[i]? = some x) : mxTo l (i + 1) = max (mxTo l i) x := by
  have hlt := (List.getElem?_eq_some_iff.1 h).1
  have hx := (List.getElem?_eq_some_iff.1 h).2
  unfold mxTo
  rw [List.take_succ_eq_append_getElem hlt, List.foldl_append, hx]
  rfl
theorem mxTo_all (l : List Int) : mxTo l l.length = mx l := by unfold mxTo mx; rw [List.take_length]

set_option maxRecDepth 100000 in
set_option maxHeartbeats 4000000 in
theorem max_calls (A : Option Addr) (c : Nat) (l : List Int) (w : World) (r : Rd encI 1 w A l) (h1 : 1 ≤ l.length) (hl : l.length ≤ 1000000) :
    Calls Try.prog 121 #[.slice A l.length c] w (MaxPost l w) := by
  have hS := Sat.refl w
  have g1 : ¬ (l.length : Int) < 1 := by omega
  obtain ⟨b, o, rfl⟩ := r.addr (k := 0) (by omega)
  obtain ⟨x, hx⟩ : ∃ x, l[0]? = some x := ⟨l[0], by simp⟩
  have c0 := r.num hx
  have hm : mxTo l 1 = x := by
    cases l with
    | nil => cases hx
    | cons y l => simp at hx; subst hx; simp [mxTo, max]
  have HM := Lib.hid hm
  simp only [Nat.add_zero] at c0
  clear hm hx
  go_enter Try.func121, Try.ntmps121
  go_wp2
  go_loopg [3, 4] (l.length - 1) (fun gk v3 v4 w' => ∃ i : Nat, i + gk = l.length ∧ 1 ≤ i ∧ v4 = .int .i64 i ∧ v3 = .int .i64 (mxTo l i) ∧ Sat w w' (Old w))
  case atStart => exact ⟨1, by omega, by omega, rfl, by rw [HM.out], hS⟩
  case round =>
    clear hS c0
    obtain ⟨i, hgk, hi1, rfl, rfl, hR⟩ := hrel
    have HG := Lib.hid hgk
    have hi : i ≤ l.length := by omega
    clear hgk
    by_cases hlt : i < l.length
    · obtain ⟨y, hy⟩ : ∃ x, l[i]? = some x := ⟨l[i], by simp⟩
      have c0 := (r.below (sz := 1) (fun _ => rfl) hR.below0).num hy
      have hs := mxTo_succ hy
      have HS := Lib.hid hs
      clear hs hy
      generalize mxTo l i = m at *
      by_cases hmy : m < y
      · go_wp2
        go_roundg (gk - 1)
        case measure => have := HG.out; omega
        case rel => exact ⟨i + 1, by have := HG.out; omega, by omega, by go_num, by rw [HS.out, show max m y = y by omega], hR⟩
      · go_wp2
        go_roundg (gk - 1)
        case measure => have := HG.out; omega
        case rel => exact ⟨i + 1, by have := HG.out; omega, by omega, by go_num, by rw [HS.out, show max m y = m by omega], hR⟩
    · have : i = l.length := by omega
      have HT := Lib.hid (mxTo_all l)
      subst this
      go_wp2
      go_ret
      exact ⟨congrArg (fun z => Ending.returned (.int .i64 z)) HT.out, hR⟩

set_option maxRecDepth 100000 in
set_option maxHeartbeats 4000000 in
theorem largest_calls (n : Nd) (A1 A2 A3 : Option Addr) (c1 c2 c3 : Nat) (w : World) (fm : Fm n) (rA1 : Rd encI 1 w A1 n.ends) (rA2 : Rd encI 1 w A2 n.slots) (rA3 : Rd encI 1 w A3 n.gaps) :
    Calls Try.prog 104 #[.agg #[.bool n.inner, .int .i64 n.lo, .slice A1 n.ends.length c1, .slice A2 n.slots.length c2, .slice A3 n.gaps.length c3]] w (MaxPost n.gaps w) := by
  have hS := ((Sat.refl w).alloc (nv n A1 A2 A3 c1 c2 c3) 43)
  unfold nv at hS
  have l3 : 1 ≤ n.gaps.length ∧ n.gaps.length ≤ 1000000 := by have := fm.k1; have := fm.k8; have := fm.kg; omega
  have FM := Lib.hid fm
  clear fm
  go_enter Try.func104, Try.ntmps104
  go_wp2_with (first
    | (go_at_call 106; (with_reducible refine (formed_calls n A1 A2 A3 c1 c2 c3 _ FM.out (rA1.below (sz := 1) (fun _ => rfl) hS.right.below0) (rA2.below (sz := 1) (fun _ => rfl) hS.right.below0) (rA3.below (sz := 1) (fun _ => rfl) hS.right.below0)).mono ?_); rintro e' w3 ⟨rfl, hk⟩; have hS3 := hS.call0 hk; clear hk hS; have hcc := hS3.cell)
    | (go_at_call 121; (with_reducible refine (max_calls A3 c3 n.gaps _ (rA3.below (sz := 1) (fun _ => rfl) hS3.right.below0) l3.1 l3.2).mono ?_); rintro e' w4 ⟨rfl, hk⟩; have hS4 := hS3.call0 hk))
  go_ret
  exact ⟨rfl, hS4.right⟩
end Go.Proofs.Ytpiobilidhmedaa
