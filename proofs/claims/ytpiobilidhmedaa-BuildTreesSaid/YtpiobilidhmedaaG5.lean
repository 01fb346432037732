/-
  What samararef18.Tree answers of formed entries: the same nodes.
-/
import Derived.Test.YtpiobilidhmedaaG4
import Derived.Test.YtpiobilidhmedaaG2
namespace Go.Proofs.Ytpiobilidhmedaa
open Go.RowKit Go.Sl Go.Ct
set_option linter.unusedVariables false
set_option linter.unusedSimpArgs false
theorem info43z : (Try.prog.info? 43).map (fun i => (i.zero, i.size, i.bytes)) = some (some (.agg #[.bool false, .int .i64 0, .slice none 0 0, .slice none 0 0, .slice none 0 0]), 5, 88) := by kernel_rfl
theorem NdsH.oneCell {x : Hp} {cs : List (List Value)} {L : List Nd} (h : NdsH x cs L) : ∀ u ∈ cs.flatten, u.oneCell' = true := by
  intro u hu
  obtain ⟨c, hc, hu⟩ := List.mem_flatten.1 hu
  obtain ⟨j, hj⟩ := List.getElem?_of_mem hc
  have hlt := (List.getElem?_eq_some_iff.1 hj).1
  obtain ⟨y, hy⟩ : ∃ y, L[j]? = some y := ⟨L[j]'(by rw [← h.1]; exact hlt), by simp⟩
  obtain ⟨A1, c1, A2, c2, A3, c3, rfl, _⟩ := h.2 j c y hj hy
  simp only [List.mem_cons, List.not_mem_nil, or_false] at hu
  rcases hu with rfl | rfl | rfl | rfl | rfl <;> rfl
/-- Read wherever x lies still behind W. -/
def Acc {α : Type} (enc : α → List Value) (sz : Nat) (W : World) (x : Hp) (A : Option Addr) (l : List α) : Prop := ∀ w' : World, x.Le (hp w') → Below W.heap.size W w' → Rd enc sz w' A l
theorem Acc.mono {α : Type} {enc : α → List Value} {sz : Nat} {W : World} {x y : Hp} {A : Option Addr} {l : List α} (h : Acc enc sz W x A l) (le : x.Le y) : Acc enc sz W y A l :=
  fun w' hx hb => h w' (le.trans hx) hb
theorem Acc.of_rd {α : Type} {enc : α → List Value} {sz : Nat} (he : ∀ x, (enc x).length = sz) {W : World} {x : Hp} {A : Option Addr} {l : List α} (h : Rd enc sz W A l) : Acc enc sz W x A l :=
  fun w' _ hb => h.below he hb
theorem Acc.of_rdh {α : Type} {enc : α → List Value} {sz : Nat} (he : ∀ x, (enc x).length = sz) {W : World} {x : Hp} {A : Option Addr} {l : List α} (h : RdH enc sz x A l) : Acc enc sz W x A l :=
  fun w' hx _ => RdH.rd he hx h
theorem Acc.addr {α : Type} {enc : α → List Value} {sz : Nat} {W : World} {x : Hp} {A : Option Addr} {l : List α} (h : Acc enc sz W x A l) {w' : World} (hx : x.Le (hp w')) (hb : Below W.heap.size W w') (hl : 1 ≤ l.length) : ∃ b o, A = some ⟨b, o, none⟩ :=
  (h w' hx hb).addr (k := 0) (by omega)
theorem mx0 (l : List Int) (h1 : 1 ≤ l.length) (h : ∀ x ∈ l, 0 ≤ x) : l.foldl max 0 = mx l := by
  cases l with
  | nil => simp at h1
  | cons y l =>
    have := h y List.mem_cons_self
    show l.foldl max (max 0 y) = l.foldl max (max y y)
    rw [show max 0 y = max y y by omega]
def mz (l : List Int) (j : Nat) : Int := (l.take j).foldl max 0
theorem mz_succ {l : List Int} {i : Nat} {x : Int} (h : l[i]? = some x) : mz l (i + 1) = max (mz l i) x := by
  have hlt := (List.getElem?_eq_some_iff.1 h).1
  have hx := (List.getElem?_eq_some_iff.1 h).2
  unfold mz
  rw [List.take_succ_eq_append_getElem hlt, List.foldl_append, hx]
  rfl

def RTreePost (L : List Nd) (w : World) (e : Ending) (w' : World) : Prop := ∃ v x cs, e = .returned v ∧ NdsH x cs L ∧ Sat w w' (row v 43 5 L.length cs.flatten * (RO x * Old w))
/-- What is still to be made of a level. -/
def restL (ps : List (En × Int)) (hs : List Int) (inner : Bool) : List (Int × Nd) := if inner then levelN ps hs true else treeL ps hs

theorem restL_one {ps : List (En × Int)} {hs : List Int} {inner : Bool} (h : (ps.length + 7) / 8 = 1) : restL ps hs inner = levelN ps hs inner := by
  cases inner with
  | true => rfl
  | false => simp [restL, treeL, h]
theorem levelN_take {ps : List (En × Int)} {hs : List Int} {inner : Bool} : (levelN ps hs inner).take ((ps.length + 7) / 8) = levelN ps hs inner := List.take_of_length_le (by rw [levelN_length]; exact Nat.le_refl _)
theorem levelU_take {ps : List (En × Int)} {hs : List Int} : (levelU ps hs).take ((ps.length + 7) / 8) = levelU ps hs := List.take_of_length_le (by rw [levelU_length]; exact Nat.le_refl _)

set_option maxRecDepth 100000 in
set_option maxHeartbeats 32000000 in
theorem rtree_calls (A : Option Addr) (c : Nat) (l : List En) (hA : Option Addr) (hc : Nat) (hs : List Int) (w : World) (r : Rd En.cells 3 w A l) (rh : Rd encI 1 w hA hs)
    (hf : formedB l = true) (hn : hs.length = count l.length) (ha : aboveB hs = true) (hcc : l.length ≤ c) (hcm : c ≤ maxLen) :
    Calls Try.prog 26 #[.slice A l.length c, .slice hA hs.length hc] w (RTreePost ((treeL (parts l) hs).map (·.2)) w) := by
  have hS := Sat.refl w
  obtain ⟨_, h1, h64⟩ := (formedB_iff l).1 hf
  have hok := parts_ok hf
  have hlen := parts_length l
  have hfst := parts_fst l
  have hs9 : 1 ≤ hs.length ∧ hs.length ≤ 9 := by
    rw [hn]
    have : ∀ m, m < 65 → 1 ≤ m → 1 ≤ count m ∧ count m ≤ 9 := by decide +kernel
    exact this _ (by omega) h1
  have hcount : ∀ m, m < 65 → 1 ≤ m → (m + 7) / 8 ≤ count m ∧ ((m + 7) / 8 ≠ 1 → count m = (m + 7) / 8 + 1) := by decide +kernel
  have hcnt := hcount l.length (by omega) h1
  rw [← hn] at hcnt
  have hab : ∀ j, j < hs.length → 0 < hs.getD j 0 := by
    intro j hj
    unfold aboveB at ha
    rw [List.all_eq_true] at ha
    have := ha hs[j] (List.getElem_mem _)
    rw [List.getD_eq_getElem?_getD, List.getElem?_eq_getElem hj]
    simpa using this
  have hre : restL (parts l) hs false = treeL (parts l) hs := rfl
  have racc : Acc En.cells 3 w Hp.emp A ((parts l).map (·.1)) := Acc.of_rd (sz := 3) (fun _ => rfl) (by rw [hfst]; exact r)
  obtain ⟨bh, oh, rfl⟩ := rh.addr (k := 0) (by omega)
  rw [← hlen] at hcc hcnt h64 h1
  rw [← hre]
  rw [← hlen]
  generalize parts l = p0 at *
  have HOK := Lib.hid hok
  have HAB := Lib.hid hab
  have HCN := Lib.hid hcnt
  have HACC := Lib.hid racc
  clear hcount hn ha hfst hlen hre hok hab hcnt racc hf r
  unfold maxLen at hcm
  go_enter Try.func26, Try.ntmps26
  go_wp2
  go_loopg [0, 5, 6, 7, 8] 2 (fun gk v0 v5 v6 v7 v8 w' => ∃ (rd : Nat) (ps : List (En × Int)) (inner : Bool) (A0 : Option Addr) (c0 : Nat) (gA : Option Addr) (gn gc : Nat) (x : Hp) (cs : List (List Value)) (L0 : List Nd),
    rd ≤ 1 ∧ rd + gk = 2 ∧ (inner = false → rd = 0) ∧ v0 = .slice A0 ps.length c0 ∧ v6 = .slice gA gn gc ∧ v7 = .bool inner ∧ v8 = .int .i64 rd ∧ 1 ≤ ps.length ∧ ps.length ≤ 64 ∧ ps.length ≤ c0 ∧ c0 ≤ maxLen ∧ (inner = true → ps.length ≤ 8) ∧
    (inner = true → gn = ps.length ∧ gn ≤ gc ∧ gc ≤ maxLen ∧ Acc encI 1 w x gA (ps.map (·.2))) ∧ Acc En.cells 3 w x A0 (ps.map (·.1)) ∧ PtsOk inner ps ∧ NdsH x cs L0 ∧
    L0 ++ (restL ps (hs.drop L0.length) inner).map (·.2) = (restL p0 hs false).map (·.2) ∧ L0.length + (ps.length + 7) / 8 ≤ hs.length ∧ (inner = false → L0 = [] ∧ ps = p0) ∧
    Sat w w' (row v5 43 5 L0.length cs.flatten * (RO x * Old w)))
  case atStart =>
    refine ⟨0, p0, false, A, c, none, 0, 0, Hp.emp, [], [], by omega, by omega, (fun _ => rfl), rfl, rfl, rfl, rfl, h1, h64, hcc, (by unfold maxLen; omega), (fun k => by cases k), (fun k => by cases k), HACC.out, HOK.out, NdsH.nil _, by simp, ?_, fun _ => ⟨rfl, rfl⟩, ?_⟩
    · have := HCN.out.1; simpa using this
    · simpa using (hS.ro_emp).row_start 43 5
  case round =>
    clear hS h1 h64 hcc HACC HOK hcm
    obtain ⟨rd, ps, inner, A0, c0, gA, gn, gc, x, cs, L0, hrd, hgk, hir, rfl, rfl, rfl, rfl, h1, h64, hcc, hcm, hi8, hga, hac, hok, hnd, hL, hll, hle, hS⟩ := hrel
    have HG := Lib.hid hgk
    have HIR := Lib.hid hir
    have HI8 := Lib.hid hi8
    have HGA := Lib.hid hga
    have HAC := Lib.hid hac
    have HOK := Lib.hid hok
    have HND := Lib.hid hnd
    have HL := Lib.hid hL
    have HLE := Lib.hid hle
    clear hgk hir hi8 hga hac hok hnd hL hle
    obtain ⟨b, o, rfl⟩ := HAC.out.addr hS.rot.ro_le hS.right.right.below0 (by simpa using h1)
    have hcut : (if 1 ≤ (ps.length : Int) ∧ (ps.length : Int) ≤ 64 then cutL (ps.length : Int).toNat else []) = cutL ps.length := by rw [if_pos (by omega), Int.toNat_natCast]
    have HCUT := Lib.hid hcut
    have HLC := Lib.hid (cutL_length ps.length)
    have hk8 : (ps.length + 7) / 8 ≤ 8 := by omega
    have hk1 : 1 ≤ (ps.length + 7) / 8 := by omega
    obtain ⟨k, hk⟩ : ∃ k, k = (ps.length + 7) / 8 := ⟨_, rfl⟩
    rw [← hk] at hk8 hk1 hll
    have HK := Lib.hid hk
    have hrd9 : (rd : Int) < 9 := by omega
    clear hcut hk
    unfold maxLen at hcm
    go_wp2_with (go_at_call 74; go_loud (refine (rcut_calls _ _).mono ?_); rintro e w1 ⟨v, rfl, hv⟩; go_loud (unfold RowI at hv; rw [HCUT.out, HLC.out, ← HK.out] at hv; replace hS := hS.lift hv; obtain ⟨bC, capC, rfl⟩ := row_shape hv; clear hv))
    obtain ⟨GK, rfl⟩ : ∃ g : Nat, g = gk := ⟨_, rfl⟩
    obtain ⟨wo, rfl⟩ : ∃ g : World, g = wr := ⟨_, rfl⟩
    go_loopg [5, 9, 10, 12, 13] k (fun gk v5 v9 v10 v12 v13 w' => ∃ (i : Nat) (y : Hp) (ds : List (List Value)), i + gk = k ∧ v13 = .int .i64 i ∧ v12 = .int .i64 (plc ps.length i) ∧ x.Le y ∧
      NdsH y ds (L0 ++ ((levelN ps (hs.drop L0.length) inner).take i).map (·.2)) ∧
      Sat w w' (row v5 43 5 (L0.length + i) ds.flatten * (row v9 31 3 i (ce (((levelU ps (hs.drop L0.length)).take i).map (·.1))) * (row v10 2 1 i (vi (((levelU ps (hs.drop L0.length)).take i).map (·.2))) * (RO y * (row (.slice bC k capC) 3 1 k (vi (cutL ps.length)) * Old w))))))
    case atStart =>
      refine ⟨0, x, cs, by omega, rfl, by rw [plc_zero]; rfl, Hp.Le.refl _, by simpa using HND.out, ?_⟩
      have h2 := ((hS.row_start 2 1).row_start 31 3).b3
      exact h2.of_eq (by rw [star_left_comm (row (.slice bC k capC) 3 1 k (vi (cutL ps.length))) (RO x) (Old w)]; rfl)
    case round =>
      clear hS
      obtain ⟨i, y, ds, hgk, rfl, rfl, hxy, hnds, hS⟩ := hrel
      have HG2 := Lib.hid hgk
      have HXY := Lib.hid hxy
      have HNDS := Lib.hid hnds
      have hi : i ≤ k := by omega
      clear hgk hxy hnds
      by_cases hlt : i < k
      case neg =>
        have : i = k := by omega
        subst this
        obtain ⟨B9, c9, rfl⟩ := row_shape hS.rot
        obtain ⟨B10, c10, rfl⟩ := row_shape hS.b2
        obtain ⟨B5, c5, rfl⟩ := row_shape hS
        by_cases hk11 : i = 1
        case pos =>
          subst hk11
          go_wp2
          go_ret
          have hr := restL_one (ps := ps) (hs := hs.drop L0.length) (inner := inner) HK.out.symm
          have ht := levelN_take (ps := ps) (hs := hs.drop L0.length) (inner := inner)
          rw [← HK.out] at ht
          have hn2 := HNDS.out
          rw [ht, ← hr, HL.out] at hn2
          refine ⟨_, y, ds, rfl, hn2, ?_⟩
          have hl2 : ((restL p0 hs false).map (·.2)).length = L0.length + 1 := by rw [← HL.out, hr, List.length_append, List.length_map, levelN_length, ← HK.out]
          rw [hl2]
          exact hS.rot.right.rot.right.b2.right
        case neg =>
          have hk12 : ((i : Int) == 1) = false := by rw [beq_eq_false_iff_ne]; omega
          cases inner with
          | true =>
            have := HI8.out rfl
            have := HK.out
            omega
          | false =>
          go_wp2
          obtain ⟨rfl, rfl⟩ := HLE.out (by trivial)
          have hrd0 := HIR.out (by trivial)
          have hk2 := HK.out
          have hN := levelN_length ps hs false
          have hU := levelU_length ps hs
          have tU := levelU_take (ps := ps) (hs := hs)
          have tN := levelN_take (ps := ps) (hs := hs) (inner := false)
          have hnds := HNDS.out
          rw [← hk2] at hN hU tU tN
          simp only [List.length_nil, List.drop_zero, List.nil_append, Nat.zero_add, tU, tN] at hS hnds
          have hcn := HCN.out.2 (by omega)
          rw [← hk2] at hcn
          have hu1 : ((levelU ps hs).map (·.1)).length = i := by rw [List.length_map, hU]
          have hu2 : ((levelU ps hs).map (·.2)).length = i := by rw [List.length_map, hU]
          obtain ⟨x1, f1, r1⟩ := Sat.freeze (enc := En.cells) (sz := 3) (l := (levelU ps hs).map (·.1)) (b := B9) (cap := c9) (T := 31) (F := row (.slice B5 i c5) 43 5 i ds.flatten * (row (.slice B10 i c10) 2 1 i (vi ((levelU ps hs).map (·.2))) * (RO y * (row (.slice bC i capC) 3 1 i (vi (cutL ps.length)) * Old w)))) (fun _ => rfl) (by rw [hu1]; exact hS.rot)
          obtain ⟨x2, f2, r2⟩ := Sat.freeze (enc := encI) (sz := 1) (l := (levelU ps hs).map (·.2)) (b := B10) (cap := c10) (T := 2) (F := RO x1 * (row (.slice B5 i c5) 43 5 i ds.flatten * (RO y * (row (.slice bC i capC) 3 1 i (vi (cutL ps.length)) * Old w)))) (fun _ => rfl) (by rw [hu2, ← vi_flat]; exact f1.b2)
          obtain ⟨f3, l2, l1⟩ := Sat.merge f2
          obtain ⟨f4, l4, l3⟩ := Sat.merge f3.b2
          rcases hS.rot.row_open with ⟨_, h9, _⟩ | ⟨g9, cap9, hv9, hle9, hcm9, _⟩
          · omega
          rcases hS.b2.row_open with ⟨_, h9, _⟩ | ⟨g10, cap10, hv10, hle10, hcm10, _⟩
          · omega
          cases hv9; cases hv10
          go_roundg (GK - 1)
          case measure => have := HG.out; omega
          case rel =>
            refine ⟨rd + 1, levelU ps hs, true, some ⟨g9, 0, none⟩, c9, some ⟨g10, 0, none⟩, i, c10, y.un (x2.un x1), ds, (levelN ps hs false).map (·.2), by omega, by have := HG.out; omega, (fun k => by cases k), by rw [hU], rfl, rfl, by go_num, by rw [hU]; omega, by rw [hU]; omega, by rw [hU]; omega, hcm9, fun _ => by rw [hU]; omega,
              fun _ => ⟨by rw [hU], hle10, hcm10, (Acc.of_rdh (sz := 1) (fun _ => rfl) r2).mono (l2.trans l3)⟩, (Acc.of_rdh (sz := 3) (fun _ => rfl) r1).mono (l1.trans l3), ?_, hnds.mono l4, ?_, ?_, (fun k => by cases k), ?_⟩
            · exact levelU_ok HOK.out h1 h64 hs (fun j hj => HAB.out j (by omega))
            · rw [List.length_map, hN]
              simp [restL, treeL, ← hk2, hk11]
            · rw [List.length_map, hN, hU]; omega
            · rw [List.length_map, hN]
              simp only [List.length_nil, Nat.zero_add]
              exact f4.rot.b2.right
      case pos =>
      have hpcs := pcs_bd ps.length i h1 h64 (by rw [← HK.out]; exact hlt)
      have hple := plc_le ps.length i h1 (by rw [← HK.out]; exact hlt)
      have hsl := sub_length ps i h1 (by rw [← HK.out]; exact hlt)
      have hsucc := plc_succ ps.length i
      obtain ⟨gC, rfl, hcell⟩ : ∃ g, bC = some ⟨g, 0, none⟩ ∧ wr.cell? ⟨g, i, none⟩ = some (.int .i64 (pcs ps.length i)) := by
        rcases hS.b4.row_open with ⟨h, h2, _⟩ | ⟨g', cap, h, _, _, _, hc, hf⟩
        · omega
        · cases h
          refine ⟨_, rfl, ?_⟩
          have := hc i (by omega)
          rw [this, vi_get, ← piece_pcs]
          simp [cutL, ← HK.out, hlt]
      cases inner with
      | true =>
        have hre := fun w' (a1 : y.Le (hp w')) (a2 : Below w.heap.size w w') => HAC.out w' (HXY.out.trans a1) a2
        have hrn : ∀ c' gA' gn' gc' w', Rd En.cells 3 w' (some ⟨b, o, none⟩) (ps.map (·.1)) → (true = true → gn' = pcs ps.length i ∧ Rd encI 1 w' gA' ((sub ps i).map (·.2))) →
            Calls Try.prog 75 #[.slice (some ⟨b, o + plc ps.length i * 3, none⟩) (pcs ps.length i) c', .slice gA' gn' gc', .bool true] w' (NdPost (nodeOf (sub ps i) true) w') := by
          intro c' gA' gn' gc' w' hr hg'
          have hr2 := hr.piece (plc ps.length i) (pcs ps.length i)
          have e : ((ps.map (·.1)).drop (plc ps.length i)).take (pcs ps.length i) = (sub ps i).map (·.1) := by simp [sub, List.map_drop, List.map_take]
          rw [e] at hr2
          have := (rnode_calls b (o + plc ps.length i * 3) c' (sub ps i) true gA' gn' gc' w' hr2 (by rw [hsl]; exact hg') (HOK.out.sub i) (by omega) (by omega)).mono fun _ _ h => h.nd
          rwa [hsl] at this
        obtain ⟨hh, hhh⟩ : ∃ z, hs[L0.length + i]? = some z := ⟨hs[L0.length + i]'(by omega), by simp⟩
        have hhd : (hs.drop L0.length).getD i 0 = hh := by rw [List.getD_eq_getElem?_getD, List.getElem?_drop, hhh]; rfl
        have hN1 : (levelN ps (hs.drop L0.length) true).take (i + 1) = (levelN ps (hs.drop L0.length) true).take i ++ [(hh, nodeOf (sub ps i) true)] := by
          rw [List.take_add_one, levelN_get (by rw [← HK.out]; exact hlt), hhd]; rfl
        have hU1 : (levelU ps (hs.drop L0.length)).take (i + 1) = (levelU ps (hs.drop L0.length)).take i ++ [upN ps (hs.drop L0.length) i] := by
          rw [List.take_add_one, levelU_get (by rw [← HK.out]; exact hlt)]; rfl
        obtain ⟨hf0, hf1⟩ := head_last (sub ps i) (⟨0, 0, 0⟩, 0) (by omega)
        rw [sub_get _ _ _ (by omega), Nat.add_zero] at hf0
        rw [sub_get _ _ _ (by omega), hsl] at hf1
        have hup : upN ps (hs.drop L0.length) i = (⟨((sub ps i).headD (⟨0, 0, 0⟩, 0)).1.lo, ((sub ps i).getLastD (⟨0, 0, 0⟩, 0)).1.e, hh⟩, mx (nodeOf (sub ps i) true).gaps) := by rw [← hhd]; rfl
        have hgl : (nodeOf (sub ps i) true).gaps.length = pcs ps.length i := by simp [nodeOf, hsl]
        have hg0 : ∀ z ∈ (nodeOf (sub ps i) true).gaps, 0 ≤ z := by
          intro z hz
          simp only [nodeOf, List.mem_map] at hz
          obtain ⟨q, hq, rfl⟩ := hz
          obtain ⟨j, hj⟩ := List.getElem?_of_mem hq
          exact ((HOK.out.sub i).gap hj).1
        have hmx : mz (nodeOf (sub ps i) true).gaps (pcs ps.length i) = mx (nodeOf (sub ps i) true).gaps := by
          rw [← mx0 _ (by omega) hg0]; unfold mz; rw [List.take_of_length_le (by omega)]
        have HRN := Lib.hid hrn
        have HRE := Lib.hid hre
        have HSU := Lib.hid hsucc
        have HN1 := Lib.hid hN1
        have HU1 := Lib.hid hU1
        have HUP := Lib.hid hup
        have HF0 : Hid ((ps.map (·.1))[plc ps.length i]? = some ((sub ps i).headD (⟨0, 0, 0⟩, 0)).1) := Lib.hid (by rw [List.getElem?_map, hf0]; rfl)
        have HF1 : Hid ((ps.map (·.1))[plc ps.length i + (pcs ps.length i - 1)]? = some ((sub ps i).getLastD (⟨0, 0, 0⟩, 0)).1) := Lib.hid (by rw [List.getElem?_map, hf1]; rfl)
        have HHH := Lib.hid hhh
        have HGL := Lib.hid hgl
        have HMX := Lib.hid hmx
        have HSL := Lib.hid hsl
        clear hsl hrn hre hsucc hN1 hU1 hup hf0 hf1 hhh hhd hgl hg0 hmx
        have zz : plc ps.length i + pcs ps.length i ≤ c0 := by omega
        have zz2 : L0.length + i < hs.length := by omega
        obtain ⟨hgn, hgc, hgm, hga⟩ := HGA.out (by trivial)
        subst hgn
        obtain ⟨gb, go_, rfl⟩ := hga.addr (HXY.out.trans hS.b3.ro_le) hS.right.right.right.right.right.below0 (by simpa using h1)
        have hgp : ∀ w', y.Le (hp w') → Below w.heap.size w w' → Rd encI 1 w' (some ⟨gb, go_ + plc ps.length i * 1, none⟩) ((sub ps i).map (·.2)) := by
          intro w' a1 a2
          have := (hga w' (HXY.out.trans a1) a2).piece (plc ps.length i) (pcs ps.length i)
          have e : ((ps.map (·.2)).drop (plc ps.length i)).take (pcs ps.length i) = (sub ps i).map (·.2) := by simp [sub, List.map_drop, List.map_take]
          rwa [e] at this
        rw [Nat.mul_one] at hgp
        have HGP := Lib.hid hgp
        clear hgp hga
        unfold maxLen at hgm
        have zg : plc ps.length i + pcs ps.length i ≤ gc := by omega
        generalize hNd : nodeOf (sub ps i) true = nd at *
        generalize plc ps.length i = a at *
        generalize hp : pcs ps.length i = m at *
        generalize (sub ps i).headD (⟨0, 0, 0⟩, 0) = q0 at *
        generalize (sub ps i).getLastD (⟨0, 0, 0⟩, 0) = q1 at *
        generalize hq : L0.length + i = q at *
        have HQ := Lib.hid hq
        have HP := Lib.hid hp
        have HNd := Lib.hid hNd
        clear hp hNd hq
        have z1 : (0 : Int) ≤ (q : Int) := by omega
        have z2 : (q : Int) < (hs.length : Int) := by omega
        have z3 : IntKind.i64.wrap ((a : Int) + (m : Int)) = (a : Int) + (m : Int) := IntWalk.i64_in _ (by omega)
        have z4 : (0 : Int) ≤ (a : Int) := by omega
        have z5 : (a : Int) ≤ (a : Int) + (m : Int) := by omega
        have z6 : (a : Int) + (m : Int) ≤ (c0 : Int) := by omega
        have z7 : ((a : Int) + (m : Int)).toNat = a + m := by omega
        have z9 : IntKind.i64.wrap ((a : Int) + (m : Int) - 1) = (a : Int) + (m : Int) - 1 := IntWalk.i64_in _ (by omega)
        have z10 : (0 : Int) ≤ (a : Int) + (m : Int) - 1 := by omega
        have z11 : (a : Int) + (m : Int) - 1 < (ps.length : Int) := by omega
        have z12 : ((a : Int) + (m : Int) - 1).toNat = a + (m - 1) := by omega
        have z14 : (1 : Int) ≤ (a : Int) + (m : Int) := by omega
        have z13 : (a : Int) < (ps.length : Int) := by omega
        have z8 : ¬ c0 = a := by omega
        have zg6 : (a : Int) + (m : Int) ≤ (gc : Int) := by omega
        have zg8 : ¬ gc = a := by omega
        have hinn : nd.inner = true := by rw [← HNd.out]; rfl
        have HINN := Lib.hid hinn
        clear hinn
        obtain ⟨B5, c5, rfl⟩ := row_shape hS
        go_wp2_with (go_at_call 75; go_loud (refine (HRN.out _ _ _ _ _ (HRE.out _ hS.b3.ro_le hS.right.right.right.right.right.below0) (fun _ => ⟨rfl, HGP.out _ hS.b3.ro_le hS.right.right.right.right.right.below0⟩)).mono ?_); rintro e w2 ⟨v1, v2, v3, rfl, hn⟩; go_loud (replace hS := hS.lift3 hn; obtain ⟨A1, d1, rfl⟩ := row_shape hS; obtain ⟨A2, d2, rfl⟩ := row_shape hS.rot; obtain ⟨A3, d3, rfl⟩ := row_shape hS.b2; rw [HINN.out]; clear hn hcell))
        replace hS := hS.alloc [.bool true, .int .i64 nd.lo, .slice A1 nd.ends.length d1, .slice A2 nd.slots.length d2, .slice A3 nd.gaps.length d3] 43
        generalize w2.heap.size = tb at *
        have hcc := hS.cell
        have hgl := HGL.out
        rcases hS.b3.row_open with ⟨_, h9, _⟩ | ⟨g3, cap3, hv3, hle3, hcm3, _, hc3, _⟩
        · omega
        cases hv3
        have hml : m ≤ 8 := by omega
        have hgl8 : nd.gaps.length ≤ 8 := by omega
        have HC3 := Lib.hid hc3
        clear hc3 hgl
        go_loop [17, 18] (fun v17 v18 => ∃ j : Nat, j ≤ nd.gaps.length ∧ v18 = .int .i64 j ∧ v17 = .int .i64 (mz nd.gaps j)) (fun _ v18 => nd.gaps.length - (intOf v18).toNat)
        case atStart => exact ⟨0, by omega, rfl, rfl⟩
        case round =>
          obtain ⟨j, hj, rfl, rfl⟩ := hrel
          by_cases hjl : j < nd.gaps.length
          · obtain ⟨gx, hgx⟩ : ∃ x, nd.gaps[j]? = some x := ⟨nd.gaps[j], by simp⟩
            have hcg := HC3.out j (by omega)
            rw [vi_get, hgx] at hcg
            simp only [Option.map_some] at hcg
            have HMS := Lib.hid (mz_succ hgx)
            clear hgx
            go_wp2
            have hmax : (if mz nd.gaps j < gx then gx else mz nd.gaps j) = max (mz nd.gaps j) gx := by split <;> omega
            have HMAX := Lib.hid hmax
            clear hmax
            go_round
            case rel => exact ⟨j + 1, by omega, by go_num, by rw [HMS.out, HMAX.out]⟩
            case measure => simp [intOf]; omega
          · have hjj : j = nd.gaps.length := by omega
            subst hjj
            have hbig : mz nd.gaps nd.gaps.length = mx nd.gaps := by rw [HGL.out]; exact HMX.out
            generalize mz nd.gaps nd.gaps.length = big at *
            have HBIG := Lib.hid hbig
            clear hbig
            go_wp2
            replace hS := hS.drew
            have hyle := hS.b7.ro_le
            have hbw := hS.right.right.right.right.right.right.right.right.right.below0
            obtain ⟨ce0, _, _⟩ := (HRE.out _ hyle hbw).en HF0.out
            obtain ⟨_, ce1, _⟩ := (HRE.out _ hyle hbw).en HF1.out
            have ch := (rh.below (sz := 1) (fun _ => rfl) hbw).num HHH.out
            have HYL := Lib.hid hyle
            have HBW := Lib.hid hbw
            clear hyle hbw
            refine wp_region_ct (.rd 0 (.rd 1 (.rd 2 (.rd 3 (.rd 4 (.rd 5 (.rd 6 (.rd 7 (.rd 8 (.rd 9 (.rd 10 (.rd 11 (.rd 12 (.rd 13 (.rd 14 (.rd 15 (.rd 16 (.rd 17 (.wr 18 [0] (.wr 19 [] (.wr 20 [] .fin .stop) .stop) .stop))))))))))))))))))) 100 mixed (by kernel_rfl) (Nat.le_refl _) (fun c a a' w e h => ⟨e ▸ h.1, h.2⟩) ?_
            repeat' (first | (refine wpC_rdp rfl rfl (fun K hK => ?_); go_simp; (try go_bits)) | (refine wpC_rdg rfl rfl rfl (fun K hK => ?_); go_simp; (try go_bits)) | (refine hK _ ?_; clear hK K))
            refine wpC_wrp rfl rfl (fun R hR => ?_)
            go_wp2
            refine hR _ _ ?_ ?_
            · repeat (first | refine obl_cons rfl rfl (by go_simp <;> first | exact IntWalk.i64_in _ (by omega) | rfl) ?_ | refine obl_consg rfl rfl rfl (by go_simp) (by go_simp <;> first | exact IntWalk.i64_in _ (by omega) | rfl) ?_ | refine obl_skip rfl rfl rfl (by go_simp) (by go_simp) ?_)
              exact obl_nil
            clear hR R
            replace hS := hS.alloc [.int .i64 q0.1.lo, .int .i64 q1.1.e, .int .i64 hh] 31
            simp only [drew_size] at hS
            refine wpC_wrp rfl rfl (fun R hR => ?_)
            refine wpList_append_new rfl _ _ 27 rfl 31 _ 3 24 Try.underlying27 info31 rfl (by decide) _ _ _ _ rfl hS.b6 _ [.int .i64 q0.1.lo, .int .i64 q1.1.e, .int .i64 hh] rfl rfl (heap_alloc_at _ _ _ (by simp)) (by simp [Value.oneCell']) (by omega) (by omega) ?_
            clear hcc ce0 ce1 ch
            intro u9' w5 hS5
            replace hS := hS5.rot.right
            have hcc := hS.rot.cell
            go_wp2
            refine hR _ _ ?_ ?_
            · exact obl_nil
            clear hR R
            refine wpC_wrp rfl rfl (fun R hR => ?_)
            go_wp2
            refine hR _ _ ?_ ?_
            · exact obl_nil
            clear hR R
            refine wpC_fin ?_
            go_wp2_with (first
              | (at_builtin; refine wpList_append_new rfl _ _ 40 rfl 43 _ 5 88 Try.underlying40 info43z rfl (by decide) _ _ _ _ rfl (hS.b5.alloc_any _) _ [.bool true, .int .i64 nd.lo, .slice A1 nd.ends.length d1, .slice A2 nd.slots.length d2, .slice (some ⟨g3, 0, none⟩) nd.gaps.length d3] rfl rfl (heap_alloc_at _ _ _ (by simp)) (by simp [Value.oneCell']) (by omega) (by omega) ?_; intro v5' w6 hS6)
              | (at_builtin; go_loud (refine wpList_append_new rfl _ _ 23 rfl 2 _ 1 8 Try.underlying23 info2 rfl (by decide) _ _ _ _ rfl (hS6.b6.alloc_any _) _ [.int .i64 big] rfl rfl (heap_alloc_at _ _ _ (by simp)) (by simp [Value.oneCell']) (by omega) (by omega) ?_); intro v10' w7 hS7))
            obtain ⟨z, hyz, hS8, hndz⟩ := Sat.node_lies hS7.b3.right.b6.b6.b6.b6
            rw [HINN.out] at hndz
            go_roundg (gk - 1)
            case measure => have := HG2.out; omega
            case rel =>
              refine ⟨i + 1, z, ds ++ [[.bool true, .int .i64 nd.lo, .slice A1 nd.ends.length d1, .slice A2 nd.slots.length d2, .slice (some ⟨g3, 0, none⟩) nd.gaps.length d3]], by have := HG2.out; omega, by go_num, by rw [HSU.out]; go_num, HXY.out.trans hyz, ?_, ?_⟩
              · rw [HN1.out, List.map_append, ← List.append_assoc]
                exact (HNDS.out.mono hyz).snoc hndz
              · rw [HU1.out, ← Nat.add_assoc, HQ.out, List.map_append, List.map_append, List.map_singleton, List.map_singleton, ce_snoc, vi_snoc, HUP.out, ← HBIG.out]
                simpa [En.cells] using hS8.rot.b3.b3
      | false =>
        have hre := fun w' (a1 : y.Le (hp w')) (a2 : Below w.heap.size w w') => HAC.out w' (HXY.out.trans a1) a2
        have hrn : ∀ c' gA' gn' gc' w', Rd En.cells 3 w' (some ⟨b, o, none⟩) (ps.map (·.1)) → (false = true → gn' = pcs ps.length i ∧ Rd encI 1 w' gA' ((sub ps i).map (·.2))) →
            Calls Try.prog 75 #[.slice (some ⟨b, o + plc ps.length i * 3, none⟩) (pcs ps.length i) c', .slice gA' gn' gc', .bool false] w' (NdPost (nodeOf (sub ps i) false) w') := by
          intro c' gA' gn' gc' w' hr hg'
          have hr2 := hr.piece (plc ps.length i) (pcs ps.length i)
          have e : ((ps.map (·.1)).drop (plc ps.length i)).take (pcs ps.length i) = (sub ps i).map (·.1) := by simp [sub, List.map_drop, List.map_take]
          rw [e] at hr2
          have := (rnode_calls b (o + plc ps.length i * 3) c' (sub ps i) false gA' gn' gc' w' hr2 (by rw [hsl]; exact hg') (HOK.out.sub i) (by omega) (by omega)).mono fun _ _ h => h.nd
          rwa [hsl] at this
        obtain ⟨hh, hhh⟩ : ∃ z, hs[L0.length + i]? = some z := ⟨hs[L0.length + i]'(by omega), by simp⟩
        have hhd : (hs.drop L0.length).getD i 0 = hh := by rw [List.getD_eq_getElem?_getD, List.getElem?_drop, hhh]; rfl
        have hN1 : (levelN ps (hs.drop L0.length) false).take (i + 1) = (levelN ps (hs.drop L0.length) false).take i ++ [(hh, nodeOf (sub ps i) false)] := by
          rw [List.take_add_one, levelN_get (by rw [← HK.out]; exact hlt), hhd]; rfl
        have hU1 : (levelU ps (hs.drop L0.length)).take (i + 1) = (levelU ps (hs.drop L0.length)).take i ++ [upN ps (hs.drop L0.length) i] := by
          rw [List.take_add_one, levelU_get (by rw [← HK.out]; exact hlt)]; rfl
        obtain ⟨hf0, hf1⟩ := head_last (sub ps i) (⟨0, 0, 0⟩, 0) (by omega)
        rw [sub_get _ _ _ (by omega), Nat.add_zero] at hf0
        rw [sub_get _ _ _ (by omega), hsl] at hf1
        have hup : upN ps (hs.drop L0.length) i = (⟨((sub ps i).headD (⟨0, 0, 0⟩, 0)).1.lo, ((sub ps i).getLastD (⟨0, 0, 0⟩, 0)).1.e, hh⟩, mx (nodeOf (sub ps i) false).gaps) := by rw [← hhd]; rfl
        have hgl : (nodeOf (sub ps i) false).gaps.length = pcs ps.length i := by simp [nodeOf, hsl]
        have hg0 : ∀ z ∈ (nodeOf (sub ps i) false).gaps, 0 ≤ z := by
          intro z hz
          simp only [nodeOf, List.mem_map] at hz
          obtain ⟨q, hq, rfl⟩ := hz
          obtain ⟨j, hj⟩ := List.getElem?_of_mem hq
          exact ((HOK.out.sub i).gap hj).1
        have hmx : mz (nodeOf (sub ps i) false).gaps (pcs ps.length i) = mx (nodeOf (sub ps i) false).gaps := by
          rw [← mx0 _ (by omega) hg0]; unfold mz; rw [List.take_of_length_le (by omega)]
        have HRN := Lib.hid hrn
        have HRE := Lib.hid hre
        have HSU := Lib.hid hsucc
        have HN1 := Lib.hid hN1
        have HU1 := Lib.hid hU1
        have HUP := Lib.hid hup
        have HF0 : Hid ((ps.map (·.1))[plc ps.length i]? = some ((sub ps i).headD (⟨0, 0, 0⟩, 0)).1) := Lib.hid (by rw [List.getElem?_map, hf0]; rfl)
        have HF1 : Hid ((ps.map (·.1))[plc ps.length i + (pcs ps.length i - 1)]? = some ((sub ps i).getLastD (⟨0, 0, 0⟩, 0)).1) := Lib.hid (by rw [List.getElem?_map, hf1]; rfl)
        have HHH := Lib.hid hhh
        have HGL := Lib.hid hgl
        have HMX := Lib.hid hmx
        have HSL := Lib.hid hsl
        clear hsl hrn hre hsucc hN1 hU1 hup hf0 hf1 hhh hhd hgl hg0 hmx
        have zz : plc ps.length i + pcs ps.length i ≤ c0 := by omega
        have zz2 : L0.length + i < hs.length := by omega
        generalize hNd : nodeOf (sub ps i) false = nd at *
        generalize plc ps.length i = a at *
        generalize hp : pcs ps.length i = m at *
        generalize (sub ps i).headD (⟨0, 0, 0⟩, 0) = q0 at *
        generalize (sub ps i).getLastD (⟨0, 0, 0⟩, 0) = q1 at *
        generalize hq : L0.length + i = q at *
        have HQ := Lib.hid hq
        have HP := Lib.hid hp
        have HNd := Lib.hid hNd
        clear hp hNd hq
        have z1 : (0 : Int) ≤ (q : Int) := by omega
        have z2 : (q : Int) < (hs.length : Int) := by omega
        have z3 : IntKind.i64.wrap ((a : Int) + (m : Int)) = (a : Int) + (m : Int) := IntWalk.i64_in _ (by omega)
        have z4 : (0 : Int) ≤ (a : Int) := by omega
        have z5 : (a : Int) ≤ (a : Int) + (m : Int) := by omega
        have z6 : (a : Int) + (m : Int) ≤ (c0 : Int) := by omega
        have z7 : ((a : Int) + (m : Int)).toNat = a + m := by omega
        have z9 : IntKind.i64.wrap ((a : Int) + (m : Int) - 1) = (a : Int) + (m : Int) - 1 := IntWalk.i64_in _ (by omega)
        have z10 : (0 : Int) ≤ (a : Int) + (m : Int) - 1 := by omega
        have z11 : (a : Int) + (m : Int) - 1 < (ps.length : Int) := by omega
        have z12 : ((a : Int) + (m : Int) - 1).toNat = a + (m - 1) := by omega
        have z14 : (1 : Int) ≤ (a : Int) + (m : Int) := by omega
        have z13 : (a : Int) < (ps.length : Int) := by omega
        have z8 : ¬ c0 = a := by omega
        have hinn : nd.inner = false := by rw [← HNd.out]; rfl
        have HINN := Lib.hid hinn
        clear hinn
        obtain ⟨B5, c5, rfl⟩ := row_shape hS
        go_wp2_with (go_at_call 75; go_loud (refine (HRN.out _ _ _ _ _ (HRE.out _ hS.b3.ro_le hS.right.right.right.right.right.below0) (fun k => by cases k)).mono ?_); rintro e w2 ⟨v1, v2, v3, rfl, hn⟩; go_loud (replace hS := hS.lift3 hn; obtain ⟨A1, d1, rfl⟩ := row_shape hS; obtain ⟨A2, d2, rfl⟩ := row_shape hS.rot; obtain ⟨A3, d3, rfl⟩ := row_shape hS.b2; rw [HINN.out]; clear hn hcell))
        replace hS := hS.alloc [.bool false, .int .i64 nd.lo, .slice A1 nd.ends.length d1, .slice A2 nd.slots.length d2, .slice A3 nd.gaps.length d3] 43
        generalize w2.heap.size = tb at *
        have hcc := hS.cell
        have hgl := HGL.out
        rcases hS.b3.row_open with ⟨_, h9, _⟩ | ⟨g3, cap3, hv3, hle3, hcm3, _, hc3, _⟩
        · omega
        cases hv3
        have hml : m ≤ 8 := by omega
        have hgl8 : nd.gaps.length ≤ 8 := by omega
        have HC3 := Lib.hid hc3
        clear hc3 hgl
        go_loop [17, 18] (fun v17 v18 => ∃ j : Nat, j ≤ nd.gaps.length ∧ v18 = .int .i64 j ∧ v17 = .int .i64 (mz nd.gaps j)) (fun _ v18 => nd.gaps.length - (intOf v18).toNat)
        case atStart => exact ⟨0, by omega, rfl, rfl⟩
        case round =>
          obtain ⟨j, hj, rfl, rfl⟩ := hrel
          by_cases hjl : j < nd.gaps.length
          · obtain ⟨gx, hgx⟩ : ∃ x, nd.gaps[j]? = some x := ⟨nd.gaps[j], by simp⟩
            have hcg := HC3.out j (by omega)
            rw [vi_get, hgx] at hcg
            simp only [Option.map_some] at hcg
            have HMS := Lib.hid (mz_succ hgx)
            clear hgx
            go_wp2
            have hmax : (if mz nd.gaps j < gx then gx else mz nd.gaps j) = max (mz nd.gaps j) gx := by split <;> omega
            have HMAX := Lib.hid hmax
            clear hmax
            go_round
            case rel => exact ⟨j + 1, by omega, by go_num, by rw [HMS.out, HMAX.out]⟩
            case measure => simp [intOf]; omega
          · have hjj : j = nd.gaps.length := by omega
            subst hjj
            have hbig : mz nd.gaps nd.gaps.length = mx nd.gaps := by rw [HGL.out]; exact HMX.out
            generalize mz nd.gaps nd.gaps.length = big at *
            have HBIG := Lib.hid hbig
            clear hbig
            go_wp2
            replace hS := hS.drew
            have hyle := hS.b7.ro_le
            have hbw := hS.right.right.right.right.right.right.right.right.right.below0
            obtain ⟨ce0, _, _⟩ := (HRE.out _ hyle hbw).en HF0.out
            obtain ⟨_, ce1, _⟩ := (HRE.out _ hyle hbw).en HF1.out
            have ch := (rh.below (sz := 1) (fun _ => rfl) hbw).num HHH.out
            have HYL := Lib.hid hyle
            have HBW := Lib.hid hbw
            clear hyle hbw
            refine wp_region_ct (.rd 0 (.rd 1 (.rd 2 (.rd 3 (.rd 4 (.rd 5 (.rd 6 (.rd 7 (.rd 8 (.rd 9 (.rd 10 (.rd 11 (.rd 12 (.rd 13 (.rd 14 (.rd 15 (.rd 16 (.rd 17 (.wr 18 [0] (.wr 19 [] (.wr 20 [] .fin .stop) .stop) .stop))))))))))))))))))) 100 mixed (by kernel_rfl) (Nat.le_refl _) (fun c a a' w e h => ⟨e ▸ h.1, h.2⟩) ?_
            repeat' (first | (refine wpC_rdp rfl rfl (fun K hK => ?_); go_simp; (try go_bits)) | (refine wpC_rdg rfl rfl rfl (fun K hK => ?_); go_simp; (try go_bits)) | (refine hK _ ?_; clear hK K))
            refine wpC_wrp rfl rfl (fun R hR => ?_)
            go_wp2
            refine hR _ _ ?_ ?_
            · repeat (first | refine obl_cons rfl rfl (by go_simp <;> first | exact IntWalk.i64_in _ (by omega) | rfl) ?_ | refine obl_consg rfl rfl rfl (by go_simp) (by go_simp <;> first | exact IntWalk.i64_in _ (by omega) | rfl) ?_ | refine obl_skip rfl rfl rfl (by go_simp) (by go_simp) ?_)
              exact obl_nil
            clear hR R
            replace hS := hS.alloc [.int .i64 q0.1.lo, .int .i64 q1.1.e, .int .i64 hh] 31
            simp only [drew_size] at hS
            refine wpC_wrp rfl rfl (fun R hR => ?_)
            refine wpList_append_new rfl _ _ 27 rfl 31 _ 3 24 Try.underlying27 info31 rfl (by decide) _ _ _ _ rfl hS.b6 _ [.int .i64 q0.1.lo, .int .i64 q1.1.e, .int .i64 hh] rfl rfl (heap_alloc_at _ _ _ (by simp)) (by simp [Value.oneCell']) (by omega) (by omega) ?_
            clear hcc ce0 ce1 ch
            intro u9' w5 hS5
            replace hS := hS5.rot.right
            have hcc := hS.rot.cell
            go_wp2
            refine hR _ _ ?_ ?_
            · exact obl_nil
            clear hR R
            refine wpC_wrp rfl rfl (fun R hR => ?_)
            go_wp2
            refine hR _ _ ?_ ?_
            · exact obl_nil
            clear hR R
            refine wpC_fin ?_
            go_wp2_with (first
              | (at_builtin; refine wpList_append_new rfl _ _ 40 rfl 43 _ 5 88 Try.underlying40 info43z rfl (by decide) _ _ _ _ rfl (hS.b5.alloc_any _) _ [.bool false, .int .i64 nd.lo, .slice A1 nd.ends.length d1, .slice A2 nd.slots.length d2, .slice (some ⟨g3, 0, none⟩) nd.gaps.length d3] rfl rfl (heap_alloc_at _ _ _ (by simp)) (by simp [Value.oneCell']) (by omega) (by omega) ?_; intro v5' w6 hS6)
              | (at_builtin; go_loud (refine wpList_append_new rfl _ _ 23 rfl 2 _ 1 8 Try.underlying23 info2 rfl (by decide) _ _ _ _ rfl (hS6.b6.alloc_any _) _ [.int .i64 big] rfl rfl (heap_alloc_at _ _ _ (by simp)) (by simp [Value.oneCell']) (by omega) (by omega) ?_); intro v10' w7 hS7))
            obtain ⟨z, hyz, hS8, hndz⟩ := Sat.node_lies hS7.b3.right.b6.b6.b6.b6
            rw [HINN.out] at hndz
            go_roundg (gk - 1)
            case measure => have := HG2.out; omega
            case rel =>
              refine ⟨i + 1, z, ds ++ [[.bool false, .int .i64 nd.lo, .slice A1 nd.ends.length d1, .slice A2 nd.slots.length d2, .slice (some ⟨g3, 0, none⟩) nd.gaps.length d3]], by have := HG2.out; omega, by go_num, by rw [HSU.out]; go_num, HXY.out.trans hyz, ?_, ?_⟩
              · rw [HN1.out, List.map_append, ← List.append_assoc]
                exact (HNDS.out.mono hyz).snoc hndz
              · rw [HU1.out, ← Nat.add_assoc, HQ.out, List.map_append, List.map_append, List.map_singleton, List.map_singleton, ce_snoc, vi_snoc, HUP.out, ← HBIG.out]
                simpa [En.cells] using hS8.rot.b3.b3
end Go.Proofs.Ytpiobilidhmedaa
