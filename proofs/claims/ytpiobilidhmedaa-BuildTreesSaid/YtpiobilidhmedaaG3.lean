/-
  What build.level answers: a level's nodes with their handles, and the next level's parts.
-/
import Derived.Test.YtpiobilidhmedaaG1
import Derived.Test.YtpiobilidhmedaaF9
namespace Go.Proofs.Ytpiobilidhmedaa
open Go.RowKit Go.Sl Go.Ct
set_option linter.unusedVariables false
set_option linter.unusedSimpArgs false
theorem info45 : (Try.prog.info? 45).map (fun i => (i.size, i.bytes)) = some (6, 96) := by kernel_rfl
theorem info134 : (Try.prog.info? 134).map (fun i => (i.zero, i.size, i.bytes)) = some (some (.agg #[.int .i64 0, .int .i64 0, .int .i64 0, .int .i64 0]), 4, 32) := by kernel_rfl
theorem info45z : (Try.prog.info? 45).map (fun i => (i.zero, i.size, i.bytes)) = some (some (.agg #[.int .i64 0, .bool false, .int .i64 0, .slice none 0 0, .slice none 0 0, .slice none 0 0]), 6, 96) := by kernel_rfl

theorem _root_.Go.Sl.Sat.lift3 {W w w' : World} {F A B C : As} (h : Sat W w F) (k : Sat w w' (A * (B * (C * Old w)))) : Sat W w' (A * (B * (C * F))) :=
  (h.lift (A := A * (B * C)) (k.of_eq (by ac_rfl))).of_eq (by ac_rfl)
def NdPost (n : Nd) (w : World) (e : Ending) (w' : World) : Prop := ∃ v1 v2 v3, e = .returned (.agg #[.bool n.inner, .int .i64 n.lo, v1, v2, v3]) ∧
  Sat w w' (row v1 2 1 n.ends.length (vi n.ends) * (row v2 2 1 n.slots.length (vi n.slots) * (row v3 2 1 n.gaps.length (vi n.gaps) * Old w)))
theorem NodePost.nd {ps : List (En × Int)} {inner : Bool} {w : World} {e : Ending} {w' : World} (h : NodePost ps inner w e w') : NdPost (nodeOf ps inner) w e w' := by
  obtain ⟨v1, v2, v3, he, hs⟩ := h
  refine ⟨v1, v2, v3, he, ?_⟩
  have l1 : (nodeOf ps inner).ends.length = ps.length := by simp [nodeOf]
  have l2 : (nodeOf ps inner).slots.length = ps.length := by simp [nodeOf]
  have l3 : (nodeOf ps inner).gaps.length = ps.length := by simp [nodeOf]
  rw [l1, l2, l3]
  exact hs
def LevelPost (ps : List (En × Int)) (hs : List Int) (inner : Bool) (w : World) (e : Ending) (w' : World) : Prop := ∃ v6 v7 x cs, e = .returned (.tuple #[v6, v7]) ∧ PlsH x cs (levelN ps hs inner) ∧
  Sat w w' (row v6 45 6 (levelN ps hs inner).length cs.flatten * (row v7 134 4 (levelU ps hs).length ((levelU ps hs).flatMap encP) * (RO x * Old w)))

set_option maxRecDepth 100000 in
set_option maxHeartbeats 32000000 in
theorem level_calls (b o c : Nat) (ps : List (En × Int)) (hA : Option Addr) (hc : Nat) (hs : List Int) (inner : Bool) (w : World) (r : Rd encP 4 w (some ⟨b, o, none⟩) ps) (rh : Rd encI 1 w hA hs)
    (ok : PtsOk inner ps) (h1 : 1 ≤ ps.length) (h64 : ps.length ≤ 64) (hcap : ps.length ≤ c) (hcm : c ≤ maxLen) (hhs : (ps.length + 7) / 8 ≤ hs.length) (hhl : hs.length ≤ 1000) :
    Calls Try.prog 73 #[.slice (some ⟨b, o, none⟩) ps.length c, .slice hA hs.length hc, .bool inner] w (LevelPost ps hs inner w) := by
  have hS := Sat.refl w
  have hcut : (if 1 ≤ (ps.length : Int) ∧ (ps.length : Int) ≤ 64 then cutL (ps.length : Int).toNat else []) = cutL ps.length := by rw [if_pos (by omega), Int.toNat_natCast]
  have HCUT := Lib.hid hcut
  have HLC := Lib.hid (cutL_length ps.length)
  have HOK := Lib.hid ok
  have hk8 : (ps.length + 7) / 8 ≤ 8 := by omega
  obtain ⟨k, hk⟩ : ∃ k, k = (ps.length + 7) / 8 := ⟨_, rfl⟩
  rw [← hk] at hhs hk8
  have HK := Lib.hid hk
  clear hcut ok hk
  unfold maxLen at hcm
  go_enter Try.func73, Try.ntmps73
  go_wp2_with (go_at_call 66; (with_reducible refine (cut_calls _ _).mono ?_); rintro e w1 ⟨v, rfl, hv⟩; unfold RowI at hv; rw [HCUT.out, HLC.out, ← HK.out] at hv; obtain ⟨bC, capC, rfl⟩ := row_shape hv)
  go_loopg [6, 7, 8, 16] k (fun gk v6 v7 v8 v16 w' => ∃ (i : Nat) (x : Hp) (cs : List (List Value)), i + gk = k ∧ v16 = .int .i64 i ∧ v8 = .int .i64 (plc ps.length i) ∧ PlsH x cs ((levelN ps hs inner).take i) ∧
    Sat w w' (row v6 45 6 i cs.flatten * (row v7 134 4 i (((levelU ps hs).take i).flatMap encP) * (RO x * (row (.slice bC k capC) 3 1 k (vi (cutL ps.length)) * Old w)))))
  case atStart =>
    refine ⟨0, Hp.emp, [], by omega, rfl, by rw [plc_zero]; rfl, by simpa using PlsH.nil _, ?_⟩
    exact ((hv.ro_emp).row_start 134 4).row_start 45 6
  case round =>
    clear hv hS
    obtain ⟨i, x, cs, hgk, rfl, rfl, hpl, hS⟩ := hrel
    have HG := Lib.hid hgk
    have HPL := Lib.hid hpl
    have hi : i ≤ k := by omega
    clear hgk hpl
    by_cases hlt : i < k
    case neg =>
      have : i = k := by omega
      subst this
      have hlN := levelN_length ps hs inner
      have hlU := levelU_length ps hs
      rw [← HK.out] at hlN hlU
      have HN := Lib.hid hlN
      have HU := Lib.hid hlU
      clear hlN hlU
      go_wp2
      go_ret2
      refine ⟨_, _, x, cs, rfl, ?_, ?_⟩
      · have := HPL.out
        rwa [List.take_of_length_le (by rw [HN.out]; omega)] at this
      · rw [HN.out, HU.out]
        have := hS.b3.right
        rwa [List.take_of_length_le (by rw [HU.out]; omega)] at this
    case pos =>
    have hpcs := pcs_bd ps.length i h1 h64 (by rw [← HK.out]; exact hlt)
    have hple := plc_le ps.length i h1 (by rw [← HK.out]; exact hlt)
    have hsl := sub_length ps i h1 (by rw [← HK.out]; exact hlt)
    have hsucc := plc_succ ps.length i
    have hrs : Rd encP 4 wr (some ⟨b, o + plc ps.length i * 4, none⟩) (sub ps i) := (r.below (sz := 4) (fun _ => rfl) hS.right.right.right.right.below0).piece _ _
    have hci := HOK
    obtain ⟨gC, rfl, hcell⟩ : ∃ g, bC = some ⟨g, 0, none⟩ ∧ wr.cell? ⟨g, i, none⟩ = some (.int .i64 (pcs ps.length i)) := by
      rcases hS.b2.right.rot.right.rot.row_open with ⟨h, h2, _⟩ | ⟨g', cap, h, _, _, _, hc, hf⟩
      · omega
      · cases h
        refine ⟨_, rfl, ?_⟩
        have := hc i (by omega)
        rw [this, vi_get, ← piece_pcs]
        simp [cutL, ← HK.out, hlt]
    obtain ⟨y, hy⟩ : ∃ y, hs[i]? = some y := ⟨hs[i]'(by omega), by simp⟩
    obtain ⟨bh, oh, rfl⟩ := rh.addr (k := i) (by omega)
    have hcy := (rh.below (sz := 1) (fun _ => rfl) hS.right.right.right.right.below0).num hy
    have hhd : hs.getD i 0 = y := by rw [List.getD_eq_getElem?_getD, hy]; rfl
    have hN1 : (levelN ps hs inner).take (i + 1) = (levelN ps hs inner).take i ++ [(y, nodeOf (sub ps i) inner)] := by
      rw [List.take_add_one, levelN_get (by rw [← HK.out]; exact hlt), hhd]; rfl
    have hU1 : (levelU ps hs).take (i + 1) = (levelU ps hs).take i ++ [upN ps hs i] := by
      rw [List.take_add_one, levelU_get (by rw [← HK.out]; exact hlt)]; rfl
    have hfm := nodeOf_fm (HOK.out.sub i) (by omega) (by omega)
    have hnode : ∀ c w', Rd encP 4 w' (some ⟨b, o + plc ps.length i * 4, none⟩) (sub ps i) → Calls Try.prog 103 #[.slice (some ⟨b, o + plc ps.length i * 4, none⟩) (pcs ps.length i) c, .bool inner] w' (NdPost (nodeOf (sub ps i) inner) w') := by
      intro c w' hr
      have := (node_calls b (o + plc ps.length i * 4) c (sub ps i) inner w' hr (by omega) (by omega)).mono fun _ _ h => h.nd
      rwa [hsl] at this
    obtain ⟨hf0, hf1⟩ := head_last (sub ps i) (⟨0, 0, 0⟩, 0) (by omega)
    rw [sub_get _ _ _ (by omega)] at hf0
    rw [sub_get _ _ _ (by omega), hsl] at hf1
    have hup : upN ps hs i = (⟨((sub ps i).headD (⟨0, 0, 0⟩, 0)).1.lo, ((sub ps i).getLastD (⟨0, 0, 0⟩, 0)).1.e, y⟩, mx (nodeOf (sub ps i) inner).gaps) := by rw [← hhd]; rfl
    have HSL := Lib.hid hsl
    have HSU := Lib.hid hsucc
    have HN1 := Lib.hid hN1
    have HU1 := Lib.hid hU1
    have HUP := Lib.hid hup
    have HFM := Lib.hid hfm
    rw [Nat.add_zero] at hf0
    have HF0 := Lib.hid hf0
    have HF1 := Lib.hid hf1
    have HND := Lib.hid hnode
    have HRS := Lib.hid hrs
    have HY := Lib.hid hy
    have hlh := World.block_lt_of_cell? _ _ hcy
    simp only [] at hlh
    clear hsl hsucc hN1 hU1 hup hfm hf0 hf1 hnode hrs hy hhd
    generalize hNd : nodeOf (sub ps i) inner = nd at *
    generalize plc ps.length i = a at *
    generalize hp : pcs ps.length i = m at *
    generalize (sub ps i).headD (⟨0, 0, 0⟩, 0) = q0 at *
    generalize (sub ps i).getLastD (⟨0, 0, 0⟩, 0) = q1 at *
    have HP := Lib.hid hp
    have HNd := Lib.hid hNd
    clear hp hNd
    have z1 : (0 : Int) ≤ (i : Int) := by omega
    have z2 : (i : Int) < (hs.length : Int) := by omega
    have z3 : IntKind.i64.wrap ((a : Int) + (m : Int)) = (a : Int) + (m : Int) := IntWalk.i64_in _ (by omega)
    have z4 : (0 : Int) ≤ (a : Int) := by omega
    have z5 : (a : Int) ≤ (a : Int) + (m : Int) := by omega
    have z6 : (a : Int) + (m : Int) ≤ (c : Int) := by omega
    have z7 : ((a : Int) + (m : Int)).toNat = a + m := by omega
    have z9 : IntKind.i64.wrap ((a : Int) + (m : Int) - 1) = (a : Int) + (m : Int) - 1 := IntWalk.i64_in _ (by omega)
    have z10 : (0 : Int) ≤ (a : Int) + (m : Int) - 1 := by omega
    have z11 : (a : Int) + (m : Int) - 1 < (ps.length : Int) := by omega
    have z12 : ((a : Int) + (m : Int) - 1).toNat = a + (m - 1) := by omega
    have z14 : (1 : Int) ≤ (a : Int) + (m : Int) := by omega
    have z13 : (a : Int) < (ps.length : Int) := by omega
    have z8 : ¬ c = a := by omega
    have hinn : nd.inner = inner := by rw [← HNd.out]; rfl
    have HINN := Lib.hid hinn
    clear hinn
    go_wp2
    refine wp_region_ct (.rd 0 (.rd 1 (.rd 2 (.rd 3 (.rd 4 (.rd 5 (.rd 6 (.rd 7 (.rd 8 (.rd 9 (.rd 10 (.wr 11 [0, 1, 2, 3] (.rd 12 (.wr 13 [0, 1, 2, 3, 4, 5, 6, 7, 8, 9, 10, 12] (.wr 14 [] .fin .stop) .stop)) (.wr 13 [0, 1, 2, 3, 4, 5, 6, 7, 8, 9, 10] (.wr 11 [0, 1, 2, 3] (.rd 12 (.wr 14 [] .fin .stop)) .stop) .stop))))))))))))) 69 mixed (by kernel_rfl) (Nat.le_refl _) (fun c a a' w e h => ⟨e ▸ h.1, h.2⟩) ?_
    repeat' (first | (refine wpC_rdp rfl rfl (fun K hK => ?_); go_simp; (try go_bits)) | (refine wpC_rdg rfl rfl rfl (fun K hK => ?_); go_simp; (try go_bits)) | (refine hK _ ?_; clear hK K))
    refine wpC_cut .fin (fun z : Nat × (Option Addr × Nat) × (Option Addr × Nat) × (Option Addr × Nat) => { tmps := #[.slice (some ⟨b, o, none⟩) ps.length c, .slice (some ⟨bh, oh, none⟩) hs.length hc, .bool inner, undef, undef, undef, u6, u7, .int .i64 a, .int .i64 i, .int .i64 m, .pointer (some ⟨z.1, 0, none⟩), .slice (some ⟨b, o, none⟩) ps.length c, .int .i64 ps.length, .slice (some ⟨gC, 0, none⟩) k capC, .int .i64 k, .int .i64 i, .bool true, .int .i64 i, .pointer (some ⟨gC, i, none⟩), .int .i64 m, .slice (some ⟨bh, oh, none⟩) hs.length hc, .int .i64 i, .pointer (some ⟨bh, oh + i, none⟩), .int .i64 y, .slice (some ⟨b, o, none⟩) ps.length c, .int .i64 a, .int .i64 a, .int .i64 m, .int .i64 (a + m), .slice (some ⟨b, o + a * 4, none⟩) m (c - a), .bool inner, .agg #[.bool inner, .int .i64 nd.lo, .slice z.2.1.1 nd.ends.length z.2.1.2, .slice z.2.2.1.1 nd.slots.length z.2.2.1.2, .slice z.2.2.2.1 nd.gaps.length z.2.2.2.2], .agg #[.int .i64 y, .bool inner, .int .i64 nd.lo, .slice z.2.1.1 nd.ends.length z.2.1.2, .slice z.2.2.1.1 nd.slots.length z.2.2.1.2, .slice z.2.2.2.1 nd.gaps.length z.2.2.2.2], u34, u35, u36, u37, u38, u39, u40, u41, u42, u43, u44, u45, u46, u47, u48, u49, u50, u51, u52, u53, u54, u55, u56, u57, u58, u59, u60, u61, u62, u63, u64, u65, u66, undef, undef], defers := [] }) (fun z w2 => Sat w w2 (pt z.1 [.int .i64 y, .bool inner, .int .i64 nd.lo, .slice z.2.1.1 nd.ends.length z.2.1.2, .slice z.2.2.1.1 nd.slots.length z.2.2.1.2, .slice z.2.2.2.1 nd.gaps.length z.2.2.2.2] 45 * (row (.slice z.2.1.1 nd.ends.length z.2.1.2) 2 1 nd.ends.length (vi nd.ends) * (row (.slice z.2.2.1.1 nd.slots.length z.2.2.1.2) 2 1 nd.slots.length (vi nd.slots) * (row (.slice z.2.2.2.1 nd.gaps.length z.2.2.2.2) 2 1 nd.gaps.length (vi nd.gaps) * (row u6 45 6 i cs.flatten * (row u7 134 4 i (((levelU ps hs).take i).flatMap encP) * (RO x * (row (.slice (some ⟨gC, 0, none⟩) k capC) 3 1 k (vi (cutL ps.length)) * Old w))))))))) (fun z w2 hS => ?_) (fun hFF => ?_)
    · obtain ⟨pl, ⟨A1, d1⟩, ⟨A2, d2⟩, ⟨A3, d3⟩⟩ := z
      dsimp only at hS ⊢
      refine wpC_fin ?_
      have hcc := hS.cell
      go_wp2_with (at_builtin; go_loud (refine wpList_append_new rfl _ _ 37 rfl 45 _ 6 96 Try.underlying37 info45z rfl (by decide) _ _ _ _ rfl (hS.b4.alloc_any _) _ [.int .i64 y, .bool inner, .int .i64 nd.lo, .slice A1 nd.ends.length d1, .slice A2 nd.slots.length d2, .slice A3 nd.gaps.length d3] rfl rfl (heap_alloc_at _ _ _ (by simp)) (by simp [Value.oneCell']) (by omega) (by omega) ?_); intro v6 w3 hS3)
      replace hS3 := hS3.drew
      have hcc := hS3.rot.cell
      obtain ⟨p0, _, _, _⟩ := (r.below (sz := 4) (fun _ => rfl) hS3.right.right.right.right.right.right.right.right.below0).part HF0.out
      obtain ⟨_, p1, _, _⟩ := (r.below (sz := 4) (fun _ => rfl) hS3.right.right.right.right.right.right.right.right.below0).part HF1.out
      have r1 := row_rd (enc := encI) (sz := 1) (fun _ => rfl) (by rw [← vi_flat]; exact hS3.b2)
      have r2 := row_rd (enc := encI) (sz := 1) (fun _ => rfl) (by rw [← vi_flat]; exact hS3.b3)
      have r3 := row_rd (enc := encI) (sz := 1) (fun _ => rfl) (by rw [← vi_flat]; exact hS3.b4)
      have hlg : ∀ w', Rd encI 1 w' A1 nd.ends → Rd encI 1 w' A2 nd.slots → Rd encI 1 w' A3 nd.gaps → Calls Try.prog 104 #[.agg #[.bool inner, .int .i64 nd.lo, .slice A1 nd.ends.length d1, .slice A2 nd.slots.length d2, .slice A3 nd.gaps.length d3]] w' (MaxPost nd.gaps w') := by
        intro w' a1 a2 a3
        have := largest_calls nd A1 A2 A3 d1 d2 d3 w' HFM.out a1 a2 a3
        rwa [HINN.out] at this
      have HLG := Lib.hid hlg
      clear hlg
      refine wp_region_ct (.rd 0 (.rd 1 (.rd 2 (.rd 3 (.rd 4 (.rd 5 (.rd 6 (.rd 7 (.rd 8 (.rd 9 (.rd 10 (.rd 11 (.rd 12 (.rd 13 (.rd 14 (.rd 15 (.rd 16 (.rd 17 (.rd 18 (.rd 19 (.rd 20 (.wr 21 [0, 1, 2, 3, 4, 5, 6, 7, 8, 9, 10, 11, 12, 13, 14, 15, 16, 17, 18] (.rd 22 (.wr 23 [0] (.wr 24 [] (.wr 25 [] .fin .stop) .stop) .stop)) .stop)))))))))))))))))))))) 69 mixed (by kernel_rfl) (Nat.le_refl _) (fun c a a' w e h => ⟨e ▸ h.1, h.2⟩) ?_
      repeat' (first | (refine wpC_rdp rfl rfl (fun K hK => ?_); go_simp; (try go_bits)) | (refine wpC_rdg rfl rfl rfl (fun K hK => ?_); go_simp; (try go_bits)) | (refine hK _ ?_; clear hK K))
      refine wpC_wrp rfl rfl (fun R hR => ?_)
      go_wp2_with (go_at_call 104; go_loud (refine (HLG.out _ r1 r2 r3).mono ?_); rintro e w4 ⟨rfl, hk⟩; go_loud (replace hS3 := hS3.call0 hk; have hcc := hS3.rot.cell; obtain ⟨p0, _, _, _⟩ := (r.below (sz := 4) (fun _ => rfl) hS3.right.right.right.right.right.right.right.right.below0).part HF0.out; obtain ⟨_, p1, _, _⟩ := (r.below (sz := 4) (fun _ => rfl) hS3.right.right.right.right.right.right.right.right.below0).part HF1.out))
      refine hR _ _ ?_ ?_
      · repeat (first | refine obl_cons rfl rfl (by go_simp <;> first | exact IntWalk.i64_in _ (by omega) | rfl) ?_ | refine obl_consg rfl rfl rfl (by go_simp) (by go_simp <;> first | exact IntWalk.i64_in _ (by omega) | rfl) ?_ | refine obl_skip rfl rfl rfl (by go_simp) (by go_simp) ?_)
        exact obl_nil
      clear hR R
      repeat' (first | (refine wpC_rdp rfl rfl (fun K hK => ?_); go_simp; (try go_bits)) | (refine wpC_rdg rfl rfl rfl (fun K hK => ?_); go_simp; (try go_bits)) | (refine hK _ ?_; clear hK K))
      refine wpC_wrp rfl rfl (fun R hR => ?_)
      go_wp2
      refine hR _ _ ?_ ?_
      · repeat (first | refine obl_cons rfl rfl (by go_simp <;> first | exact IntWalk.i64_in _ (by omega) | rfl) ?_ | refine obl_consg rfl rfl rfl (by go_simp) (by go_simp <;> first | exact IntWalk.i64_in _ (by omega) | rfl) ?_ | refine obl_skip rfl rfl rfl (by go_simp) (by go_simp) ?_)
        exact obl_nil
      clear hR R
      replace hS3 := (hS3.alloc [.int .i64 q0.1.lo, .int .i64 q1.1.e, .int .i64 y, .int .i64 (mx nd.gaps)] 134)
      have hb2 := hS3.blk
      refine wpC_wrp rfl rfl (fun R hR => ?_)
      refine wpList_append_new rfl _ _ 132 rfl 134 _ 4 32 Try.underlying132 info134 rfl (by decide) _ _ _ _ rfl hS3.b6 _ [.int .i64 q0.1.lo, .int .i64 q1.1.e, .int .i64 y, .int .i64 (mx nd.gaps)] rfl rfl hb2 (by simp [Value.oneCell']) (by omega) (by omega) ?_
      clear hcc p0 p1 hb2
      intro v7 w5 hS5
      go_wp2
      refine hR _ _ ?_ ?_
      · exact obl_nil
      clear hR R
      refine wpC_wrp rfl rfl (fun R hR => ?_)
      go_wp2
      refine hR _ _ ?_ ?_
      · exact obl_nil
      clear hR R
      refine wpC_fin ?_
      go_wp2
      go_roundg (gk - 1)
      case measure => have := HG.out; omega
      case rel =>
        obtain ⟨y', hle, hn, hnd⟩ := Sat.node_lies hS5.rot.right.b2.right.b5.b5.b5.b5
        rw [HINN.out] at hnd
        refine ⟨i + 1, y', cs ++ [.int .i64 y :: [.bool inner, .int .i64 nd.lo, .slice A1 nd.ends.length d1, .slice A2 nd.slots.length d2, .slice A3 nd.gaps.length d3]], by have := HG.out; omega, by go_num, by rw [HSU.out]; go_num, ?_, ?_⟩
        · rw [HN1.out]
          exact (HPL.out.mono hle).snoc (y := (y, nd)) hnd
        · rw [HU1.out, HUP.out]
          simpa [encP] using hn.rot.b2
    have FF := Lib.hid hFF
    clear hFF
    refine wpC_or ?_ ?_
    · refine wpC_wrp rfl rfl (fun R hR => ?_)
      go_wp2_with (go_at_call 103; go_loud (refine (HND.out _ _ (HRS.out.below (sz := 4) (fun _ => rfl) (Sat.refl wr).drew.below0)).mono ?_); rintro e w2 ⟨v1, v2, v3, rfl, hn⟩; go_loud (replace hS := hS.drew.lift3 hn; obtain ⟨A1, d1, rfl⟩ := row_shape hS; obtain ⟨A2, d2, rfl⟩ := row_shape hS.rot; obtain ⟨A3, d3, rfl⟩ := row_shape hS.b2; have hcy2 := (rh.below (sz := 1) (fun _ => rfl) hS.right.right.right.right.right.right.right.below0).num HY.out; have hlh2 := World.block_lt_of_cell? _ _ hcy2; simp only [] at hlh2; rw [HINN.out]; clear hn hcy hcell))
      refine hR _ _ ?_ ?_
      · repeat (first | refine obl_cons rfl rfl (by go_simp <;> first | exact IntWalk.i64_in _ (by omega) | rfl) ?_ | refine obl_consg rfl rfl rfl (by go_simp) (by go_simp <;> first | exact IntWalk.i64_in _ (by omega) | rfl) ?_ | refine obl_skip rfl rfl rfl (by go_simp) (by go_simp) ?_)
        exact obl_nil
      clear hR R
      repeat' (first | (refine wpC_rdp rfl rfl (fun K hK => ?_); go_simp; (try go_bits)) | (refine wpC_rdg rfl rfl rfl (fun K hK => ?_); go_simp; (try go_bits)) | (refine hK _ ?_; clear hK K))
      refine wpC_wrp rfl rfl (fun R hR => ?_)
      go_wp2
      refine hR _ _ ?_ ?_
      · repeat (first | refine obl_cons rfl rfl (by go_simp <;> first | exact IntWalk.i64_in _ (by omega) | rfl) ?_ | refine obl_consg rfl rfl rfl (by go_simp) (by go_simp <;> first | exact IntWalk.i64_in _ (by omega) | rfl) ?_ | refine obl_skip rfl rfl rfl (by go_simp) (by go_simp) ?_)
        exact obl_nil
      clear hR R
      refine wpC_wrp rfl rfl (fun R hR => ?_)
      go_wp2
      refine hR _ _ ?_ ?_
      · exact obl_nil
      clear hR R
      exact FF.out (w2.heap.size, (A1, d1), (A2, d2), (A3, d3)) _ (hS.alloc [.int .i64 y, .bool inner, .int .i64 nd.lo, .slice A1 nd.ends.length d1, .slice A2 nd.slots.length d2, .slice A3 nd.gaps.length d3] 45)
    · refine wpC_wrp rfl rfl (fun R hR => ?_)
      go_wp2
      refine hR _ _ ?_ ?_
      · repeat (first | refine obl_cons rfl rfl (by go_simp <;> first | exact IntWalk.i64_in _ (by omega) | rfl) ?_ | refine obl_consg rfl rfl rfl (by go_simp) (by go_simp <;> first | exact IntWalk.i64_in _ (by omega) | rfl) ?_ | refine obl_skip rfl rfl rfl (by go_simp) (by go_simp) ?_)
        exact obl_nil
      clear hR R
      replace hS := hS.drew.alloc [.int .i64 0, .bool false, .int .i64 0, .slice none 0 0, .slice none 0 0, .slice none 0 0] 45
      simp only [drew_size] at hS
      refine wpC_wrp rfl rfl (fun R hR => ?_)
      go_wp2_with (go_at_call 103; go_loud (refine (HND.out _ _ (HRS.out.below (sz := 4) (fun _ => rfl) ((Sat.refl wr).drew.alloc_any _).below0)).mono ?_); rintro e w2 ⟨v1, v2, v3, rfl, hn⟩; go_loud (replace hS := hS.lift3 hn; obtain ⟨A1, d1, rfl⟩ := row_shape hS; obtain ⟨A2, d2, rfl⟩ := row_shape hS.rot; obtain ⟨A3, d3, rfl⟩ := row_shape hS.b2; have hcy2 := (rh.below (sz := 1) (fun _ => rfl) hS.right.right.right.right.right.right.right.right.below0).num HY.out; have hlh2 := World.block_lt_of_cell? _ _ hcy2; simp only [] at hlh2; have hcc := hS.b3.cell; have hff := hS.b3.frozen; rw [HINN.out]; clear hn hcy hcell))
      refine hR _ _ ?_ ?_
      · repeat (first | refine obl_cons rfl rfl (by go_simp <;> first | exact IntWalk.i64_in _ (by omega) | rfl) ?_ | refine obl_consg rfl rfl rfl (by go_simp) (by go_simp <;> first | exact IntWalk.i64_in _ (by omega) | rfl) ?_ | refine obl_skip rfl rfl rfl (by go_simp) (by go_simp) ?_)
        exact obl_nil
      clear hR R
      repeat' (first | (refine wpC_rdp rfl rfl (fun K hK => ?_); go_simp; (try go_bits)) | (refine wpC_rdg rfl rfl rfl (fun K hK => ?_); go_simp; (try go_bits)) | (refine hK _ ?_; clear hK K))
      refine wpC_wrp rfl rfl (fun R hR => ?_)
      go_wp2
      refine hR _ _ ?_ ?_
      · exact obl_nil
      clear hR R
      have hq := (((((hS.b3.set 0 (.int .i64 y)).set 1 (.bool inner)).set 2 (.int .i64 nd.lo)).set 3 (.slice A1 nd.ends.length d1)).set 4 (.slice A2 nd.slots.length d2)).set 5 (.slice A3 nd.gaps.length d3)
      simp only [List.set_cons_zero, List.set_cons_succ] at hq
      exact FF.out (wr.heap.size, (A1, d1), (A2, d2), (A3, d3)) _ hq
end Go.Proofs.Ytpiobilidhmedaa
