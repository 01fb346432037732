/-
  Which lists are right: what list.Right answers of every slice of areas.
-/
import Derived.Test.YtpiobilidhmedaaA3
import Derived.Test.YtpiobilidhmedaaB1
namespace Go.Proofs.Ytpiobilidhmedaa
open Go.RowKit Go.Sl Go.Ct
set_option linter.unusedVariables false
set_option linter.unusedSimpArgs false

/-- May b stand behind a in a right list? -/
def Ar.next (a b : Ar) : Bool := decide (a.e ≤ b.s) && !(a.ok && b.ok && decide (a.goes b))
def rightFrom : Option Ar → List Ar → Bool
  | _, [] => true
  | p, a :: l => a.ok && (match p with | none => true | some b => b.next a) && rightFrom (some a) l
def right (l : List Ar) : Bool := rightFrom none l
/-- The step at a place. -/
def stepOk (l : List Ar) (k : Nat) : Bool := match l[k]? with
  | none => true
  | some a => a.ok && (if k = 0 then true else match l[k - 1]? with | none => true | some b => b.next a)
theorem rightFrom_iff (l : List Ar) (p : Option Ar) : rightFrom p l = true ↔ ∀ k a, l[k]? = some a → a.ok = true ∧ (match (if k = 0 then p else l[k - 1]?) with | none => True | some b => b.next a = true) := by
  induction l generalizing p with
  | nil => simp [rightFrom]
  | cons x l ih =>
    simp only [rightFrom, Bool.and_eq_true, ih]
    constructor
    · rintro ⟨⟨h1, h2⟩, h3⟩ k a hk
      cases k with
      | zero =>
        simp only [List.getElem?_cons_zero, Option.some.injEq] at hk
        subst hk
        refine ⟨h1, ?_⟩
        cases p <;> simp_all
      | succ k =>
        simp only [List.getElem?_cons_succ] at hk
        have := h3 k a hk
        refine ⟨this.1, ?_⟩
        cases k with
        | zero => simpa using this.2
        | succ k => simpa using this.2
    · intro h
      refine ⟨⟨(h 0 x rfl).1, ?_⟩, fun k a hk => ?_⟩
      · have := (h 0 x rfl).2
        cases p <;> simp_all
      · have := h (k + 1) a (by simpa using hk)
        refine ⟨this.1, ?_⟩
        cases k with
        | zero => simpa using this.2
        | succ k => simpa using this.2
theorem right_iff (l : List Ar) : right l = true ↔ ∀ k, k < l.length → stepOk l k = true := by
  unfold right
  rw [rightFrom_iff]
  constructor
  · intro h k hk
    have hx : l[k]? = some l[k] := by simp [hk]
    have := h k l[k] hx
    unfold stepOk
    rw [hx]
    simp only [Bool.and_eq_true]
    refine ⟨this.1, ?_⟩
    by_cases h0 : k = 0
    · simp [h0]
    · rw [if_neg h0]
      have h2 := this.2
      rw [if_neg h0] at h2
      cases hp : l[k - 1]? with
      | none => rfl
      | some b => rw [hp] at h2; exact h2
  · intro h k a hk
    have hlt : k < l.length := (List.getElem?_eq_some_iff.1 hk).1
    have := h k hlt
    unfold stepOk at this
    rw [hk] at this
    simp only [Bool.and_eq_true] at this
    refine ⟨this.1, ?_⟩
    by_cases h0 : k = 0
    · simp [h0]
    · rw [if_neg h0]
      have h2 := this.2
      rw [if_neg h0] at h2
      cases hp : l[k - 1]? with
      | none => trivial
      | some b => rw [hp] at h2; exact h2

theorem Rd.addr {α : Type} {enc : α → List Value} {sz : Nat} {w : World} {A : Option Addr} {l : List α} (h : Rd enc sz w A l) {k : Nat} (hk : k < l.length) : ∃ b o, A = some ⟨b, o, none⟩ :=
  let ⟨b, o, hA, _⟩ := h.at hk; ⟨b, o, hA⟩
theorem Rd.area {w : World} {b o : Nat} {l : List Ar} (h : Rd Ar.cells 6 w (some ⟨b, o, none⟩) l) {k : Nat} {x : Ar} (hx : l[k]? = some x) :
    w.cell? ⟨b, o + k * 6, none⟩ = some (.int .i64 x.s) ∧ w.cell? ⟨b, o + k * 6 + 1, none⟩ = some (.int .i64 x.e) ∧ w.cell? ⟨b, o + k * 6 + 2, none⟩ = some (.int .i64 x.p) ∧
    w.cell? ⟨b, o + k * 6 + 3, none⟩ = some (.bool x.sh) ∧ w.cell? ⟨b, o + k * 6 + 4, none⟩ = some (.int .i64 x.b) ∧ w.cell? ⟨b, o + k * 6 + 5, none⟩ = some (.int .i64 x.o) := by
  obtain ⟨b', o', hA, hc⟩ := h.at (List.getElem?_eq_some_iff.1 hx).1
  cases hA
  exact ⟨hc k x hx 0 (by omega), hc k x hx 1 (by omega), hc k x hx 2 (by omega), hc k x hx 3 (by omega), hc k x hx 4 (by omega), hc k x hx 5 (by omega)⟩

set_option maxRecDepth 100000 in
set_option maxHeartbeats 4000000 in
theorem right_calls (A : Option Addr) (c : Nat) (l : List Ar) (w : World) (hr : Rd Ar.cells 6 w A l) (hl : l.length ≤ 1000000) :
    Calls Try.prog 68 #[.slice A l.length c] w fun e w' => e = .returned (.bool (right l)) ∧ Sat w w' (Old w) := by
  have hS := Sat.refl w
  go_enter Try.func68, Try.ntmps68
  go_wp2
  go_loopw [7] (fun v7 w' => ∃ k : Nat, k ≤ l.length ∧ v7 = .int .i64 k ∧ (∀ j, j < k → stepOk l j = true) ∧ Sat w w' (Old w)) (fun v7 _ => l.length - (intOf v7).toNat)
  case atStart => exact ⟨0, Nat.zero_le _, rfl, by simp, hS⟩
  case round =>
    obtain ⟨k, hk, rfl, hpos, hS1⟩ := hrel
    have HP := Lib.hid hpos
    clear hpos
    by_cases hlt : k < l.length
    · have hr1 := hr.below (sz := 6) (fun _ => rfl) hS1.below0
      obtain ⟨b, o, rfl⟩ := hr.addr hlt
      obtain ⟨x, hx⟩ : ∃ x, l[k]? = some x := ⟨l[k], by simp [hlt]⟩
      obtain ⟨c0, c1, c2, c3, c4, c5⟩ := hr1.area hx
      have HX := Lib.hid hx
      clear hx
      have hS2 := (hS1.alloc x.cells 130).drew
      go_wp2
      refine wp_region_ct (.rd 0 (.wr 1 [] (.rd 2 (.rd 3 (.rd 4 (.rd 5 (.rd 6 (.rd 7 (.rd 8 (.rd 9 (.rd 10 (.rd 11 (.rd 12 (.rd 13 (.rd 14 (.rd 15 (.rd 16 (.rd 17 (.rd 18 (.rd 19 (.rd 20 (.rd 21 (.rd 22 (.wr 23 [] (.rd 24 (.rd 25 (.rd 26 .fin))) .stop)))))))))))))))))))))) .stop)) 40 mixed (by kernel_rfl) (Nat.le_refl _) (fun c a a' w e h => ⟨e ▸ h.1, h.2⟩) ?_
      repeat' (first | (refine wpC_rdp rfl rfl (fun K hK => ?_); go_simp; (try go_bits)) | (refine wpC_rdg rfl rfl rfl (fun K hK => ?_); go_simp; (try go_bits)) | (refine hK _ ?_; clear hK K) | (split <;> rename_i hsp))
      refine wpC_wrp rfl rfl (fun R hR => ?_)
      go_wp2_with (go_at_call 97; (with_reducible refine (aformed_calls x _).mono ?_); rintro e w1 ⟨rfl, hk1⟩)
      refine hR _ _ obl_nil ?_
      clear hR R
      have hS3 := hS2.call0 hk1
      clear hk1 hS2 c0 c1 c2 c3 c4 c5
      have no : stepOk l k = false → false = right l := by
        intro h
        symm
        rw [← Bool.not_eq_true, right_iff]
        intro hall
        rw [hall k hlt] at h; cases h
      generalize hok : x.ok = ok at *
      have HOK := Lib.hid hok
      clear hok
      cases ok with
      | false =>
        repeat' (first | (refine wpC_rdp rfl rfl (fun K hK => ?_); go_simp; (try go_bits)) | (refine wpC_rdg rfl rfl rfl (fun K hK => ?_); go_simp; (try go_bits)) | (refine hK _ ?_; clear hK K) | (split <;> rename_i hsp))
        refine wpC_wrs rfl rfl rfl (by go_simp) obl_nil ?_
        repeat' (first | (refine wpC_rdp rfl rfl (fun K hK => ?_); go_simp; (try go_bits)) | (refine wpC_rdg rfl rfl rfl (fun K hK => ?_); go_simp; (try go_bits)) | (refine hK _ ?_; clear hK K) | (split <;> rename_i hsp))
        refine wpC_fin ?_
        go_wp2
        go_ret
        exact ⟨ret_bool (no (by unfold stepOk; rw [HX.out]; simp [HOK.out])), hS3.right⟩
      | true =>
        rcases Nat.eq_zero_or_pos k with h0 | h0
        · subst h0
          repeat' (first | (refine wpC_rdp rfl rfl (fun K hK => ?_); go_simp; (try go_bits)) | (refine wpC_rdg rfl rfl rfl (fun K hK => ?_); go_simp; (try go_bits)) | (refine hK _ ?_; clear hK K) | (split <;> rename_i hsp))
          refine wpC_wrs rfl rfl rfl (by go_simp) obl_nil ?_
          repeat' (first | (refine wpC_rdp rfl rfl (fun K hK => ?_); go_simp; (try go_bits)) | (refine wpC_rdg rfl rfl rfl (fun K hK => ?_); go_simp; (try go_bits)) | (refine hK _ ?_; clear hK K) | (split <;> rename_i hsp))
          refine wpC_fin ?_
          go_wp2
          go_roundw
          case rel =>
            refine ⟨1, by omega, rfl, fun j hj => ?_, hS3.right⟩
            have : j = 0 := by omega
            subst this
            unfold stepOk; rw [HX.out]; simp [HOK.out]
          case measure => simp [intOf]; omega
        · obtain ⟨y, hy⟩ : ∃ y, l[k - 1]? = some y := ⟨l[k - 1], by rw [List.getElem?_eq_getElem]⟩
          have hr3 := hr.below (sz := 6) (fun _ => rfl) hS3.right.below0
          obtain ⟨d0, d1, d2, d3, d4, d5⟩ := hr3.area hy
          have e0 := hS3.cell
          unfold Ar.cells at e0
          have hk1 : (1 : Int) ≤ (k : Int) := by omega
          have hk3 : (k : Int) - 1 < (l.length : Int) := by omega
          have HY := Lib.hid hy
          clear hy
          have stepk : stepOk l k = y.next x := by
            unfold stepOk; rw [HX.out]; simp only [HOK.out, Bool.true_and]; rw [if_neg (by omega), HY.out]
          have HST := Lib.hid stepk
          clear stepk
          by_cases hgt : x.s < y.e
          case neg =>
            repeat' (first | (refine wpC_rdp rfl rfl (fun K hK => ?_); go_simp; (try go_bits)) | (refine wpC_rdg rfl rfl rfl (fun K hK => ?_); go_simp; (try go_bits)) | (refine hK _ ?_; clear hK K) | (split <;> rename_i hsp))
            refine wpC_wrg rfl rfl rfl (by go_simp) (fun R hR => ?_)
            go_wp2_with (go_at_call 98; (with_reducible refine (goes_calls y x _).mono ?_); rintro e w2 ⟨rfl, hk2⟩)
            refine hR _ _ obl_nil ?_
            clear hR R
            have hS4 := hS3.call0 hk2
            clear hk2
            have hg : (y.ok && x.ok && decide (y.goes x)) = !(y.next x) := by
              have : y.e ≤ x.s := by omega
              simp [Ar.next, this]
            rw [hg]
            clear hg
            generalize hn : y.next x = n at *
            have HN := Lib.hid hn
            clear hn
            cases n with
            | true =>
              repeat' (first | (refine wpC_rdp rfl rfl (fun K hK => ?_); go_simp; (try go_bits)) | (refine wpC_rdg rfl rfl rfl (fun K hK => ?_); go_simp; (try go_bits)) | (refine hK _ ?_; clear hK K) | (split <;> rename_i hsp))
              refine wpC_fin ?_
              go_wp2
              go_roundw
              case rel =>
                refine ⟨k + 1, by omega, by go_num, fun j hj => ?_, hS4.right⟩
                by_cases hjk : j = k
                · subst hjk; rw [HST.out]
                · exact HP.out j (by omega)
              case measure => simp [intOf]; omega
            | false =>
              repeat' (first | (refine wpC_rdp rfl rfl (fun K hK => ?_); go_simp; (try go_bits)) | (refine wpC_rdg rfl rfl rfl (fun K hK => ?_); go_simp; (try go_bits)) | (refine hK _ ?_; clear hK K) | (split <;> rename_i hsp))
              refine wpC_fin ?_
              go_wp2
              go_ret
              exact ⟨ret_bool (no HST.out), hS4.right⟩
          case pos =>
            repeat' (first | (refine wpC_rdp rfl rfl (fun K hK => ?_); go_simp; (try go_bits)) | (refine wpC_rdg rfl rfl rfl (fun K hK => ?_); go_simp; (try go_bits)) | (refine hK _ ?_; clear hK K) | (split <;> rename_i hsp))
            refine wpC_wrs rfl rfl rfl (by go_simp) obl_nil ?_
            repeat' (first | (refine wpC_rdp rfl rfl (fun K hK => ?_); go_simp; (try go_bits)) | (refine wpC_rdg rfl rfl rfl (fun K hK => ?_); go_simp; (try go_bits)) | (refine hK _ ?_; clear hK K) | (split <;> rename_i hsp))
            refine wpC_fin ?_
            go_wp2
            go_ret
            exact ⟨ret_bool (no (by rw [HST.out]; simp [Ar.next]; omega)), hS3.right⟩
    · go_wp2
      go_ret
      refine ⟨ret_bool ?_, hS1⟩
      symm
      rw [right_iff]
      exact fun j hj => HP.out j (by omega)
end Go.Proofs.Ytpiobilidhmedaa
