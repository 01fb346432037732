/-
  What samaralaw07.Made and samaralaw10.Some answer: the list of the pages of all formed areas.
-/
import Derived.Test.YtpiobilidhmedaaC2
namespace Go.Proofs.Ytpiobilidhmedaa
open Go.RowKit Go.Sl Go.Ct
set_option linter.unusedVariables false
set_option linter.unusedSimpArgs false

/-- Pages laid over pages, below n. -/
def over (f g : Nat → Pg) (n : Nat) (k : Nat) : Pg := if k < n ∧ (g k).m = true then g k else f k
theorem over_zero (f g : Nat → Pg) : over f g 0 = f := by funext k; simp [over]
theorem over_yes (f g : Nat → Pg) (n : Nat) (h : (g n).m = true) : (fun i => if i = n then g n else over f g n i) = over f g (n + 1) := by
  funext i
  unfold over
  by_cases hi : i = n
  · subst hi; simp [h]
  · have : (i < n + 1) = (i < n) := by apply propext; omega
    simp [hi, this]
theorem over_no (f g : Nat → Pg) (n : Nat) (h : (g n).m = false) : over f g (n + 1) = over f g n := by
  funext i
  unfold over
  by_cases hi : i = n
  · subst hi; simp [h]
  · have : (i < n + 1) = (i < n) := by apply propext; omega
    simp [this]
/-- The pages of the first areas. -/
def madeTo (l : List Ar) : Nat → Nat → Pg
  | 0 => fun _ => Pg.none_
  | i + 1 => match l[i]? with
    | some x => if x.ok then over (madeTo l i) (ofP x) 512 else madeTo l i
    | none => madeTo l i
theorem madeTo_yes {l : List Ar} {i : Nat} {x : Ar} (hx : l[i]? = some x) (h : x.ok = true) : madeTo l (i + 1) = over (madeTo l i) (ofP x) 512 := by simp [madeTo, hx, h]
theorem madeTo_no {l : List Ar} {i : Nat} {x : Ar} (hx : l[i]? = some x) (h : x.ok = false) : madeTo l (i + 1) = madeTo l i := by simp [madeTo, hx, h]
def madeP (l : List Ar) : Nat → Pg := madeTo l (min l.length 40)
theorem none_ok : 0 ≤ Pg.none_.a.o ∧ Pg.none_.a.o ≤ 1099511627776 := by simp [Pg.none_]
theorem ofP_ok {x : Ar} (h : x.Ok) : PgOk (ofP x) := by
  intro k
  unfold ofP ofTo
  split
  · rename_i hk
    obtain ⟨k1, k2, k3, k4, k5, k6, k7, k8, k9, k10, k11, k12, k13⟩ := h
    show 0 ≤ (x.attr k).o ∧ (x.attr k).o ≤ 1099511627776
    rw [attr_o]
    split
    · have := k13 (by omega)
      omega
    · omega
  · exact none_ok
theorem madeTo_ok (l : List Ar) (i : Nat) : PgOk (madeTo l i) := by
  induction i with
  | zero => intro k; exact none_ok
  | succ i ih =>
    intro k
    cases hx : l[i]? with
    | none => simp only [madeTo, hx]; exact ih k
    | some x =>
      cases h : x.ok with
      | false => rw [madeTo_no hx h]; exact ih k
      | true =>
        rw [madeTo_yes hx h]
        unfold over
        split
        · exact ofP_ok (x.ok_iff.1 h) k
        · exact ih k
theorem Rd.one {w : World} {b o : Nat} {l : List Ar} (h : Rd Ar.cells 6 w (some ⟨b, o, none⟩) l) {k : Nat} {x : Ar} (hx : l[k]? = some x) : Rd Ar.cells 6 w (some ⟨b, o + k * 6, none⟩) [x] := by
  obtain ⟨b', o', hA, hc⟩ := h.at (List.getElem?_eq_some_iff.1 hx).1
  cases hA
  refine .inr ⟨_, _, rfl, fun i y hy j hj => ?_⟩
  have : i = 0 := by
    have := (List.getElem?_eq_some_iff.1 hy).1
    simp at this; exact this
  subst this
  simp at hy; subst hy
  rw [Nat.zero_mul, Nat.add_zero]
  exact hc k x hx j hj
theorem pg_eta {g : Pg} (h : g.m = true) : (⟨true, g.a⟩ : Pg) = g := by cases g; simp_all
def MadePost (l : List Ar) (w : World) (e : Ending) (w' : World) : Prop := ∃ v, e = .returned v ∧ RowA w w' (Old w) v (lst (madeP l) 512)

set_option maxRecDepth 100000 in
set_option maxHeartbeats 8000000 in
theorem made_calls (A : Option Addr) (c : Nat) (l : List Ar) (w : World) (hr : Rd Ar.cells 6 w A l) (hl : l.length ≤ 1000000) (hc : l.length ≤ c) :
    Calls Try.prog 67 #[.slice A l.length c] w (MadePost l w) := by
  have hS := Sat.refl w
  go_enter Try.func67, Try.ntmps67
  go_wp2_with (refine wpList_alloc_sat rfl 177 rfl zeros177 2560 20480 info177 _ hS ?_; rw [zeros177_eq]; intro w1 hS1; clear hS)
  generalize w.heap.size = b1 at *
  go_loopg [4] (min l.length 40) (fun gk v4 w' => ∃ i : Nat, i + gk = min l.length 40 ∧ v4 = .int .i64 i ∧ Sat w w' (pt b1 (pgs (madeTo l i)) 177 * Old w))
  case atStart => exact ⟨0, by omega, rfl, hS1⟩
  case round =>
    clear hS1
    obtain ⟨i, hgk, rfl, hR⟩ := hrel
    have HG := Lib.hid hgk
    have hi : i ≤ min l.length 40 := by omega
    clear hgk
    by_cases hlt : i < l.length ∧ i < 40
    case neg =>
      have hii : i = min l.length 40 := by omega
      have HI := Lib.hid hii
      clear hii
      by_cases h2 : i < l.length
      · have h3 : ¬ (i : Int) < 40 := by omega
        clear hi hlt
        have HR2 := Lib.hid hR.right
        go_wp2_with (first
          | (refine wpList_load_sat rfl 177 _ rfl 512 175 Try.underlying177 _ 2560 20480 info177 b1 _ 177 rfl (pgs_length _) _ hR ?_)
          | (go_at_call 96; (with_reducible refine (list_calls _ _ (madeTo_ok l i)).mono ?_); rintro e w2 ⟨v, rfl, hk⟩; have hk2 := HR2.out.lift hk))
        go_ret
        refine ⟨_, rfl, ?_⟩
        unfold RowA madeP
        rw [← HI.out]
        exact hk2
      · clear hi hlt
        have HR2 := Lib.hid hR.right
        go_wp2_with (first
          | (refine wpList_load_sat rfl 177 _ rfl 512 175 Try.underlying177 _ 2560 20480 info177 b1 _ 177 rfl (pgs_length _) _ hR ?_)
          | (go_at_call 96; (with_reducible refine (list_calls _ _ (madeTo_ok l i)).mono ?_); rintro e w2 ⟨v, rfl, hk⟩; have hk2 := HR2.out.lift hk))
        go_ret
        refine ⟨_, rfl, ?_⟩
        unfold RowA madeP
        rw [← HI.out]
        exact hk2
    case pos =>
    obtain ⟨hlt1, hlt2⟩ := hlt
    have hlt3 : (i : Int) < 40 := by omega
    obtain ⟨b, o, rfl⟩ := hr.addr hlt1
    obtain ⟨x, hx⟩ : ∃ x, l[i]? = some x := ⟨l[i], by simp [hlt1]⟩
    obtain ⟨c0, c1, c2, c3, c4, c5⟩ := (hr.below (sz := 6) (fun _ => rfl) hR.right.below0).area hx
    have hyes := @madeTo_yes l i x hx
    have hno := @madeTo_no l i x hx
    generalize madeTo l i = F at *
    have HYES := Lib.hid hyes
    have HNO := Lib.hid hno
    have HX := Lib.hid hx
    clear hyes hno hx
    cases hok : x.ok with
    | false =>
      have HOK := Lib.hid hok
      clear hok
      go_wp2_with (go_at_call 94; (with_reducible refine (rformed_calls x _).mono ?_); rintro e w2 ⟨rfl, hk⟩; rw [HOK.out]; have hS2 := hR.call0 hk)
      go_roundg (gk - 1)
      case measure => have := HG.out; omega
      case rel => exact ⟨i + 1, by have := HG.out; omega, by go_num, by rw [HNO.out HOK.out]; exact hS2⟩
    | true =>
      have HOK := Lib.hid hok
      clear hok
      have hcap : ¬ (c = i) := by omega
      have hcap2 : i + 1 ≤ c := by omega
      go_wp2_with (first
        | (go_at_call 94; (with_reducible refine (rformed_calls x _).mono ?_); rintro e w2 ⟨rfl, hk⟩; rw [HOK.out]; have hS2 := hR.call0 hk; have hr2 := (hr.below (sz := 6) (fun _ => rfl) hS2.right.below0).one HX.out; clear hk c0 c1 c2 c3 c4 c5)
        | (go_at_call 95; (with_reducible refine (of_calls b (o + i * 6) (c - i) x _ hr2 (x.ok_iff.1 HOK.out)).mono ?_); rintro e w3 ⟨rfl, hk⟩; have hS3 := hS2.call0 hk; clear hk hr2)
        | (refine wpList_alloc_sat rfl 177 rfl zeros177 2560 20480 info177 _ hS3 ?_; rw [zeros177_eq]; intro w4 hS4; clear hS3)
        | (refine wpList_store_sat rfl 177 _ _ rfl rfl _ 2560 20480 info177 _ _ (pgs (ofP x)) 177 rfl rfl (pgs_length _) (pgs_length _) (pgs_one _) _ hS4 ?_; intro w5 hS5; clear hS4))
      obtain ⟨GK, hGK⟩ : ∃ n, n = gk := ⟨gk, rfl⟩
      subst hGK
      have hove := HYES.out HOK.out
      generalize ofP x = G at *
      have HOV := Lib.hid hove
      clear hove
      generalize w3.heap.size = g at *
      go_loopg [6] 512 (fun gk v6 w' => ∃ p : Nat, p + gk = 512 ∧ v6 = .int .i64 p ∧ Sat w w' (pt g (pgs G) 177 * (pt b1 (pgs (over F G p)) 177 * Old w)))
      case atStart => exact ⟨0, by omega, rfl, by rw [over_zero]; exact hS5⟩
      case round =>
        clear hS5 hS2 hR
        obtain ⟨p, hgk2, rfl, hR⟩ := hrel
        have HG2 := Lib.hid hgk2
        have hp : p ≤ 512 := by omega
        clear hgk2
        by_cases hlp : p < 512
        · have hget := fun j (hj : j < 5) => (hR.cell (p * 5 + j)).trans (pgs_get G p j hlp hj)
          have p0 := hget 0 (by omega)
          have p1 := hget 1 (by omega)
          have p2 := hget 2 (by omega)
          have p3 := hget 3 (by omega)
          have p4 := hget 4 (by omega)
          simp only [Pg.cells, Nat.add_zero, List.getElem?_cons_zero, List.getElem?_cons_succ] at p0 p1 p2 p3 p4
          clear hget
          cases hm : (G p).m with
          | false =>
            rw [hm] at p0
            have HM := Lib.hid hm
            clear hm
            go_wp2
            go_roundg (gk - 1)
            case measure => have := HG2.out; omega
            case rel => exact ⟨p + 1, by have := HG2.out; omega, by go_num, by rw [over_no _ _ _ HM.out]; exact hR⟩
          | true =>
            rw [hm] at p0
            have HM := Lib.hid hm
            clear hm
            go_wp2_with (refine wpList_store_part rfl 175 _ _ rfl rfl _ 5 40 info175 b1 (p * 5) _ (Pg.cells ⟨true, (G p).a⟩) 177 rfl rfl (by rw [pgs_length]; omega) rfl rfl _ hR.rot ?_; rw [pgs_put _ _ hlp, pg_eta HM.out, over_yes _ _ _ HM.out]; intro w6 hS6)
            go_roundg (gk - 1)
            case measure => have := HG2.out; omega
            case rel => exact ⟨p + 1, by have := HG2.out; omega, by go_num, hS6.rot⟩
        · have : p = 512 := by omega
          subst this
          go_wp2
          go_roundg (GK - 1)
          case measure => have := HG.out; omega
          case rel => exact ⟨i + 1, by have := HG.out; omega, by go_num, by rw [HOV.out]; exact hR.right⟩

theorem row_shape2 {W w : World} {v : Value} {T : TypeId} {sz n : Nat} {xs : List Value} {F : As} (h : Sat W w (row v T sz n xs * F)) : ∃ b cap, v = .slice b n cap ∧ n ≤ cap := by
  rcases h.row_open with ⟨h1, h2, _⟩ | ⟨g, cap, h1, h2, _⟩
  · exact ⟨_, _, by rw [h1, h2], by omega⟩
  · exact ⟨_, _, h1, h2⟩
theorem Sat.row_take {W w : World} {b : Option Addr} {n cap : Nat} {T : TypeId} {sz m : Nat} {xs : List Value} {F : As} (h : Sat W w (row (.slice b n cap) T sz n xs * F)) (hm : m ≤ n) :
    Sat W w (row (.slice b m cap) T sz m (xs.take (m * sz)) * F) := by
  have hlen := h.row_len
  rcases row_cases h with ⟨h1, h2, h3, h4⟩ | ⟨g, cap', cur, h1, h2, h3, h4, h5, h6⟩
  · cases h1
    have : m = 0 := by omega
    subst this; subst h3
    simpa using h4.row_start T sz
  · cases h1
    have hmn : m * sz ≤ n * sz := Nat.mul_le_mul_right _ hm
    refine h6.row_of (by omega) h3 h4 ?_ ?_
    · rw [← h5, List.take_take, Nat.min_eq_left hmn]
    · rw [List.length_take]; omega
theorem flat_take {α : Type} {enc : α → List Value} {sz : Nat} (h : ∀ x, (enc x).length = sz) (l : List α) (m : Nat) : (l.flatMap enc).take (m * sz) = (l.take m).flatMap enc := by
  induction l generalizing m with
  | nil => simp
  | cons x l ih =>
    cases m with
    | zero => simp
    | succ m =>
      rw [List.flatMap_cons, List.take_succ_cons, List.flatMap_cons, List.take_append, h, show (m + 1) * sz - sz = m * sz by rw [Nat.succ_mul]; omega, ih,
        List.take_of_length_le (by rw [h, Nat.succ_mul]; omega)]
/-- The first 24. -/
def someL (l : List Ar) : List Ar := (lst (madeP l) 512).take 24
theorem someL_len (l : List Ar) : (someL l).length = min (lst (madeP l) 512).length 24 := by simp [someL, Nat.min_comm]
def SomePost (l : List Ar) (w : World) (e : Ending) (w' : World) : Prop := ∃ v, e = .returned v ∧ RowA w w' (Old w) v (someL l)

set_option maxRecDepth 100000 in
set_option maxHeartbeats 8000000 in
theorem some_calls (A : Option Addr) (c : Nat) (l : List Ar) (w : World) (hr : Rd Ar.cells 6 w A l) (hl : l.length ≤ 1000000) (hc : l.length ≤ c) :
    Calls Try.prog 16 #[.slice A l.length c] w (SomePost l w) := by
  have hpost : ∀ v w', RowA w w' (Old w) v (someL l) → SomePost l w (.returned v) w' := fun v w' h => ⟨v, rfl, h⟩
  have hlen := someL_len l
  have htk : someL l = (lst (madeP l) 512).take 24 := rfl
  have hmade := made_calls A c l w hr hl hc
  unfold MadePost at hmade
  generalize lst (madeP l) 512 = x at *
  generalize someL l = y at *
  have HP := Lib.hid hpost
  have HT := Lib.hid htk
  have HL := Lib.hid hlen
  clear hpost htk hlen
  by_cases h24 : x.length ≤ 24
  · have hi : ¬ (24 : Int) < (x.length : Int) := by omega
    have hyx : y = x := by rw [HT.out]; exact List.take_of_length_le h24
    have HYX := Lib.hid hyx
    clear hyx
    go_enter Try.func16, Try.ntmps16
    go_wp2_with (go_at_call 67; (with_reducible refine hmade.mono ?_); rintro e w2 ⟨v, rfl, hk⟩; unfold RowA at hk; obtain ⟨bo, cap, rfl, hcap⟩ := row_shape2 hk)
    go_ret
    exact HP.out _ _ (by unfold RowA; rw [HYX.out]; exact hk)
  · have hi : (24 : Int) < (x.length : Int) := by omega
    go_enter Try.func16, Try.ntmps16
    go_wp2_with (go_at_call 67; (with_reducible refine hmade.mono ?_); rintro e w2 ⟨v, rfl, hk⟩; unfold RowA at hk; obtain ⟨bo, cap, rfl, hcap⟩ := row_shape2 hk)
    go_ret
    refine HP.out _ _ ?_
    have h1 : y.length = 24 := by have := HL.out; omega
    unfold RowA
    rw [h1, HT.out, ca, ← flat_take (enc := Ar.cells) (sz := 6) (fun _ => rfl)]
    exact Sat.row_take hk (by omega)
end Go.Proofs.Ytpiobilidhmedaa
