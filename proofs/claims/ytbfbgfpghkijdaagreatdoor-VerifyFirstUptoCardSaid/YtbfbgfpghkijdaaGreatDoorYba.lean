/- lemmalaw texts, part 27. -/
import Derived.Test.YtbfbgfpghkijdaaGreatDoorYaz
set_option maxRecDepth 100000
set_option linter.unusedVariables false
set_option linter.unusedSimpArgs false
set_option maxHeartbeats 32000000
namespace Go.Proofs.YtbfbgfpghkijdaaGreatDoor
open Go.RowKit
theorem G2 {α β : Type} [DecidableEq α] : ∀ {l : List (α × β)} {j : Nat} (h : j < l.length), (l.map (·.1)).Nodup → AJ l[j].1 l = some l[j].2
 | (k, v) :: l, 0, _, _ => by simp [AJ]
 | (k, v) :: l, j + 1, h, hn => by
  simp only [List.map_cons, List.nodup_cons] at hn
  have hj : j < l.length := by simpa using h
  have ih := G2 hj hn.2
  have hne : l[j].1 ≠ k := fun e => hn.1 (List.mem_map.2 ⟨l[j], List.getElem_mem hj, e⟩)
  simp only [List.getElem_cons_succ]
  unfold AJ
  rw [if_neg hne]
  exact ih
theorem Ot {α β : Type} [DecidableEq α] {x : α} : ∀ {l : List (α × β)}, (∀ j (h : j < l.length), l[j].1 ≠ x) → AJ x l = none
 | [], _ => rfl
 | (k, v) :: l, h => by
  have h0 : k ≠ x := h 0 (by simp)
  unfold AJ
  rw [if_neg (Ne.symm h0)]
  exact Ot fun j hj => h (j + 1) (by simpa using hj)
def Cg : Bx → List Value → List Value
 | b :: l, v :: m => [.int .i64 b.1, v] ++ Cg l m
 | _, _ => []
theorem Jr : ∀ (l : Bx) (m : List Value) (k : Nat) (h : k < l.length) (h2 : k < m.length), ((Cg l m).drop (k * 2)).take 2 = [.int .i64 l[k].1, m[k]]
 | x :: l, y :: m, 0, _, _ => by simp [Cg]
 | x :: l, y :: m, k + 1, h, h2 => by
  have := Jr l m k (by simpa using h) (by simpa using h2)
  rw [show (k + 1) * 2 = 2 + k * 2 by omega, ← List.drop_drop]
  have e : (Cg (x :: l) (y :: m)).drop 2 = Cg l m := by simp [Cg]
  rw [e]
  simpa using this
theorem Ie (h : Int × List Int) (v : Value) : ∀ (l : Bx) (m : List Value), m.length = l.length → Cg (l ++ [h]) (m ++ [v]) = Cg l m ++ [.int .i64 h.1, v]
 | [], [], _ => by simp [Cg]
 | x :: l, y :: m, e => by simp [Cg, Ie h v l m (by simpa using e)]
 | [], _ :: _, e => by simp at e
 | _ :: _, [], e => by simp at e
structure Dk (w : World) (v : Value) (evs : List Value) (s : Bx) : Prop where
 row : Row w 291 2 v s.length (Cg s evs)
 exprs : Bm (fun b ev => Seg w ev b.2) s evs
theorem Dk.same {w w' : World} {v : Value} {evs : List Value} {s : Bx} (h : Dk w v evs s) (hs : Ad [] w w') : Dk w' v evs s := ⟨h.row.same hs (by simp), h.exprs.imp fun _ _ hx => hx.same hs⟩
theorem Dk.at {w : World} {v : Value} {evs : List Value} {s : Bx} (h : Dk w v evs s) {k : Nat} (hk : k < s.length) :
  ∃ g c ev, v = .slice (some ⟨g, 0, none⟩) s.length c ∧ Seg w ev s[k].2 ∧ w.cell? ⟨g, k * 2, none⟩ = some (.int .i64 s[k].1) ∧ w.cell? ⟨g, k * 2 + 1, none⟩ = some ev ∧ g < w.heap.size := by
 have hel : k < evs.length := by rw [h.exprs.len]; exact hk
 obtain ⟨ev, hev, hin⟩ := h.exprs.get (List.getElem?_eq_getElem hk)
 have he : evs[k] = ev := by rw [List.getElem?_eq_getElem hel] at hev; exact Option.some.inj hev
 obtain ⟨g, c, hv, hcell⟩ := h.row.elem hk (ys := [.int .i64 s[k].1, evs[k]]) rfl (Jr s evs k hk hel) (by decide)
 exact ⟨g, c, ev, hv, hin, (hcell 0 (by decide)).1, by rw [← he]; exact (hcell 1 (by decide)).1, World.block_lt_of_cell? _ _ (hcell 0 (by decide)).1⟩
abbrev Ea (s : Bx) : Prop := (s.map (·.1)).Pairwise (· < ·)
theorem Ea.nodup {s : Bx} (h : Ea s) : (s.map (·.1)).Nodup := h.imp fun {a b} hab => by omega
theorem Ea.lt {s : Bx} (h : Ea s) {i j : Nat} (hij : i < j) (hj : j < s.length) : s[i].1 < s[j].1 := by
 have := List.pairwise_iff_getElem.1 h i j (by simp; omega) (by simpa using hj) hij
 simpa using this
structure E3 (w : World) (v : Value) (s : Bx) : Prop where
 own : ∃ evs, Row w 291 2 v s.length (Cg s evs) ∧ Bm (fun (b : Int × List Int) ev => Row w 3 1 ev b.2.length (Ay b.2)) s evs
 rise : Ea s
 n : s.length ≤ 1000000
 en : ∀ b ∈ s, b.2.length ≤ 1000000
theorem E3.ex {w : World} {v : Value} {s : Bx} (h : E3 w v s) : ∃ evs, Dk w v evs s := by
 obtain ⟨evs, h1, h2⟩ := h.own
 exact ⟨evs, h1, h2.imp fun _ _ h => Seg.of_row h⟩
theorem E3.same {w w' : World} {v : Value} {s : Bx} (h : E3 w v s) (hs : Ad [] w w') : E3 w' v s := ⟨h.own.imp fun _ hx => ⟨hx.1.same hs (by simp), hx.2.imp fun _ _ h => h.same hs (by simp)⟩, h.rise, h.n, h.en⟩
theorem E3.other {w w' : World} {v : Value} {s : Bx} (h : E3 w v s) {b : Nat} {cs : Array Value} {t : TypeId} {fr : Nat × Nat} (hb : w.heap[b]? = some (.cells cs t fr)) (h1 : 291 ≠ t) (h2 : 3 ≠ t) (hs : Ad [b] w w') : E3 w' v s :=
 ⟨h.own.imp fun _ hx => ⟨hx.1.same hs fun c hc hm => by rw [List.mem_singleton] at hm; subst hm; exact hx.1.ne hb h1 hc, hx.2.imp fun _ _ h => h.same hs fun c hc hm => by rw [List.mem_singleton] at hm; subst hm; exact h.ne hb h2 hc⟩, h.rise, h.n, h.en⟩
def Iv (x y : Int) : Int := if x < y then -1 else if y < x then 1 else 0
theorem zq83 {P : Prop} (h : P := by
 go_enter Tryz.func185, Tryz.ntmps185
 go_wp2
 go_ret
 exact ⟨rfl, Ad.alloc _ _ _⟩) : P := h
theorem OP (w : World) (x y : Int) (ev : Value) : Calls Tryz.prog 185 #[.agg #[.int .i64 x, ev], .int .i64 y] w fun e w' => e = .returned (.int .i64 (Iv x y)) ∧ Ad [] w w' := by
 unfold Iv
 rcases Int.lt_trichotomy x y with h | h | h
 ·rw [if_pos h]
  have h1 : decide (x < y) = true := decide_eq_true h
  clear h
  exact zq83
 ·subst h
  rw [if_neg (by omega), if_neg (by omega)]
  have h1 : decide (x < x) = false := decide_eq_false (by omega)
  exact zq83
 ·rw [if_neg (by omega), if_pos h]
  have h1 : decide (x < y) = false := decide_eq_false (by omega)
  have h2 : decide (y < x) = true := decide_eq_true h
  clear h
  exact zq83
def QD (w : World) (s : Bx) (x : Int) (a b : Value) (W : World) : Prop :=
 ∃ lo hi : Nat, lo ≤ hi ∧ hi ≤ s.length ∧ a = .int .i64 lo ∧ b = .int .i64 hi ∧ Ad [] w W ∧ (∀ j (h : j < s.length), j < lo → s[j].1 < x) ∧ ∀ j (h : j < s.length), hi ≤ j → x ≤ s[j].1
def RL (s : Bx) (x : Int) (w : World) (e : Ending) (w' : World) : Prop := ∃ i : Nat, e = .returned (.tuple #[.int .i64 i, .bool (AJ x s).isSome]) ∧ Ad [] w w' ∧ i ≤ s.length ∧ ((AJ x s).isSome = true → ∃ h : i < s.length, s[i].1 = x)
theorem QD.found {s : Bx} {x : Int} (hr : Ea s) {i : Nat} (h1 : ∀ j (h : j < s.length), j < i → s[j].1 < x) (h2 : ∀ j (h : j < s.length), i ≤ j → x ≤ s[j].1) : (AJ x s).isSome = true ↔ ∃ h : i < s.length, s[i].1 = x := by
 constructor
 ·intro hs
  by_cases hi : ∃ h : i < s.length, s[i].1 = x
  ·exact hi
  ·exfalso
   have : AJ x s = none := Ot fun j hj e => by
    rcases Nat.lt_trichotomy j i with h | h | h
    ·have := h1 j hj h; omega
    ·subst h; exact hi ⟨hj, e⟩
    ·have a := h2 i (by omega) (Nat.le_refl _)
     have b := hr.lt h hj
     omega
   rw [this] at hs
   cases hs
 ·rintro ⟨h, e⟩
  have := G2 h hr.nodup
  rw [e] at this
  rw [this]
  rfl
theorem Pa (w : World) (v : Value) (evs : List Value) (s : Bx) (h : Dk w v evs s) (hr : Ea s) (hn : s.length ≤ 1000000) (x : Int) :
  Calls Tryz.prog 184 #[v, .int .i64 x, .func (.func 185) #[] #[]] w (RL s x w) := by
 obtain ⟨Av, cv, rfl⟩ := h.row.shape
 have H := Kd h
 have Hr := Kd hr
 have hof := fun (W : World) (a : Int) (ev : Value) => OP W a x ev
 clear h hr
 go_enter Tryz.func184, Tryz.ntmps184
 go_wp2
 have h0 : QD w s x (.int .i64 0) (.int .i64 s.length) w := ⟨0, s.length, Nat.zero_le _, Nat.le_refl _, rfl, rfl, Ad.refl _ _, fun j h hj => absurd hj (by omega), fun j h hj => by omega⟩
 have H0 := Kd h0
 clear h0
 go_loopw [9, 10] (fun a b wr => QD w s x a b wr) (fun a b _ => (intOf b).toNat - (intOf a).toNat)
 case atStart => exact H0.out
 case round =>
  obtain ⟨lo, hi, h1, h2, rfl, rfl, hsm, h3, h4⟩ := hrel
  by_cases hlt : lo < hi
  ·obtain ⟨m, hm⟩ : ∃ m, (lo + hi) / 2 = m := ⟨_, rfl⟩
   have hmi : ((lo : Int) + hi) / 2 = m := by omega
   have hml : m < s.length := by omega
   have hm1 : lo ≤ m := by omega
   have hm2 : m < hi := by omega
   obtain ⟨g, c, ev, hv, hse, t0, t1, hgl⟩ := (H.out.same hsm).at hml
   cases hv
   have H3 := Kd h3
   have H4 := Kd h4
   have Hsm := Kd hsm
   have hofm := fun (W : World) => hof W s[m].1 ev
   by_cases hx : s[m].1 < x
   ·have e1 : Iv s[m].1 x = -1 := if_pos hx
    rw [e1] at hofm
    have Hx := Kd hx
    clear h3 h4 hse hsm hx e1 H0 hof
    go_wp2_with (go_at_call 185; go_must (refine (hofm _).mono ?_; rintro e' W2 ⟨rfl, hs2⟩; have Hs2 := Kd hs2; clear hs2))
    go_roundw
    case rel =>
     refine ⟨m + 1, hi, by omega, h2, by go_num, rfl, Hsm.out.trans Hs2.out, fun j hj hjm => ?_, H4.out⟩
     rcases Nat.lt_or_ge j m with h | h
     ·have a := Hr.out.lt h hml; have b := Hx.out; omega
     ·obtain rfl : j = m := by omega
      exact Hx.out
    case measure => simp [intOf]; omega
   ·obtain ⟨c, hc, hc0⟩ : ∃ c : Int, Iv s[m].1 x = c ∧ 0 ≤ c := ⟨_, rfl, by unfold Iv; rw [if_neg hx]; split <;> omega⟩
    rw [hc] at hofm
    have hcd : decide (c < 0) = false := decide_eq_false (by omega)
    have Hx := Kd hx
    clear h3 h4 hse hsm hx hc hc0 H0 hof
    go_wp2_with (go_at_call 185; go_must (refine (hofm _).mono ?_; rintro e' W2 ⟨rfl, hs2⟩; have Hs2 := Kd hs2; clear hs2))
    go_roundw
    case rel =>
     refine ⟨lo, m, hm1, by omega, rfl, rfl, Hsm.out.trans Hs2.out, H3.out, fun j hj hjm => ?_⟩
     have b := Hx.out
     rcases Nat.lt_or_ge m j with h | h
     ·have a := Hr.out.lt h hj; omega
     ·obtain rfl : j = m := by omega
      omega
    case measure => simp [intOf]; omega
  ·obtain rfl : lo = hi := by omega
   have hfd := QD.found Hr.out h3 h4
   have Hsm := Kd hsm
   by_cases hln : lo < s.length
   ·obtain ⟨g, c, ev, hv, hse, t0, t1, hgl⟩ := (H.out.same hsm).at hln
    cases hv
    have hofm := fun (W : World) => hof W s[lo].1 ev
    by_cases hx : s[lo].1 = x
    ·have e1 : Iv s[lo].1 x = 0 := by rw [hx]; unfold Iv; simp
     rw [e1] at hofm
     have hs := hfd.2 ⟨hln, hx⟩
     have Hs := Kd hs
     have Hx := Kd hx
     clear h3 h4 hse hsm hx e1 H0 hof hfd hs
     go_wp2_with (go_at_call 185; go_must (refine (hofm _).mono ?_; rintro e' W2 ⟨rfl, hs2⟩; have Hs2 := Kd hs2; clear hs2))
     refine bodyPost_ret_by (v := .tuple #[.int .i64 lo, .bool true]) (by simp [results, Tryz.f184, go_sem]) rfl ?_
     exact ⟨lo, by rw [Hs.out], Hsm.out.trans Hs2.out, h2, fun _ => ⟨hln, Hx.out⟩⟩
    ·have hge : x ≤ s[lo].1 := h4 lo hln (Nat.le_refl _)
     have e1 : Iv s[lo].1 x = 1 := by unfold Iv; rw [if_neg (by omega), if_pos (by omega)]
     rw [e1] at hofm
     have hs : (AJ x s).isSome = false := by
      rw [Bool.eq_false_iff]
      intro h
      obtain ⟨_, e⟩ := hfd.1 h
      exact hx e
     have Hs := Kd hs
     clear h3 h4 hse hsm hx hge e1 H0 hof hfd hs
     go_wp2_with (go_at_call 185; go_must (refine (hofm _).mono ?_; rintro e' W2 ⟨rfl, hs2⟩; have Hs2 := Kd hs2; clear hs2))
     refine bodyPost_ret_by (v := .tuple #[.int .i64 lo, .bool false]) (by simp [results, Tryz.f184, go_sem]) rfl ?_
     exact ⟨lo, by rw [Hs.out], Hsm.out.trans Hs2.out, h2, fun h => by rw [Hs.out] at h; cases h⟩
   ·have hs : (AJ x s).isSome = false := by
     rw [Bool.eq_false_iff]
     intro h
     obtain ⟨h, _⟩ := hfd.1 h
     exact hln h
    obtain rfl : lo = s.length := by omega
    have Hs := Kd hs
    clear h3 h4 hsm H0 hof hfd hs
    go_wp2
    refine bodyPost_ret_by (v := .tuple #[.int .i64 s.length, .bool false]) (by simp [results, Tryz.f184, go_sem]) rfl ?_
    exact ⟨s.length, by rw [Hs.out], Hsm.out, h2, fun h => by rw [Hs.out] at h; cases h⟩
def OfR (s : Bx) (x : Int) (w : World) (e : Ending) (w' : World) : Prop := ∃ ev, e = .returned (.tuple #[ev, .bool (AJ x s).isSome]) ∧ Seg w' ev ((AJ x s).getD []) ∧ Ad [] w w'
theorem JM (w : World) (v : Value) (s : Bx) (h : E3 w v s) (x : Int) : Calls Tryz.prog 170 #[.agg #[v], .int .i64 x] w (OfR s x w) := by
 obtain ⟨evs, hb⟩ := h.ex
 have hbs := fun (W : World) (hW : Ad [] w W) => Pa W v evs s (hb.same hW) h.rise h.n x
 unfold RL at hbs
 have hnd := h.rise.nodup
 obtain ⟨Av, cv, rfl⟩ := hb.row.shape
 have Hb := Kd hb
 have Hnd := Kd hnd
 cases hs : (AJ x s).isSome with
 | false =>
  rw [hs] at hbs
  have Hs := Kd hs
  clear h hb hs hnd
  go_enter Tryz.func170, Tryz.ntmps170
  go_wp2_with (go_at_call 184; go_must (refine (hbs _ (Ad.alloc [] _ _)).mono ?_; rintro e1 W1 ⟨i, rfl, hs1, hi, -⟩; have Hs1 := Kd hs1; clear hs1))
  refine bodyPost_ret_by (v := .tuple #[.slice none 0 0, .bool false]) (by simp [results, Tryz.f170, go_sem]) rfl ?_
  refine ⟨.slice none 0 0, by rw [Hs.out], ?_, (Ad.alloc [] _ _).trans Hs1.out⟩
  have : AJ x s = none := by
   cases ha : AJ x s with
   | none => rfl
   | some y => have := Hs.out; rw [ha] at this; cases this
  rw [this]
  exact Seg.nil _
 | true =>
  rw [hs] at hbs
  have Hs := Kd hs
  clear h hb hs hnd
  go_enter Tryz.func170, Tryz.ntmps170
  have ht0 : (w.alloc (.cells #[.slice Av s.length cv] 262)).heap[w.heap.size]? = some (.cells #[.slice Av s.length cv] 262 (0, 0)) := Aj _ _
  have Ht0 := Kd ht0
  clear ht0
  go_wp2_with (go_at_call 184; go_must (refine (hbs _ (Ad.alloc [] _ _)).mono ?_; rintro e1 W1 ⟨i, rfl, hs1, hi, hx⟩; obtain ⟨hil, hix⟩ := hx rfl; obtain ⟨g, c, ev, hv, hse, t0, t1, hgl⟩ := ((Hb.out.same (Ad.alloc [] _ _)).same hs1).at hil; cases hv; have u0 := Ai (i := 0) (v := .slice (some ⟨g, 0, none⟩) s.length cv) (hs1.get Ht0.out (by simp)); have Hs1 := Kd hs1; have Hix := Kd hix; have Hse := Kd hse; clear hs1 hse hx hix))
  refine bodyPost_ret_by (v := .tuple #[ev, .bool true]) (by simp [results, Tryz.f170, go_sem]) rfl ?_
  refine ⟨ev, by rw [Hs.out], ?_, (Ad.alloc [] _ _).trans Hs1.out⟩
  have := G2 hil Hnd.out
  rw [Hix.out] at this
  rw [this]
  exact Hse.out
def Q1 (s : Bx) (x : Int) (w : World) (e : Ending) (w' : World) : Prop := ∃ ev, e = .returned (.tuple #[ev, .bool (AJ x s).isSome]) ∧ Row w' 3 1 ev ((AJ x s).getD []).length (Ay ((AJ x s).getD [])) ∧ (∀ b, ev.ownBlock = some b → w.heap.size ≤ b) ∧ Ad [] w w'
theorem E3.some {w : World} {v : Value} {s : Bx} (h : E3 w v s) (x : Int) : ((AJ x s).getD []).length ≤ 1000000 := by
 have key : ∀ (l : Bx), (∀ b ∈ l, b.2.length ≤ 1000000) → ((AJ x l).getD []).length ≤ 1000000 := by
  intro l
  induction l with
  | nil => intro _; simp [AJ]
  | cons b l ih =>
   intro hl
   unfold AJ
   split
   ·exact hl b (List.mem_cons_self ..)
   ·exact ih fun c hc => hl c (List.mem_cons_of_mem _ hc)
 exact key s h.en
theorem Mj (w : World) (v : Value) (s : Bx) (h : E3 w v s) (x : Int) : Calls Tryz.prog 166 #[.agg #[v], .int .i64 x] w (Q1 s x w) := by
 have hof := fun (W : World) (hW : Ad [] w W) => JM W v s (h.same hW) x
 have hlen := h.some x
 unfold OfR at hof
 obtain ⟨l, hl⟩ : ∃ l, (AJ x s).getD [] = l := ⟨_, rfl⟩
 obtain ⟨b, hb⟩ : ∃ b, (AJ x s).isSome = b := ⟨_, rfl⟩
 unfold Q1
 simp only [hl, hb] at hof hlen ⊢
 clear h hl hb
 go_enter Tryz.func166, Tryz.ntmps166
 go_wp2_with (first
  | (go_at_call 170; go_must (refine (hof _ (Ad.alloc [] _ _)).mono ?_; rintro e1 W1 ⟨ev, rfl, hse, hs1⟩; have Hs1 := Kd hs1; have Hse := Kd hse; clear hs1 hse))
  | (go_at_call 51; go_must (refine (Cb ev l W1 Hse.out hlen).mono ?_; rintro e2 W2 ⟨v2, rfl, hr2, hs2, hf2⟩; obtain ⟨A2, c2, rfl⟩ := hr2.shape; have Hs2 := Kd hs2; have Hr2 := Kd hr2; have Hf2 := Kd hf2; clear hs2 hr2 hf2)))
 refine bodyPost_ret_by (v := .tuple #[.slice A2 l.length c2, .bool b]) (by simp [results, Tryz.f166, go_sem]) rfl ?_
 have hz := Hs1.out.size
 rw [AA] at hz
 exact ⟨.slice A2 l.length c2, rfl, Hr2.out, fun b hb => by have := Hf2.out b hb; omega, ((Ad.alloc [] _ _).trans Hs1.out).trans Hs2.out⟩
theorem ED (s : Bx) (e : List Int) (x : Int) : A0 s (e ++ [x]) = A0 s e ++ BH s x := by simp [A0]
theorem Gb (s : Bx) (e : List Int) (k : Nat) : (A0 s (e.take k)).length ≤ (A0 s e).length := by
 have : A0 s e = A0 s (e.take k) ++ A0 s (e.drop k) := by
  unfold A0
  rw [← List.flatMap_append, List.take_append_drop]
 rw [this, List.length_append]
 omega
def J7 (s : Bx) (e : List Int) : Nat := if 200 < (A0 s e).length then 201 else (A0 s e).length
def RP (w : World) (s : Bx) (e : List Int) (n u : Value) (W : World) : Prop :=
 ∃ k m : Nat, k ≤ e.length ∧ u = .int .i64 k ∧ n = .int .i64 m ∧ m = (A0 s (e.take k)).length ∧ m ≤ 200 ∧ Ad [] w W
theorem zq99 {P : Prop} (h : P := by
 go_ret
 refine ⟨Fc ?_, Hsm.out.trans Hs1.out⟩
 unfold J7
 rw [if_pos (by have := Hle.out; have := Hsn.out; omega)]
 rfl) : P := h
theorem NW (w : World) (v : Value) (s : Bx) (h : E3 w v s) (ve : Value) (e : List Int) (he : Seg w ve e) (hn : e.length ≤ 1000000) :
  Calls Tryz.prog 169 #[.agg #[v], ve] w fun r w' => r = .returned (.int .i64 (J7 s e)) ∧ Ad [] w w' := by
 have hof := fun (W : World) (hW : Ad [] w W) (x : Int) => JM W v s (h.same hW) x
 have hsome := h.some
 unfold OfR at hof
 obtain ⟨Ae, ce, rfl⟩ := he.shape
 have He := Kd he
 have Hof := Kd hof
 have Hso := Kd hsome
 clear h he hof hsome
 go_enter Tryz.func169, Tryz.ntmps169
 have hb0 : (w.alloc (.cells #[v] 262)).heap[w.heap.size]? = some (.cells #[v] 262 (0, 0)) := Aj _ _
 have Hb0 := Kd hb0
 clear hb0
 go_wp2
 have h0 : RP w s e (.int .i64 0) (.int .i64 0) (w.alloc (.cells #[v] 262)) := ⟨0, 0, Nat.zero_le _, rfl, rfl, by simp [A0], by omega, Ad.alloc _ _ _⟩
 have H0 := Kd h0
 clear h0
 go_loopw [5, 13] (fun n u wr => RP w s e n u wr ∧ wr.heap[w.heap.size]? = some (.cells #[v] 262 (0, 0))) (fun n u _ => e.length - (intOf u).toNat)
 case atStart => exact ⟨H0.out, Hb0.out⟩
 case round =>
  obtain ⟨⟨k, m, hk, rfl, rfl, hm, hm2, hsm⟩, hbr⟩ := hrel
  have b0 := Ai (i := 0) (v := v) hbr
  have bl := Af hbr
  by_cases hlt : k < e.length
  ·obtain ⟨g, off, rfl, t0, hgl⟩ := (He.out.same hsm).cell hlt
   have hofx := Hof.out wr hsm e[k]
   have hlx := Hso.out e[k]
   have hsn : A0 s (e.take (k + 1)) = A0 s (e.take k) ++ BH s e[k] := by rw [List.take_succ_eq_append_getElem hlt, ED]
   have hle := Gb s e (k + 1)
   have hat : BH s e[k] = (AJ e[k] s).getD [e[k]] := rfl
   have Hsm := Kd hsm
   have Hbr := Kd hbr
   cases ha : AJ e[k] s with
   | none =>
    rw [ha] at hofx hat
    simp only [Option.getD_none, Option.isSome_none] at hofx hat
    have Hsn : Hid (m + 1 = (A0 s (e.take (k + 1))).length) := Kd (by rw [hsn, List.length_append, hat, ← hm]; rfl)
    have Hle := Kd hle
    clear hm hsm hbr hsn hle hat ha H0 hlx
    by_cases hbig : m = 200
    ·subst hbig
     go_wp2_with (go_at_call 170; go_must (refine hofx.mono ?_; rintro e1 W1 ⟨ev, rfl, hse, hs1⟩; have Hs1 := Kd hs1; clear hs1 hse))
     exact zq99
    ·have hml : m < 200 := by omega
     clear hbig
     go_wp2_with (go_at_call 170; go_must (refine hofx.mono ?_; rintro e1 W1 ⟨ev, rfl, hse, hs1⟩; have Hs1 := Kd hs1; clear hs1 hse))
     go_roundw
     case rel => exact ⟨⟨k + 1, m + 1, hlt, by go_num, by go_num, Hsn.out, hml, Hsm.out.trans Hs1.out⟩, Hs1.out.get Hbr.out (by simp)⟩
     case measure => simp [intOf]; omega
   | some l =>
    rw [ha] at hofx hat hlx
    simp only [Option.getD_some, Option.isSome_some] at hofx hat hlx
    have Hsn : Hid (m + l.length = (A0 s (e.take (k + 1))).length) := Kd (by rw [hsn, List.length_append, hat, ← hm])
    have Hle := Kd hle
    clear hm hsm hbr hsn hle hat ha H0
    by_cases hl : l.length ≤ 200
    ·by_cases hbig : 200 < m + l.length
     ·go_wp2_with (go_at_call 170; go_must (refine hofx.mono ?_; rintro e1 W1 ⟨ev, rfl, hse, hs1⟩; obtain ⟨A1, c1, rfl⟩ := hse.shape; have Hs1 := Kd hs1; clear hs1 hse))
      exact zq99
     ·go_wp2_with (go_at_call 170; go_must (refine hofx.mono ?_; rintro e1 W1 ⟨ev, rfl, hse, hs1⟩; obtain ⟨A1, c1, rfl⟩ := hse.shape; have Hs1 := Kd hs1; clear hs1 hse))
      go_roundw
      case rel => exact ⟨⟨k + 1, m + l.length, hlt, by go_num, by go_num, Hsn.out, by omega, Hsm.out.trans Hs1.out⟩, Hs1.out.get Hbr.out (by simp)⟩
      case measure => simp [intOf]; omega
    ·go_wp2_with (go_at_call 170; go_must (refine hofx.mono ?_; rintro e1 W1 ⟨ev, rfl, hse, hs1⟩; obtain ⟨A1, c1, rfl⟩ := hse.shape; have Hs1 := Kd hs1; clear hs1 hse))
     all_goals
      go_ret
      refine ⟨Fc ?_, Hsm.out.trans Hs1.out⟩
      unfold J7
      rw [if_pos (by have := Hle.out; have := Hsn.out; omega)]
      rfl
  ·have hkk : k = e.length := by omega
   subst hkk
   rw [List.take_length] at hm
   have Hsm := Kd hsm
   have Hm := Kd hm
   clear hm hsm hbr H0
   go_wp2
   go_ret
   refine ⟨Fc ?_, Hsm.out⟩
   unfold J7
   rw [if_neg (by have := Hm.out; omega), ← Hm.out]
def Oa (s : Bx) (e : List Int) (w : World) (r : Ending) (w' : World) : Prop := Ad [] w w' ∧
 if 200 < (A0 s e).length then r = .returned (.tuple #[.slice none 0 0, .int .i64 31])
 else ∃ v, r = .returned (.tuple #[v, .int .i64 0]) ∧ Row w' 3 1 v (A0 s e).length (Ay (A0 s e)) ∧ ∀ b, v.ownBlock = some b → w.heap.size ≤ b
def ApI (w : World) (s : Bx) (e : List Int) (v u : Value) (W : World) : Prop :=
 ∃ (k : Nat) (l : List Int), k ≤ e.length ∧ u = .int .i64 k ∧ l = A0 s (e.take k) ∧ Row W 3 1 v l.length (Ay l) ∧ (∀ b, v.ownBlock = some b → w.heap.size < b) ∧ Ad [] w W
theorem ApI.step {w W1 W2 : World} {s : Bx} {e : List Int} {k : Nat} {v v1 : Value} {m : List Int} (hlt : k < e.length) (hf : ∀ b, v.ownBlock = some b → w.heap.size < b) (hsm : Ad [] w W1)
  (hsub : BH s e[k] = m) (hr : Row W2 3 1 v1 ((A0 s (e.take k)).length + m.length) (Ay (A0 s (e.take k)) ++ Ay m)) (hs2 : Ad v.ownBlock.toList W1 W2) (ho : v1.ownBlock = v.ownBlock ∨ ∃ b, v1.ownBlock = some b ∧ W1.heap.size ≤ b) (hz : w.heap.size < W1.heap.size) :
  ApI w s e v1 (.int .i64 ((k : Int) + 1)) W2 := by
 refine ⟨k + 1, A0 s (e.take k) ++ m, hlt, by go_num, ?_, ?_, ?_, hsm.then hs2 fun x hx => .inr (by have := hf x (Option.mem_toList.1 hx); omega)⟩
 ·rw [List.take_succ_eq_append_getElem hlt, ED, hsub]
 ·have e1 : Ay (A0 s (e.take k) ++ m) = Ay (A0 s (e.take k)) ++ Ay m := by simp [Ay]
  rw [e1, List.length_append]
  exact hr
 ·intro b hb
  rcases ho with ho | ⟨c, hc, hle⟩
  ·exact hf b (by rw [← ho]; exact hb)
  ·rw [hc] at hb; cases hb; omega
theorem Lg (w : World) (v : Value) (s : Bx) (h : E3 w v s) (ve : Value) (e : List Int) (he : Seg w ve e) (hn : e.length ≤ 1000000) :
  Calls Tryz.prog 146 #[.agg #[v], ve] w (Oa s e w) := by
 have hof := fun (W : World) (hW : Ad [] w W) (x : Int) => JM W v s (h.same hW) x
 have hsz := fun (W : World) (hW : Ad [] w W) => NW W v s (h.same hW) ve e (he.same hW) hn
 unfold OfR at hof
 unfold Oa
 obtain ⟨Ae, ce, rfl⟩ := he.shape
 have He := Kd he
 have Hof := Kd hof
 have hb0 : (w.alloc (.cells #[v] 262)).heap[w.heap.size]? = some (.cells #[v] 262 (0, 0)) := Aj _ _
 have Hb0 := Kd hb0
 clear h he hof hb0
 by_cases hbig : 200 < (A0 s e).length
 ·have hq : J7 s e = 201 := if_pos hbig
  rw [hq] at hsz
  simp only [if_pos hbig]
  clear hbig hq
  go_enter Tryz.func146, Tryz.ntmps146
  go_wp2_with (go_at_call 169; go_must (refine (hsz _ (Ad.alloc [] _ _)).mono ?_; rintro e1 W1 ⟨rfl, hs1⟩; have Hs1 := Kd hs1; clear hs1))
  go_ret2
  exact ⟨(Ad.alloc [] _ _).trans Hs1.out, rfl⟩
 ·have hq : J7 s e = (A0 s e).length := if_neg hbig
  rw [hq] at hsz
  simp only [if_neg hbig]
  obtain ⟨n, hnn⟩ : ∃ n, (A0 s e).length = n := ⟨_, rfl⟩
  have hn2 : n ≤ 200 := by omega
  have hne : ((n : Int) == 201) = false := by rw [beq_eq_false_iff_ne]; omega
  rw [hnn] at hsz
  have Hnn := Kd hnn
  obtain ⟨i, hi, hz0, hz1, hz2⟩ := Co Tryz.infoInt'
  have hby : i.bytes * n ≤ 281474976710656 := by rw [hz2]; omega
  have hml : n ≤ maxLen := by unfold maxLen; omega
  have hle : ∀ k, (A0 s (e.take k)).length ≤ 200 := fun k => by have := Gb s e k; omega
  have Hle := Kd hle
  clear hbig hq hnn hle
  go_enter Tryz.func146, Tryz.ntmps146
  go_wp2_with (first
   | (go_at_call 169; go_must (refine (hsz _ (Ad.alloc [] _ _)).mono ?_; rintro e1 W1 ⟨rfl, hs1⟩; have hb1 := hs1.get Hb0.out (by simp); have Hb1 := Kd hb1; have Hs1 := Kd hs1; clear hs1 hb1))
   | (at_make; go_must (refine wpList_make_own W1 rfl _ _ 24 rfl 0 3 i _ 1 Tryz.underlying24 hi hz0 hz1 .i64 .i64 n n rfl rfl rfl hby hml (Nat.zero_le _) ?_; intro W2 hr2 hg2; have hs2 := Ad.of_grown hg2; have Hr2 := Kd hr2; have Hs2 : Hid (Ad [] W1 W2) := Kd hs2; clear hr2 hg2 hs2)))
  have hz1 : w.heap.size < W1.heap.size := by have := Hs1.out.size; rw [AA] at this; omega
  have h0 : ApI w s e (.slice (some ⟨W1.heap.size, 0, none⟩) 0 n) (.int .i64 0) W2 := ⟨0, [], Nat.zero_le _, rfl, by simp [A0], Hr2.out, fun b hb => by cases hb; exact hz1, ((Ad.alloc [] _ _).trans Hs1.out).trans Hs2.out⟩
  have H0 := Kd h0
  have Hb2 := Kd (Hs2.out.get Hb1.out (by simp))
  have Hz2 := Kd (Nat.lt_of_lt_of_le hz1 Hs2.out.size)
  clear h0 hz1 Hb1 Hb0
  go_loopw [7, 21] (fun o u wr => ApI w s e o u wr ∧ wr.heap[w.heap.size]? = some (.cells #[v] 262 (0, 0)) ∧ w.heap.size < wr.heap.size) (fun _ u _ => e.length - (intOf u).toNat)
  case atStart => exact ⟨H0.out, Hb2.out, Hz2.out⟩
  case round =>
   obtain ⟨⟨k, l, hk, rfl, hl, hrow, hfr, hsm⟩, hbr, hzr⟩ := hrel
   obtain ⟨Ao, co, rfl⟩ := hrow.shape
   have b0 := Ai (i := 0) (v := v) hbr
   have bl := Af hbr
   by_cases hlt : k < e.length
   ·obtain ⟨g, off, rfl, t0, hgl⟩ := (He.out.same hsm).cell hlt
    have hofx := Hof.out wr hsm e[k]
    have hat : BH s e[k] = (AJ e[k] s).getD [e[k]] := rfl
    have hll : l.length ≤ 200 := by rw [hl]; exact Hle.out k
    have hll2 := Hle.out (k + 1)
    rw [List.take_succ_eq_append_getElem hlt, ED, List.length_append, ← hl] at hll2
    have Hl := Kd hl
    have Hsm := Kd hsm
    have Hbr := Kd hbr
    have Hrow := Kd hrow
    have Hfr := Kd hfr
    cases ha : AJ e[k] s with
    | none =>
     rw [ha] at hofx hat
     simp only [Option.getD_none, Option.isSome_none] at hofx hat
     have Hat := Kd hat
     clear hl hsm hbr hrow hfr hat ha H0 hll2
     go_wp2_with (first
      | (go_at_call 170; go_must (refine hofx.mono ?_; rintro e1 W3 ⟨ev, rfl, hse, hs3⟩; have Hs3 := Kd hs3; clear hs3 hse))
      | (at_builtin; refine Bh (W := W3) rfl _ _ 24 rfl 3 1 8 _ Tryz.underlying24 Tryz.infoInt' rfl (by decide) (.slice Ao l.length co) _ _ rfl (Hrow.out.same Hs3.out (by simp)) [.int .i64 e[k]] rfl rfl (by simp [Value.oneCell']) (by omega) (by decide) ?_; go_must (intro v6 W6 hr6 hs6 ho6; obtain ⟨A6, c6, rfl⟩ := hr6.shape; have Hr6 := Kd hr6; have Hs6 := Kd hs6; have Ho6 := Kd ho6; clear hr6 hs6 ho6)))
     go_roundw
     case rel =>
      have hr6 := Hr6.out
      rw [Hl.out] at hr6
      refine ⟨ApI.step hlt Hfr.out (Hsm.out.trans Hs3.out) Hat.out (v1 := .slice A6 (l.length + 1) c6) (by rw [Hl.out]; exact hr6) Hs6.out Ho6.out (Nat.lt_of_lt_of_le hzr Hs3.out.size), (Hs3.out.get Hbr.out (by simp) |> fun h => Hs6.out.get h fun hm => by have := Hfr.out _ (Option.mem_toList.1 hm); omega), Nat.lt_of_lt_of_le hzr (Nat.le_trans Hs3.out.size Hs6.out.size)⟩
     case measure => simp [intOf]; omega
    | some m =>
     rw [ha] at hofx hat
     simp only [Option.getD_some, Option.isSome_some] at hofx hat
     have hmm : m.length ≤ 200 := by rw [hat] at hll2; omega
     have Hat := Kd hat
     clear hl hsm hbr hrow hfr hat ha H0 hll2
     go_wp2_with (first
      | (go_at_call 170; go_must (refine hofx.mono ?_; rintro e1 W3 ⟨ev, rfl, hse, hs3⟩; obtain ⟨A3, c3, rfl⟩ := hse.shape; have Hs3 := Kd hs3; have Hse := Kd hse; clear hs3 hse))
      | (at_builtin; refine L2 (W := W3) rfl _ _ rfl (.slice Ao l.length co) _ _ rfl (Hrow.out.same Hs3.out (by simp)) (.slice A3 m.length c3) m rfl Hse.out (by omega) ?_; go_must (intro v6 W6 hr6 hs6 ho6; obtain ⟨A6, c6, rfl⟩ := hr6.shape; have Hr6 := Kd hr6; have Hs6 := Kd hs6; have Ho6 := Kd ho6; clear hr6 hs6 ho6)))
     go_roundw
     case rel =>
      have hr6 := Hr6.out
      rw [Hl.out] at hr6
      refine ⟨ApI.step hlt Hfr.out (Hsm.out.trans Hs3.out) Hat.out (v1 := .slice A6 (l.length + m.length) c6) (by rw [Hl.out]; exact hr6) Hs6.out Ho6.out (Nat.lt_of_lt_of_le hzr Hs3.out.size), (Hs3.out.get Hbr.out (by simp) |> fun h => Hs6.out.get h fun hm => by have := Hfr.out _ (Option.mem_toList.1 hm); omega), Nat.lt_of_lt_of_le hzr (Nat.le_trans Hs3.out.size Hs6.out.size)⟩
     case measure => simp [intOf]; omega
   ·have hkk : k = e.length := by omega
    subst hkk
    rw [List.take_length] at hl
    have Hl := Kd hl
    have Hsm := Kd hsm
    have Hrow := Kd hrow
    have Hfr := Kd hfr
    clear hl hsm hbr hrow hfr H0
    go_wp2
    go_ret2
    refine ⟨Hsm.out, .slice Ao l.length co, rfl, ?_, fun b hb => Nat.le_of_lt (Hfr.out b hb)⟩
    rw [← Hl.out]
    exact Hrow.out
end Go.Proofs.YtbfbgfpghkijdaaGreatDoor
