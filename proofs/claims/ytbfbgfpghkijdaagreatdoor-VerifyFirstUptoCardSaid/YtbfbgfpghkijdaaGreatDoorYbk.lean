/- lemmalaw texts, part 37. -/
import Derived.Test.YtbfbgfpghkijdaaGreatDoorYal
import Derived.Test.YtbfbgfpghkijdaaGreatDoorYba
import Derived.Test.YtbfbgfpghkijdaaGreatDoorYbj
set_option maxRecDepth 100000
set_option linter.unusedVariables false
set_option linter.unusedSimpArgs false
set_option maxHeartbeats 32000000
namespace Go.Proofs.YtbfbgfpghkijdaaGreatDoor
open Go.RowKit
theorem L6 (w : World) (nb : Nat) (P : BP) (B : Bs) (h : FG w nb P B) (x : Int) : Calls Tryz.prog 82 #[.pointer (some ⟨nb, 0, none⟩), .int .i64 x] w fun e w' => e = .returned (.bool (B.ld.tbl.isVar x)) ∧ w' = w := by
 have n2 := Ai (i := 2) (v := .pointer (some ⟨P.t, 0, none⟩)) h.blk
 have nl := Af h.blk
 have hiv := Ga w P.t P.TA B.ld.tbl h.tbl x
 have e : (decide (0 ≤ x) && ((B.ld.tbl.syms[x.toNat]?).map (·.2)).getD false) = B.ld.tbl.isVar x := rfl
 rw [e] at hiv
 clear h e
 go_enter Tryz.func82, Tryz.ntmps82
 go_wp2_with (go_at_call 30; go_must (refine hiv.mono ?_; rintro e1 W1 ⟨rfl, hw⟩; subst hw))
 go_ret
 exact ⟨rfl, rfl⟩
def fnB (nb : Nat) : Value := .func (.func 82) #[.pointer (some ⟨nb, 0, none⟩)] #[]
def Ik (w : World) (nb : Nat) (vars : Int → Bool) : Prop := ∀ W, Ad [] w W → ∀ x, Calls Tryz.prog 82 #[.pointer (some ⟨nb, 0, none⟩), .int .i64 x] W fun e w' => e = .returned (.bool (vars x)) ∧ w' = W
theorem Ik.same {w w' : World} {nb : Nat} {vars : Int → Bool} (h : Ik w nb vars) (hs : Ad [] w w') : Ik w' nb vars := fun W hW => h W (hs.trans hW)
theorem FG.vars {w : World} {nb : Nat} {P : BP} {B : Bs} (h : FG w nb P B) : Ik w nb B.ld.tbl.isVar := fun W hW x => L6 W nb P B (h.same hW) x
def EK (vars : Int → Bool) (out : List Int) (n : Int) : List Int := if out.contains n || !vars n then out else out ++ [n]
def ofP (vars : Int → Bool) (e : List Int) : List Int := e.foldl (EK vars) []
theorem My (vars : Int → Bool) (e : List Int) (n : Int) : ofP vars (e ++ [n]) = EK vars (ofP vars e) n := by simp [ofP]
theorem Ey {vars : Int → Bool} {x : Int} {e : List Int} : x ∈ ofP vars e ↔ x ∈ e ∧ vars x = true := by
 have key : ∀ (e out : List Int), x ∈ e.foldl (EK vars) out ↔ x ∈ out ∨ (x ∈ e ∧ vars x = true) := by
  intro e
  induction e with
  | nil => intro out; simp
  | cons n e ih =>
   intro out
   rw [List.foldl_cons, ih]
   unfold EK
   by_cases h : (out.contains n || !vars n) = true
   ·rw [if_pos h]
    simp only [Bool.or_eq_true, List.contains_eq_mem, decide_eq_true_eq, Bool.not_eq_true'] at h
    constructor
    ·rintro (h1 | ⟨h1, h2⟩)
     ·exact .inl h1
     ·exact .inr ⟨List.mem_cons_of_mem _ h1, h2⟩
    ·rintro (h1 | ⟨h1, h2⟩)
     ·exact .inl h1
     ·rcases List.mem_cons.1 h1 with rfl | h1
      ·rcases h with h | h
       ·exact .inl h
       ·rw [h] at h2; cases h2
      ·exact .inr ⟨h1, h2⟩
   ·rw [if_neg h]
    simp only [Bool.or_eq_true, List.contains_eq_mem, decide_eq_true_eq, Bool.not_eq_true', not_or, Bool.not_eq_false] at h
    rw [List.mem_append, List.mem_singleton, List.mem_cons]
    constructor
    ·rintro ((h1 | rfl) | ⟨h1, h2⟩)
     ·exact .inl h1
     ·exact .inr ⟨.inl rfl, h.2⟩
     ·exact .inr ⟨.inr h1, h2⟩
    ·rintro (h1 | ⟨rfl | h1, h2⟩)
     ·exact .inl (.inl h1)
     ·exact .inl (.inr rfl)
     ·exact .inr ⟨h1, h2⟩
 have := key e []
 simpa [ofP] using this
theorem Gf (vars : Int → Bool) (e : List Int) : (ofP vars e).length ≤ e.length := by
 have key : ∀ (e out : List Int), (e.foldl (EK vars) out).length ≤ out.length + e.length := by
  intro e
  induction e with
  | nil => intro out; simp
  | cons n e ih =>
   intro out
   have := ih (EK vars out n)
   have h2 : (EK vars out n).length ≤ out.length + 1 := by unfold EK; split <;> simp
   rw [List.foldl_cons, List.length_cons]
   omega
 have := key e []
 simpa [ofP] using this
structure PM (w : World) (vars : Int → Bool) (e : List Int) (k : Nat) (out : List Int) (v : Value) (W : World) : Prop where
 eq : out = ofP vars (e.take k)
 row : Row W 3 1 v out.length (Ay out)
 own : ∀ b, v.ownBlock = some b → w.heap.size < b
 set : Cn EN W w.heap.size (El (e.take k))
 base : Ad [] w W
def OfI (w : World) (vars : Int → Bool) (e : List Int) (v u : Value) (W : World) : Prop := ∃ (k : Nat) (out : List Int), k ≤ e.length ∧ u = .int .i64 k ∧ PM w vars e k out v W
theorem PM.skip {w W W1 W2 : World} {vars : Int → Bool} {e : List Int} {k : Nat} {out : List Int} {v : Value} (h : PM w vars e k out v W) (hk : k < e.length) (hs : Ad [] W W1) (hset : Cn EN W2 w.heap.size (Bd e[k] (.agg #[]) (El (e.take k)))) (hs2 : Ad [w.heap.size] W1 W2)
  (hc : ((e.take k).contains e[k] || !vars e[k]) = true) : OfI w vars e v (.int .i64 ((k : Int) + 1)) W2 := by
 refine ⟨k + 1, out, hk, by go_num, ?_, ?_, h.own, ?_, (h.base.trans hs).then hs2 fun x hx => .inr (by simp at hx; omega)⟩
 ·rw [List.take_succ_eq_append_getElem hk, My, ← h.eq]
  unfold EK
  rw [if_pos ?_]
  simp only [Bool.or_eq_true, List.contains_eq_mem, decide_eq_true_eq, Bool.not_eq_true'] at hc ⊢
  rcases hc with hc | hc
  ·cases hv : vars e[k] with
   | false => exact .inr rfl
   | true => left; rw [h.eq]; exact Ey.2 ⟨hc, hv⟩
  ·exact .inr hc
 ·exact (h.row.same hs (by simp)).same hs2 fun b hb hm => by have := h.own b hb; simp at hm; omega
 ·rw [List.take_succ_eq_append_getElem hk, F6]; exact hset
theorem PM.push {w W W1 W2 W3 : World} {vars : Int → Bool} {e : List Int} {k : Nat} {out : List Int} {v v1 : Value} (h : PM w vars e k out v W) (hk : k < e.length) (hs : Ad [] W W1) (hr : Row W2 3 1 v1 (out.length + 1) (Ay out ++ [.int .i64 e[k]])) (hs1 : Ad v.ownBlock.toList W1 W2)
  (ho : v1.ownBlock = v.ownBlock ∨ ∃ b, v1.ownBlock = some b ∧ W1.heap.size ≤ b) (hz : w.heap.size < W1.heap.size) (hset : Cn EN W3 w.heap.size (Bd e[k] (.agg #[]) (El (e.take k)))) (hs2 : Ad [w.heap.size] W2 W3)
  (hc : (e.take k).contains e[k] = false) (hv : vars e[k] = true) : OfI w vars e v1 (.int .i64 ((k : Int) + 1)) W3 := by
 have hown : ∀ b, v1.ownBlock = some b → w.heap.size < b := fun b hb => by
  exact zq104
 have hnc : e[k] ∉ e.take k := by simpa using hc
 refine ⟨k + 1, out ++ [e[k]], hk, by go_num, ?_, ?_, hown, ?_, ((h.base.trans hs).then hs1 fun x hx => .inr (Nat.le_of_lt (h.own x (Option.mem_toList.1 hx)))).then hs2 fun x hx => .inr (by simp at hx; omega)⟩
 ·rw [List.take_succ_eq_append_getElem hk, My, ← h.eq]
  unfold EK
  rw [if_neg ?_]
  simp only [Bool.or_eq_true, List.contains_eq_mem, decide_eq_true_eq, Bool.not_eq_true', not_or, Bool.not_eq_false]
  exact ⟨fun hm => hnc (Ey.1 (by rw [← h.eq]; exact hm)).1, hv⟩
 ·rw [Cq, List.length_append, List.length_singleton]
  exact hr.same hs2 fun b hb hm => by have := hown b hb; simp at hm; omega
 ·rw [List.take_succ_eq_append_getElem hk, F6]; exact hset
theorem Oy (w : World) (x : Int) : Row (w.alloc (.cells #[.int .i64 x] 3)) 3 1 (.slice (some ⟨w.heap.size, 0, none⟩) 1 1) 1 (Ay [x]) :=
 ⟨rfl, .inr ⟨_, 1, _, rfl, Nat.zero_le _, Aj _ _, Nat.le_refl _, by unfold maxLen; omega, rfl, rfl⟩⟩
def Ru (l : List Int) (w : World) (e : Ending) (w' : World) : Prop := ∃ v, e = .returned v ∧ Row w' 3 1 v l.length (Ay l) ∧ (∀ b, v.ownBlock = some b → w.heap.size ≤ b) ∧ Ad [] w w'
theorem zq6 {P : Prop} (h : P := by
 have h0 : OfI W0 vars e (.slice none 0 0) (.int .i64 0) (W0.alloc (.map #[] 0)) := ⟨0, [], Nat.zero_le _, rfl, by simp [ofP], World.ownsRow_nil _ _ _ _, by simp [Value.ownBlock], Cn.new _ _ _, Ad.alloc _ _ _⟩
 have H0 := Kd h0
 clear h0
 go_wp2
 go_loopw [10, 28] (fun o u wr => OfI W0 vars e o u wr ∧ W0.heap.size < wr.heap.size) (fun _ u _ => e.length - (intOf u).toNat)
 case atStart => exact ⟨H0.out, by simp⟩
 case round =>
  obtain ⟨⟨k, out, hk, rfl, hat⟩, hzr⟩ := hrel
  obtain ⟨Ao, co, rfl⟩ := hat.row.shape
  by_cases hlt : k < e.length
  ·obtain ⟨g, off, rfl, t0, hgl⟩ := (Seg.of_row (He.out.same hat.base (by simp))).cell hlt
   obtain ⟨e1, z1⟩ := Fl (e.take k) e[k]
   have hl1 := hat.set.run_lookup (P := Tryz.prog) CX Tryz.underlying306 (EW _) e[k] true
   rw [if_pos rfl, z1, e1] at hl1
   have hol : out.length ≤ 1000000 := by
    have h1 := Gf vars (e.take k)
    have h2 : (e.take k).length ≤ k := List.length_take_le ..
    rw [← hat.eq] at h1
    omega
   have hvx := fun (W : World) (hW : Ad [] wr W) => Hv.out W (hat.base.trans hW) e[k]
   have Hat := Kd hat
   have hset1 := fun o => hat.set.same (Ad.alloc [] wr o) (by simp)
   unfold EN at hl1
   clear hat e1 z1 H0
   cases hc : (e.take k).contains e[k] with
   | true =>
    rw [hc] at hl1
    have Hc := Kd hc
    clear hc
    go_wp2_with (at_mapUpdate; go_must (refine C7 CX (hset1 _) Tryz.underlying306 rfl _ _ _ rfl e[k] (.agg #[]) rfl rfl rfl ?_; intro W3 hs3 hset3; have Hs3 := Kd hs3; have Hset3 := Kd hset3; clear hs3 hset3))
    go_roundw
    case rel => exact ⟨Hat.out.skip hlt (Ad.alloc [] wr _) Hs3.out Hset3.out (by rw [Hc.out]; rfl), by have := Hset3.out.size; rw [AA] at this; omega⟩
    case measure => simp [intOf]; omega
   | false =>
    rw [hc] at hl1
    have Hc := Kd hc
    clear hc
    cases hv : vars e[k] with
    | false =>
     rw [hv] at hvx
     have Hvv := Kd hv
     clear hv
     go_wp2_with (first
      | (go_at_call 82; go_must (refine (hvx _ (Ad.alloc [] _ _)).mono ?_; rintro e2 W2 ⟨rfl, hw⟩; subst hw))
      | (at_mapUpdate; go_must (refine C7 CX (hset1 _) Tryz.underlying306 rfl _ _ _ rfl e[k] (.agg #[]) rfl rfl rfl ?_; intro W3 hs3 hset3; have Hs3 := Kd hs3; have Hset3 := Kd hset3; clear hs3 hset3)))
     go_roundw
     case rel => exact ⟨Hat.out.skip hlt (Ad.alloc [] wr _) Hs3.out Hset3.out (by rw [Hvv.out]; simp), by have := Hset3.out.size; rw [AA] at this; omega⟩
     case measure => simp [intOf]; omega
    | true =>
     rw [hv] at hvx
     have Hvv := Kd hv
     clear hv
     go_wp2_with (first
      | (go_at_call 82; go_must (refine (hvx _ (Ad.alloc [] _ _)).mono ?_; rintro e2 W2 ⟨rfl, hw⟩; have Hs2 : Hid (Ad [] wr W2) := Kd (hw ▸ Ad.alloc [] wr _); have Hz2 : Hid (W2.heap.size = wr.heap.size + 1) := Kd (by rw [hw, AA]); clear hw))
      | (at_builtin; go_must (refine Bh (W := W2) rfl _ _ 24 rfl 3 1 8 _ Tryz.underlying24 Tryz.infoInt' rfl (by decide) (.slice Ao out.length co) _ _ rfl (Hat.out.row.same Hs2.out (by simp)) [.int .i64 e[k]] rfl rfl (by simp [Value.oneCell']) (by omega) (by decide) ?_; intro v6 W6 hr6 hs6 ho6; obtain ⟨A6, c6, rfl⟩ := hr6.shape; have hset6 := (Hat.out.set.same Hs2.out (by simp)).same hs6 (fun hm => by have := Hat.out.own _ (Option.mem_toList.1 hm); omega); have Hr6 := Kd hr6; have Hs6 := Kd hs6; have Ho6 := Kd ho6; clear hr6 hs6 ho6))
      | (at_mapUpdate; go_must (refine C7 CX hset6 Tryz.underlying306 rfl _ _ _ rfl e[k] (.agg #[]) rfl rfl rfl ?_; intro W3 hs3 hset3; have Hs3 := Kd hs3; have Hset3 := Kd hset3; clear hs3 hset3)))
     go_roundw
     case rel => exact ⟨Hat.out.push hlt Hs2.out Hr6.out Hs6.out Ho6.out (by rw [Hz2.out]; omega) Hs3.out Hset3.out Hc.out Hvv.out, by have h1 := Hset3.out.size; have h2 := Hs6.out.size; have h3 := Hz2.out; omega⟩
     case measure => simp [intOf]; omega
  ·have hkk : k = e.length := by omega
   subst hkk
   have heq := hat.eq
   rw [List.take_length] at heq
   have Hat := Kd hat
   have Heq := Kd heq
   clear hat heq H0
   go_wp2
   go_ret
   refine ⟨.slice Ao out.length co, rfl, ?_, fun b hb => ?_, Hs0.out.trans Hat.out.base⟩
   ·rw [← Heq.out]; exact Hat.out.row
   ·have h1 := Hat.out.own b hb; have h2 := Hs0.out.size; omega) : P := h
theorem KS (w : World) (nb : Nat) (vars : Int → Bool) (hv : Ik w nb vars) (v : Value) (s : Bx) (h : E3 w v s) (x : Int) :
  Calls Tryz.prog 183 #[.int .i64 x, .agg #[v], fnB nb] w (Ru (ofP vars (BH s x)) w) := by
 have hof := fun (W : World) (hW : Ad [] w W) => Mj W v s (h.same hW) x
 have hso := h.some x
 have hat : BH s x = (AJ x s).getD [x] := rfl
 unfold Q1 at hof
 unfold fnB Ru
 have hmm := @run_makeMap Tryz.prog
 have Hv0 := Kd hv
 clear h hv
 cases ha : AJ x s with
 | none =>
  rw [ha] at hof hat
  simp only [Option.getD_none, Option.isSome_none] at hof hat
  obtain ⟨e, he⟩ : ∃ e, [x] = e := ⟨_, rfl⟩
  have hen : e.length ≤ 1000000 := by rw [← he]; simp
  simp only [hat, he]
  have He1 := Kd he
  clear ha hat hso he
  go_enter Tryz.func183, Tryz.ntmps183
  go_upto_region 4 with (go_at_call 166; go_must (refine (hof _ (Ad.alloc [] _ _)).mono ?_; rintro e1 W1 ⟨ev, rfl, hr1, hf1, hs1⟩; have Hs1 := Kd hs1; clear hs1 hr1 hf1))
  have hrow := Oy W1 x
  have hs01 : Ad [] W1 (W1.alloc (.cells #[.int .i64 x] 3)) := Ad.alloc _ _ _
  generalize W1.alloc (.cells #[.int .i64 x] 3) = W0 at hrow hs01 ⊢
  generalize Value.slice (some ⟨W1.heap.size, 0, none⟩) 1 1 = ve at hrow ⊢
  have hrow : Row W0 3 1 ve e.length (Ay e) := by rw [← He1.out]; exact hrow
  obtain ⟨Ae, ce, rfl⟩ := hrow.shape
  have He := Kd hrow
  have Hs0 : Hid (Ad [] w W0) := Kd (((Ad.alloc [] _ _).trans Hs1.out).trans hs01)
  have Hv := Kd (Hv0.out.same Hs0.out)
  clear hrow hs01 hof Hs1 He1
  exact zq6
 | some e =>
  rw [ha] at hof hat hso
  simp only [Option.getD_some, Option.isSome_some] at hof hat hso
  simp only [hat]
  clear ha hat
  have hen := hso
  go_enter Tryz.func183, Tryz.ntmps183
  go_upto_region 4 with (go_at_call 166; go_must (refine (hof _ (Ad.alloc [] _ _)).mono ?_; rintro e1 W0 ⟨ev, rfl, hr1, hf1, hs1⟩; obtain ⟨Ae, ce, rfl⟩ := hr1.shape; have He := Kd hr1; have Hs0 : Hid (Ad [] w W0) := Kd ((Ad.alloc [] _ _).trans hs1); clear hs1 hr1 hf1))
  have Hv := Kd (Hv0.out.same Hs0.out)
  clear hof hso
  exact zq6
def CC (A R : List Int) : List Pr := A.flatMap fun v => R.map fun w => (v, w)
theorem J2 (A R : List Int) : (CC A R).length = A.length * R.length := by
 induction A with
 | nil => simp [CC]
 | cons a A ih => simp only [CC, List.flatMap_cons, List.length_append, List.length_map, List.length_cons, Nat.succ_mul] at ih ⊢; omega
theorem Nb (A R : List Int) (a : Int) : CC (A ++ [a]) R = CC A R ++ R.map fun w => (a, w) := by simp [CC]
def Gs (A R : List Int) : Option (List Pr) := if A.any (fun v => R.contains v) then none else some (CC A R)
structure JG (w : World) (L : List Pr) (v : Value) (W : World) : Prop where
 row : Row W 47 2 v L.length (AT L)
 own : ∀ b, v.ownBlock = some b → w.heap.size ≤ b
 base : Ad [] w W
def RE (w : World) (A R : List Int) (v u : Value) (W : World) : Prop := ∃ i : Nat, i ≤ A.length ∧ u = .int .i64 i ∧ (∀ x ∈ A.take i, x ∉ R) ∧ JG w (CC (A.take i) R) v W
def RY (w : World) (A R : List Int) (i : Nat) (a : Int) (v u : Value) (W : World) : Prop := ∃ j : Nat, j ≤ R.length ∧ u = .int .i64 j ∧ a ∉ R.take j ∧ JG w (CC (A.take i) R ++ (R.take j).map fun w => (a, w)) v W
theorem JG.push {w W W' : World} {L : List Pr} {v v1 : Value} {p : Pr} (h : JG w L v W) (hr : Row W' 47 2 v1 (L.length + 1) (AT L ++ [.int .i64 p.1, .int .i64 p.2])) (hs : Ad v.ownBlock.toList W W') (ho : v1.ownBlock = v.ownBlock ∨ ∃ b, v1.ownBlock = some b ∧ W.heap.size ≤ b) : JG w (L ++ [p]) v1 W' := by
 refine ⟨by rw [D8, List.length_append, List.length_singleton]; exact hr, fun b hb => ?_, h.base.then hs fun x hx => .inr (h.own x (Option.mem_toList.1 hx))⟩
 rcases ho with ho | ⟨c, hc, hle⟩
 ·exact h.own b (by rw [← ho]; exact hb)
 ·rw [hc] at hb; cases hb; have := h.base.size; omega
def Rj (o : Option (List Pr)) (w : World) (e : Ending) (w' : World) : Prop := Ad [] w w' ∧ match o with
 | none => e = .returned (.tuple #[.slice none 0 0, .bool false])
 | some L => ∃ v, e = .returned (.tuple #[v, .bool true]) ∧ Row w' 47 2 v L.length (AT L) ∧ ∀ b, v.ownBlock = some b → w.heap.size ≤ b
theorem K8 {A R : List Int} {x : Int} (h1 : x ∈ A) (h2 : x ∈ R) : Gs A R = none := by
 unfold Gs
 rw [if_pos (List.any_eq_true.2 ⟨x, h1, by simpa using h2⟩)]
theorem KY {A R : List Int} (h : ∀ x ∈ A, x ∉ R) : Gs A R = some (CC A R) := by
 unfold Gs
 rw [if_neg]
 intro hc
 obtain ⟨x, h1, h2⟩ := List.any_eq_true.1 hc
 exact h x h1 (by simpa using h2)
theorem N6 (w : World) (nb : Nat) (vars : Int → Bool) (hv : Ik w nb vars) (v : Value) (s : Bx) (h : E3 w v s) (p : Pr) (A R : List Int) (hA : ofP vars (BH s p.1) = A) (hR : ofP vars (BH s p.2) = R) (hAl : A.length ≤ 100000) (hRl : R.length ≤ 100000) :
  Calls Tryz.prog 167 #[.agg #[.int .i64 p.1, .int .i64 p.2], .agg #[v], fnB nb] w (Rj (Gs A R) w) := by
 have hofA := fun (W : World) (hW : Ad [] w W) => KS W nb vars (hv.same hW) v s (h.same hW) p.1
 have hofR := fun (W : World) (hW : Ad [] w W) => KS W nb vars (hv.same hW) v s (h.same hW) p.2
 rw [hA] at hofA
 rw [hR] at hofR
 unfold Ru fnB at hofA hofR
 unfold fnB
 have hb0 : ((w.alloc (.cells #[.int .i64 p.1, .int .i64 p.2] 47)).alloc (.cells #[v] 262)).heap[w.heap.size]? = some (.cells #[.int .i64 p.1, .int .i64 p.2] 47 (0, 0)) := AR (Aj _ _) _
 have hb1 : ((w.alloc (.cells #[.int .i64 p.1, .int .i64 p.2] 47)).alloc (.cells #[v] 262)).heap[w.heap.size + 1]? = some (.cells #[v] 262 (0, 0)) := by rw [← AA w (.cells #[.int .i64 p.1, .int .i64 p.2] 47)]; exact Aj _ _
 have Hb0 := Kd hb0
 have Hb1 := Kd hb1
 clear h hv hA hR hb0 hb1
 go_enter Tryz.func167, Tryz.ntmps167
 go_wp2_with (go_at_call 183; go_must (first
  | ((with_reducible refine (hofR _ ((Ad.alloc [] _ _).trans (Ad.alloc [] _ _))).mono ?_); rintro e1 W1 ⟨v1, rfl, hr1, hf1, hs1⟩; obtain ⟨Ar, cr, rfl⟩ := hr1.shape; obtain ⟨c0, c1, cf⟩ := Fh (hs1.get Hb0.out (by simp)); have cl := Af (hs1.get Hb0.out (by simp)); have d0 := Ai (i := 0) (v := v) (hs1.get Hb1.out (by simp)); have dl := Af (hs1.get Hb1.out (by simp)); have Hr1 := Kd hr1; have Hs1 : Hid (Ad [] w W1) := Kd (((Ad.alloc [] _ _).trans (Ad.alloc [] _ _)).trans hs1); clear hr1 hf1 hs1)
  | ((with_reducible refine (hofA W1 Hs1.out).mono ?_); rintro e2 W2 ⟨v2, rfl, hr2, hf2, hs2⟩; obtain ⟨Aa, ca, rfl⟩ := hr2.shape; have Hr2 := Kd hr2; have Hr12 := Kd (Hr1.out.same hs2 (by simp)); have Hs2 : Hid (Ad [] w W2) := Kd (Hs1.out.trans hs2); clear hr2 hf2 hs2 c0 c1 cf cl d0 dl)))
 have h0 : RE W2 A R (.slice none 0 0) (.int .i64 0) W2 := ⟨0, Nat.zero_le _, rfl, by simp, ⟨by simp [CC, AT]; exact World.ownsRow_nil _ _ _ _, by simp [Value.ownBlock], Ad.refl _ _⟩⟩
 have H0 := Kd h0
 clear h0 hofA hofR Hr1 Hb0 Hb1 Hs1
 go_loopw [8, 25] (fun o u wr => RE W2 A R o u wr) (fun _ u _ => A.length - (intOf u).toNat)
 case atStart => exact H0.out
 case round =>
  obtain ⟨i, hi, rfl, hno, hat⟩ := hrel
  obtain ⟨Ao, co, rfl⟩ := hat.row.shape
  by_cases hlt : i < A.length
  ·obtain ⟨g, off, rfl, t0, hgl⟩ := (Seg.of_row (Hr2.out.same hat.base (by simp))).cell hlt
   obtain ⟨a, ha⟩ : ∃ a, A[i] = a := ⟨_, rfl⟩
   have Ha := Kd ha
   rw [ha] at t0
   have h1 : RY W2 A R i a (.slice Ao (CC (A.take i) R).length co) (.int .i64 0) wr := ⟨0, Nat.zero_le _, rfl, by simp, by simpa using hat⟩
   have H1 := Kd h1
   have Hno := Kd hno
   obtain ⟨w1, hw1⟩ : ∃ w1, w1 = wr := ⟨_, rfl⟩
   subst hw1
   clear h1 hat hno H0 ha
   go_wp2
   go_loopw [8, 31] (fun o u wr => RY W2 A R i a o u wr) (fun _ u _ => R.length - (intOf u).toNat)
   case atStart => exact H1.out
   case round =>
    obtain ⟨j, hj, rfl, hnj, hat⟩ := hrel
    obtain ⟨Ap, cp, rfl⟩ := hat.row.shape
    by_cases hjt : j < R.length
    ·obtain ⟨g2, off2, rfl, u0, hgl2⟩ := (Seg.of_row (Hr12.out.same hat.base (by simp))).cell hjt
     by_cases he : a = R[j]
     ·have hn : Gs A R = none := K8 (x := a) (by rw [← Ha.out]; exact List.getElem_mem hlt) (by rw [he]; exact List.getElem_mem hjt)
      rw [← he] at u0
      have Hn := Kd hn
      have Hbs := Kd hat.base
      clear hat hnj hn H1 he
      go_wp2
      go_ret2
      refine ⟨Hs2.out.trans Hbs.out, ?_⟩
      rw [Hn.out]
      rfl
     ·have hne : (a == R[j]) = false := by simpa using he
      obtain ⟨b, hb⟩ : ∃ b, R[j] = b := ⟨_, rfl⟩
      have hnj' : a ∉ R.take (j + 1) := by
       rw [List.take_succ_eq_append_getElem hjt, List.mem_append, List.mem_singleton]
       rintro (h | h)
       ·exact hnj h
       ·exact he h
      have hmap : CC (A.take i) R ++ (R.take (j + 1)).map (fun w => (a, w)) = (CC (A.take i) R ++ (R.take j).map fun w => (a, w)) ++ [(a, b)] := by
       rw [List.take_succ_eq_append_getElem hjt, List.map_append, List.append_assoc, hb]; rfl
      rw [hb] at u0 hne
      obtain ⟨L, hL⟩ : ∃ L, CC (A.take i) R ++ (R.take j).map (fun w => (a, w)) = L := ⟨_, rfl⟩
      rw [hL] at hat hmap ⊢
      have hLl : L.length ≤ 10000000000 := by
       rw [← hL, List.length_append, J2, List.length_map, List.length_take, List.length_take]
       have h1 : min i A.length * R.length ≤ i * 100000 := Nat.mul_le_mul (Nat.min_le_left _ _) hRl
       omega
      have Hnj := Kd hnj'
      have Hmap := Kd hmap
      have Hat := Kd hat
      clear hat hnj hnj' hmap hL hb he H1
      go_wp2_with (at_builtin; go_must (refine Bh (W := wr) rfl _ _ 33 rfl 47 2 16 _ Tryz.underlying33 Tryz.infoPair rfl (by decide) (.slice Ap L.length cp) _ _ rfl Hat.out.row [.int .i64 a, .int .i64 b] rfl rfl (by simp [Value.oneCell']) (by omega) (by decide) ?_; intro v6 W6 hr6 hs6 ho6; obtain ⟨A6, c6, rfl⟩ := hr6.shape; have Hr6 := Kd hr6; have Hs6 := Kd hs6; have Ho6 := Kd ho6; clear hr6 hs6 ho6))
      go_roundw
      case rel => exact ⟨j + 1, hjt, by go_num, Hnj.out, by rw [Hmap.out]; exact Hat.out.push (p := (a, b)) Hr6.out Hs6.out Ho6.out⟩
      case measure => simp [intOf]; omega
    ·have hjj : j = R.length := by omega
     subst hjj
     rw [List.take_length] at hnj
     have e1 : A.take (i + 1) = A.take i ++ [a] := by rw [List.take_succ_eq_append_getElem hlt, Ha.out]
     have Hat : Hid (JG W2 (CC (A.take (i + 1)) R) _ wr) := Kd (by rw [e1, Nb]; have h := hat; rw [List.take_length] at h; exact h)
     have Hnj : Hid (∀ x ∈ A.take (i + 1), x ∉ R) := Kd (by
      rw [e1]
      intro x hx
      rcases List.mem_append.1 hx with h | h
      ·exact Hno.out x h
      ·rw [List.mem_singleton] at h; subst h; exact hnj)
     clear hat hnj e1 H1
     go_wp2
     go_roundw
     case rel => exact ⟨i + 1, hlt, by go_num, Hnj.out, by rw [List.take_length]; exact Hat.out⟩
     case measure => simp [intOf]; omega
  ·have hii : i = A.length := by omega
   subst hii
   have hat' : JG W2 (CC A R) (.slice Ao (CC (A.take A.length) R).length co) wr := by have h := hat; rw [List.take_length] at h ⊢; exact h
   rw [List.take_length] at hno
   have hs : Gs A R = some (CC A R) := KY hno
   have Hs := Kd hs
   have Hat := Kd hat'
   clear hat hat' hno hs H0
   go_wp2
   refine bodyPost_ret_by (v := .tuple #[.slice Ao (CC (A.take A.length) R).length co, .bool true]) (by simp [results, Tryz.f167, go_sem]) rfl ?_
   refine ⟨Hs2.out.trans Hat.out.base, ?_⟩
   rw [Hs.out]
   refine ⟨_, rfl, Hat.out.row, fun b hb => ?_⟩
   have h1 := Hat.out.own b hb
   have h2 := Hs2.out.size
   omega
end Go.Proofs.YtbfbgfpghkijdaaGreatDoor
