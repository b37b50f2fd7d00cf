/- lemmalaw texts, part 12. -/
import Derived.Test.YtbfbgfpghkijdaaGreatDoorYaf
import Derived.Test.YtbfbgfpghkijdaaGreatDoorYah
import Derived.Test.YtbfbgfpghkijdaaGreatDoorYak
set_option maxRecDepth 100000
set_option linter.unusedVariables false
set_option linter.unusedSimpArgs false
set_option maxHeartbeats 32000000
namespace Go.Proofs.YtbfbgfpghkijdaaGreatDoor
open Go.RowKit
def GJ (x : Int) : List Int → List Int
 | [] => [x]
 | y :: r => if x < y then x :: y :: r else y :: GJ x r
def CD (vars : Int → Bool) (out : List Int) (x : Int) : List Int := if out.contains x then out else if vars x then GJ x out else out
def Cu (e : List Int) (vars : Int → Bool) : List Int := e.foldl (CD vars) []
def Tbl.isVar (T : Tbl) (n : Int) : Bool := decide (0 ≤ n) && ((T.syms[n.toNat]?).map (·.2)).getD false
abbrev FN (l : List Int) : Prop := l.Pairwise (· < ·)
theorem Kg {x y : Int} : ∀ {l : List Int}, y ∈ GJ x l ↔ y = x ∨ y ∈ l
 | [] => by simp [GJ]
 | z :: r => by
  unfold GJ
  split
  ·simp
  ·simp only [List.mem_cons, Kg (l := r)]
   constructor
   ·rintro (h | h | h) <;> simp [h]
   ·rintro (h | h | h) <;> simp [h]
theorem IG {x : Int} : ∀ {l : List Int}, FN l → x ∉ l → FN (GJ x l)
 | [], _, _ => by simp [GJ, FN]
 | z :: r, h, hn => by
  unfold FN at h ⊢
  rw [List.pairwise_cons] at h
  simp only [List.mem_cons, not_or] at hn
  unfold GJ
  split
  ·rename_i hlt
   rw [List.pairwise_cons, List.pairwise_cons]
   refine ⟨fun y hy => ?_, h⟩
   rcases List.mem_cons.1 hy with rfl | hy
   ·exact hlt
   ·have := h.1 y hy; omega
  ·rw [List.pairwise_cons]
   refine ⟨fun y hy => ?_, IG (l := r) h.2 hn.2⟩
   rcases Kg.1 hy with rfl | hy
   ·omega
   ·exact h.1 y hy
theorem J1 {x : Int} : ∀ {l : List Int}, FN l → x ∉ l → DL l (l.countP (· < x)) x = GJ x l
 | [], _, _ => by simp [DL, GJ]
 | z :: r, h, hn => by
  unfold FN at h
  rw [List.pairwise_cons] at h
  simp only [List.mem_cons, not_or] at hn
  have ih := J1 (l := r) h.2 hn.2
  unfold GJ
  by_cases hlt : x < z
  ·rw [if_pos hlt]
   have h0 : (z :: r).countP (· < x) = 0 := by
    rw [List.countP_eq_zero]
    intro y hy
    rcases List.mem_cons.1 hy with rfl | hy
    ·simp; omega
    ·have := h.1 y hy; simp; omega
   rw [h0]
   simp [DL]
  ·rw [if_neg hlt, ← ih]
   have hz : z < x := by omega
   rw [List.countP_cons_of_pos (by simpa using hz)]
   simp [DL]
theorem G9 (x : Int) : ∀ l : List Int, (GJ x l).length = l.length + 1
 | [] => rfl
 | y :: r => by
  unfold GJ
  split
  ·rfl
  ·simp [G9 x r]
theorem FF (v : Value) (zs : List Int) (x : Int) (w : World) (h : Row w 3 1 v zs.length (Ay zs)) (hs : FN zs) (hn : zs.length ≤ 1000000) :
  Calls Tryz.prog 175 #[v, .int .i64 x] w fun e w' => e = .returned (.tuple #[.int .i64 (zs.countP (· < x) : Nat), .bool (zs.contains x)]) ∧ Ad [] w w' := by
 rcases h.2 with ⟨rfl, h0⟩ | ⟨g, c, cur, rfl, h2, h3, h4, h5, h6, h7⟩
 ·have hz : zs = [] := List.eq_nil_of_length_eq_zero h0
  subst hz
  refine (Tryz.slices_BinarySearch_int_empty none 0 x w).mono ?_
  rintro e w' ⟨rfl, rfl⟩
  exact ⟨by simp, Ad.refl _ _⟩
 ·have hc := Tryz.slices_BinarySearch_int g 0 zs.length c zs x w (Nat.le_refl _) (by omega) (fun j hj => by
   obtain ⟨g', c', hv, h8, _⟩ := Of h hj
   cases hv
   rw [Nat.zero_add, h8]
   simp [List.getD_eq_getElem?_getD, hj]) (by rw [List.take_length]; exact hs.imp (fun {a b} h => by omega))
  rw [List.take_length] at hc
  refine hc.mono ?_
  rintro e w' ⟨rfl, q, rfl⟩
  exact ⟨rfl, Ad.drewN _ _ _⟩
structure J3 (w : World) (e : List Int) (vars : Int → Bool) (k : Nat) (out : List Int) (v : Value) (W : World) : Prop where
 eq : (e.take k).foldl (CD vars) [] = out
 row : Row W 3 1 v out.length (Ay out)
 own : ∀ b, v.ownBlock = some b → w.heap.size ≤ b
 base : Ad [] w W
 rise : FN out
 len : out.length ≤ k
def Ow (w : World) (e : List Int) (vars : Int → Bool) (v u : Value) (W : World) : Prop := ∃ k out, k ≤ e.length ∧ u = .int .i64 (k : Nat) ∧ J3 w e vars k out v W
def Rb (s : List Int) (w : World) (e : Ending) (w' : World) : Prop := ∃ v, e = .returned v ∧ Row w' 3 1 v s.length (Ay s) ∧ Ad [] w w' ∧ (∀ b, v.ownBlock = some b → w.heap.size ≤ b)
theorem J3.next {w W W' : World} {e : List Int} {vars : Int → Bool} {k : Nat} {out : List Int} {v : Value} (h : J3 w e vars k out v W) (hk : k < e.length) (hs : Ad [] W W') (hsame : CD vars out e[k] = out) : Ow w e vars v (.int .i64 ((k : Int) + 1)) W' :=
 ⟨k + 1, out, hk, by go_num, by rw [List.take_succ_eq_append_getElem hk, List.foldl_append, h.eq]; exact hsame, h.row.same hs (by simp), h.own, h.base.trans hs, h.rise, by have := h.len; omega⟩
theorem zq104 {P : Prop} (h : P := by
 rcases ho with ho | ⟨c, hc', hle⟩
 ·exact h.own b (by rw [← ho]; exact hb)
 ·rw [hc'] at hb; cases hb; omega) : P := h
theorem J3.ins {w W W1 W' : World} {e : List Int} {vars : Int → Bool} {k : Nat} {out : List Int} {v v1 : Value} (h : J3 w e vars k out v W) (hk : k < e.length) (hs : Ad [] W W1) (hc : out.contains e[k] = false) (hv : vars e[k] = true)
  (hr : Row W' 3 1 v1 (out.length + 1) (Ay (DL out (out.countP (· < e[k])) e[k]))) (hs1 : Ad v.ownBlock.toList W1 W') (ho : v1.ownBlock = v.ownBlock ∨ ∃ b, v1.ownBlock = some b ∧ W1.heap.size ≤ b) : Ow w e vars v1 (.int .i64 ((k : Int) + 1)) W' := by
 have hnm : e[k] ∉ out := by simpa using hc
 have hst : CD vars out e[k] = GJ e[k] out := by unfold CD; rw [if_neg (by simpa using hnm), if_pos hv]
 have hz1 := h.base.size
 have hz2 := hs.size
 refine ⟨k + 1, GJ e[k] out, hk, by go_num, by rw [List.take_succ_eq_append_getElem hk, List.foldl_append, h.eq]; exact hst, ?_, ?_, ?_, IG h.rise hnm, by rw [G9]; have := h.len; omega⟩
 ·rw [J1 h.rise hnm] at hr
  rw [G9]
  exact hr
 ·intro b hb
  exact zq104
 ·exact (h.base.trans hs).then hs1 (fun x hx => .inr (h.own x (Option.mem_toList.1 hx)))
theorem J6 (va : Value) (e : List Int) (t : Nat) (A : TA) (T : Tbl) (w : World) (ha : Row w 3 1 va e.length (Ay e)) (hT : AW w t A T) (hn : e.length ≤ 1000000) :
  Calls Tryz.prog 154 #[va, .func (.func 30) #[.pointer (some ⟨t, 0, none⟩)] #[]] w (Rb (Cu e T.isVar) w) := by
 obtain ⟨Aa, ca, rfl⟩ := ha.shape
 have Ha := Kd ha
 have HT := Kd hT
 have hiv := fun (W : World) (hW : Ad [] w W) (x : Int) => Ga W t A T (hT.same hW (by simp)) x
 clear ha hT
 go_enter Tryz.func154, Tryz.ntmps154
 go_wp2
 have h0 : Ow w e T.isVar (.slice none 0 0) (.int .i64 0) w := ⟨0, [], Nat.zero_le _, rfl, rfl, World.ownsRow_nil _ _ _ _, by simp [Value.ownBlock], Ad.refl _ _, by simp, by simp⟩
 have H0 := Kd h0
 clear h0
 go_loopw [5, 12] (fun v u wr => Ow w e T.isVar v u wr) (fun _ u _ => e.length - (intOf u).toNat)
 case atStart => exact H0.out
 case round =>
  obtain ⟨k, out, hk, rfl, hat⟩ := hrel
  obtain ⟨Av, cv, rfl⟩ := hat.row.shape
  have hol := hat.len
  by_cases hlt : k < e.length
  ·obtain ⟨g, c, hv, t0, hgl⟩ := BS (Ha.out.same hat.base (by simp)) hlt
   cases hv
   have Hat := Kd hat
   clear hat
   have hcnt : out.countP (· < e[k]) ≤ out.length := List.countP_le_length
   cases hc : out.contains e[k] with
   | true =>
    have Hc := Kd hc
    have hbs := FF (.slice Av out.length cv) out e[k] wr Hat.out.row Hat.out.rise (by omega)
    rw [hc] at hbs
    clear hc
    go_wp2_with (go_at_call 175; refine hbs.mono ?_; rintro e' W3 ⟨rfl, hs3⟩; have Hs3 := Kd hs3; clear hs3)
    go_roundw
    case rel => exact Hat.out.next hlt Hs3.out (by unfold CD; rw [if_pos Hc.out])
    case measure => simp [intOf]; omega
   | false =>
    have hbs := FF (.slice Av out.length cv) out e[k] wr Hat.out.row Hat.out.rise (by omega)
    rw [hc] at hbs
    have Hc := Kd hc
    clear hc
    cases hv : T.isVar e[k] with
    | false =>
     have hivk := fun W hW => hiv W hW e[k]
     have : (decide (0 ≤ e[k]) && ((T.syms[e[k].toNat]?).map (·.2)).getD false) = false := hv
     rw [this] at hivk
     have Hv := Kd hv
     clear hv this
     go_wp2_with (first
      | (go_at_call 175; refine hbs.mono ?_; rintro e' W3 ⟨rfl, hs3⟩; have Hs3 := Kd hs3; clear hs3)
      | (go_at_call 30; go_must (refine (hivk _ (Hat.out.base.trans Hs3.out)).mono ?_; rintro e' W4 ⟨rfl, hw4⟩; obtain rfl := hw4)))
     go_roundw
     case rel => exact Hat.out.next hlt Hs3.out (by unfold CD; rw [if_neg (by rw [Hc.out]; simp), if_neg (by rw [Hv.out]; simp)])
     case measure => simp [intOf]; omega
    | true =>
     have hivk := fun W hW => hiv W hW e[k]
     have : (decide (0 ≤ e[k]) && ((T.syms[e[k].toNat]?).map (·.2)).getD false) = true := hv
     rw [this] at hivk
     have Hv := Kd hv
     clear hv this
     obtain ⟨cnt, hcn⟩ : ∃ cnt, out.countP (· < e[k]) = cnt := ⟨_, rfl⟩
     rw [hcn] at hbs hcnt
     have Hcn := Kd hcn
     clear hcn
     go_wp2_with (first
      | (go_at_call 175; refine hbs.mono ?_; rintro e' W3 ⟨rfl, hs3⟩; have Hs3 := Kd hs3; clear hs3)
      | (go_at_call 30; go_must (refine (hivk _ (Hat.out.base.trans Hs3.out)).mono ?_; rintro e' W4 ⟨rfl, hw4⟩; obtain rfl := hw4))
      | (go_at_call 176; go_must (refine (Le (.slice Av out.length cv) out cnt e[k] W3.heap.size _ ((Hat.out.row.same Hs3.out (by simp)).same (Ad.alloc [] _ _) (by simp)) hcnt (by omega) (Aj _ _) (fun hb => by have := (Hat.out.row.same Hs3.out (by simp)).lt hb; omega)).mono ?_; rintro e' W5 ⟨v5, rfl, hr5, hs5, ho5⟩; obtain ⟨A5, c5, rfl⟩ := hr5.shape; have Hr5 := Kd hr5; have Hs5 := Kd hs5; have Ho5 := Kd ho5; clear hr5 hs5 ho5)))
     go_roundw
     case rel =>
      have hr5 := Hr5.out
      rw [← Hcn.out] at hr5
      exact Hat.out.ins hlt (Hs3.out.trans (Ad.alloc [] W3 _)) Hc.out Hv.out hr5 Hs5.out Ho5.out
     case measure => simp [intOf]; omega
  ·have hkk : k = e.length := by omega
   subst hkk
   have Hat := Kd hat
   clear hat
   go_wp2
   go_ret
   have heq := Hat.out.eq
   rw [List.take_length] at heq
   have : Cu e T.isVar = out := heq
   rw [this]
   exact ⟨.slice Av out.length cv, rfl, Hat.out.row, Hat.out.base, Hat.out.own⟩
end Go.Proofs.YtbfbgfpghkijdaaGreatDoor
namespace Go.Proofs.YtbfbgfpghkijdaaGreatDoor
structure Hy where
 label : ByteArray
 floating : Bool
 var : Int
 expr : List Int
structure Sc where
 hyps : List Hy
 pairs : List Pr
def DX : List Hy → Int → Option Int
 | [], _ => none
 | h :: r, v => if h.floating = true ∧ h.var = v then some (h.expr.headD 0) else DX r v
def CW : List Sc → Int → Option Int
 | [], _ => none
 | s :: r, v => match DX s.hyps v with | some t => some t | none => CW r v
def Dm (f : Sc → Sc) : List Sc → List Sc
 | [] => []
 | [s] => [f s]
 | s :: r => s :: Dm f r
def FE (s : List Sc) (h : Hy) : List Sc := Dm (fun x => { x with hyps := x.hyps ++ [h] }) s
def BW (vars : Int → Bool) (s : List Sc) (label : ByteArray) (t v : Int) : Nat × List Sc :=
 if vars v = false then (71, s) else if vars t = true then (72, s) else if (CW s v).isSome then (70, s)
 else (0, FE s ⟨label, true, v, [t, v]⟩)
def DT (vars : Int → Bool) (s : List Sc) (e : List Int) : Nat :=
 match e with
 | [] => 72
 | x :: _ => if vars x = true then 72 else if (Cu e vars).all (fun v => (CW s v).isSome) then 0 else 70
def Fw (vars : Int → Bool) (s : List Sc) (label : ByteArray) (e : List Int) : Nat × List Sc :=
 if DT vars s e ≠ 0 then (DT vars s e, s) else (0, FE s ⟨label, false, -1, e⟩)
def AL (s : List Sc) : List Pr := s.foldl (fun out x => Bw out x.pairs) []
def Cj (vars : Int → Bool) (s : List Sc) (l : List Int) : Nat × List Sc :=
 if l.all vars = false then (71, s)
 else if ¬ l.Nodup then (50, s)
 else if 256 < l.length ∨ 256 < l.length * (l.length - 1) / 2 then (22, s)
 else if 256 < (Bw (AL s) (FM l)).length then (22, s)
 else (0, Dm (fun x => { x with pairs := Bw x.pairs (FM l) }) s)
def EH (s : List Sc) : List Sc := if s.length - 1 = 16 then s else s ++ [⟨[], []⟩]
def Dz (s : List Sc) : List Sc := if s.length - 1 = 0 then s else s.dropLast
def AK (s : List Sc) : List Hy := s.flatMap (·.hyps)
def R2 (vars : Int → Bool) (s : List Sc) (goal : List Int) : List Int := Cu goal vars ++ ((AK s).filter fun h => !h.floating).flatMap fun h => Cu h.expr vars
def BZ (vars : Int → Bool) (s : List Sc) (goal : List Int) : List Hy := (AK s).filter fun h => !h.floating || (R2 vars s goal).contains h.var
def Be (l : List Hy) : List Int := (l.filter fun h => h.floating).map (·.var)
def B2 (vars : Int → Bool) (s : List Sc) (goal : List Int) : List Pr := E4 (AL s) (Be (BZ vars s goal))
structure Asr where
 number : Nat
 label : ByteArray
 isThm : Bool
 hyps : List Hy
 pairs : List Pr
 goal : List Int
 shyps : List Hy
 spairs : List Pr
 proof : List Tk
 at_ : Tk
 end_ : Tk
structure Ld where
 tbl : Tbl
 scs : List Sc
 asserts : List Asr
 finds : List (ByteArray × Nat)
 hyps : List (ByteArray × Hy)
 labels : Nat
def Ld.new : Ld := ⟨Tbl.empty, [⟨[], []⟩], [], [], [], 0⟩
abbrev Ex := Except (Tk × Nat)
def Bl (t : Tk) (e : Nat) : Ex Unit := if e = 0 then .ok () else .error (t, e)
def Ld.taken (L : Ld) (s : ByteArray) : Bool := (AJ s L.finds).isSome || (AJ s L.hyps).isSome
def Ld.label (L : Ld) (t : Tk) : Ex Unit :=
 if CA t.text = false then .error (t, 21) else if L.taken t.text = true then .error (t, 20) else if 1024 ≤ L.labels then .error (t, 22) else .ok ()
def Ld.symbol (L : Ld) (t : Tk) : Ex Int := match AJ t.text L.tbl.active with | some n => .ok n | none => .error (t, 30)
def Ld.variable_ (L : Ld) (t : Tk) : Ex Int := (L.symbol t).bind fun n => if L.tbl.isVar n = true then .ok n else .error (t, 71)
def Ld.floatGo (L : Ld) : List Tk → List Int → Ex (List Int)
 | [], e => .ok e
 | w :: r, e => if e = [] then (L.symbol w).bind fun n => if L.tbl.isVar n = true then .error (w, 72) else L.floatGo r [n]
  else (L.variable_ w).bind fun n => if (CW L.scs n).isSome then .error (w, 70) else L.floatGo r (e ++ [n])
def Ld.exprGo (L : Ld) : List Tk → List Int → Ex (List Int)
 | [], e => .ok e
 | w :: r, e => if e.length = 200 then .error (w, 31) else (L.symbol w).bind fun n =>
  if L.tbl.isVar n = true then (if e = [] then .error (w, 72) else if (CW L.scs n).isSome then L.exprGo r (e ++ [n]) else .error (w, 70))
  else L.exprGo r (e ++ [n])
def Dh {α : Type} [DecidableEq α] (ps : List α) (p : α) : List α := if p ∈ ps then ps else ps ++ [p]
def Ld.apartGo (L : Ld) : List Tk → List Int → List Pr → Ex (List Int)
 | [], v, _ => .ok v
 | w :: r, v, ps => (L.variable_ w).bind fun n => if v.contains n then .error (w, 50) else
  let ps' := (Bw (v.map fun x => (x, n)) []).foldl Dh ps
  if 256 < ps'.length then .error (w, 22) else L.apartGo r (v ++ [n]) ps'
def Ld.apart (L : Ld) (ws : List Tk) : Ex (List Int) := L.apartGo ws [] ((AL L.scs).foldl Dh [])
def Ld.constGo (L : Ld) : List Tk → Ex Ld
 | [] => .ok L
 | w :: r => (Bl w (L.tbl.const w.text).2.1).bind fun _ => Ld.constGo { L with tbl := (L.tbl.const w.text).2.2 } r
def Ld.varGo (L : Ld) : List Tk → Ex Ld
 | [] => .ok L
 | w :: r => (Bl w (L.tbl.var w.text).2.1).bind fun _ => Ld.varGo { L with tbl := (L.tbl.var w.text).2.2 } r
def Ld.hyp (L : Ld) (s : St) (h : Hy) : Ex Ld :=
 (Bl s.label (L.tbl.label h.label).1).bind fun _ => .ok { L with labels := L.labels + 1, tbl := (L.tbl.label h.label).2, hyps := Bd h.label h L.hyps }
def Ld.assert (L : Ld) (s : St) (goal : List Int) : Ex Ld :=
  let vars := L.tbl.isVar
  (Bl s.end_ (DT vars L.scs goal)).bind fun _ => (Bl s.label (L.tbl.label s.label.text).1).bind fun _ =>
    .ok { L with labels := L.labels + 1, tbl := (L.tbl.label s.label.text).2, finds := Bd s.label.text L.asserts.length L.finds
                 asserts := L.asserts ++ [⟨L.asserts.length, s.label.text, decide (s.kind = 7), BZ vars L.scs goal, B2 vars L.scs goal, goal, AK L.scs, AL L.scs, s.proof, s.label, s.end_⟩] }
def St.whole (s : St) : Bool := decide (s.end_.text.size ≠ 0)
def Ld.act (L : Ld) (s : St) : Ex Ld :=
 if s.kind = 8 then (Bl s.key L.tbl.openS.1).bind fun _ => .ok { L with tbl := L.tbl.openS.2, scs := EH L.scs }
 else if s.kind = 9 then (Bl s.key L.tbl.close.1).bind fun _ => .ok { L with tbl := L.tbl.close.2, scs := Dz L.scs }
 else if s.kind = 1 then (if 0 < L.tbl.scopes.length then .error (s.key, 80) else L.constGo s.words)
 else if s.kind = 2 then L.varGo s.words
 else if s.kind = 5 then (L.apart s.words).bind fun v => if s.whole then
   (Bl s.end_ (Cj L.tbl.isVar L.scs v).1).bind fun _ => .ok { L with scs := (Cj L.tbl.isVar L.scs v).2 } else .ok L
 else if s.kind = 3 then (L.floatGo s.words []).bind fun e => if s.whole then
   (L.hyp s ⟨s.label.text, true, e.getD 1 0, e⟩).bind fun M =>
    (Bl s.end_ (BW M.tbl.isVar M.scs s.label.text (e.getD 0 0) (e.getD 1 0)).1).bind fun _ => .ok { M with scs := (BW M.tbl.isVar M.scs s.label.text (e.getD 0 0) (e.getD 1 0)).2 } else .ok L
 else if s.kind = 4 then (L.exprGo s.words []).bind fun e => if s.whole then
   (L.hyp s ⟨s.label.text, false, -1, e⟩).bind fun M =>
    (Bl s.end_ (Fw M.tbl.isVar M.scs s.label.text e).1).bind fun _ => .ok { M with scs := (Fw M.tbl.isVar M.scs s.label.text e).2 } else .ok L
 else if s.kind = 6 ∨ s.kind = 7 then (L.exprGo s.words []).bind fun e => if s.whole then L.assert s e else .ok L
 else .ok L
def Ld.take (L : Ld) (s : St) : Ex Ld := if s.label.text.size ≠ 0 then (L.label s.label).bind fun _ => L.act s else L.act s
def Ld.takeAll (L : Ld) : List St → Ex Ld
 | [] => .ok L
 | s :: r => (L.take s).bind fun M => M.takeAll r
def Bo (t : ByteArray) : List St × Option Flt :=
 match DY (BM t).1 ⟨[], none, none, 9, false⟩ with
 | (r, some (w, e)) => (r.all, some ⟨w.at_, w.text, e⟩)
 | (r, none) => (r.all, if (BM t).2.isNone ∧ (r.now.isSome ∨ r.label.isSome) then some ⟨⟨t.size, 1 + Lib.countByte t.data.toList 10, (t.size - Lib.lastIndexByte t 10).toNat⟩, ⟨#[]⟩, 63⟩ else IK (BM t).2)
def E2 (T : Tbl) : List (ByteArray × Nat) := T.syms.zipIdx.foldl (fun m p => Bd p.1.1 p.2 m) []
structure Bs where
 text : ByteArray
 stmts : List St
 ld : Ld
def CB (t : ByteArray) : Except Flt Bs :=
 match Ld.new.takeAll (Bo t).1 with
 | .error (w, e) => .error ⟨w.at_, w.text, e⟩
 | .ok L => match (Bo t).2 with
  | some f => .error f
  | none => if 0 < L.tbl.scopes.length then .error ⟨⟨t.size, 1 + Lib.countByte t.data.toList 10, (t.size - Lib.lastIndexByte t 10).toNat⟩, ⟨#[]⟩, 23⟩ else .ok ⟨t, (Bo t).1, L⟩
end Go.Proofs.YtbfbgfpghkijdaaGreatDoor
namespace Go.Proofs.YtbfbgfpghkijdaaGreatDoor
open Go.RowKit
def BE : List Hy → List Value → List Value
 | h :: l, v :: m => [.string h.label, .bool h.floating, .int .i64 h.var, v] ++ BE l m
 | _, _ => []
theorem D9 (h : Hy) (v : Value) : ∀ (l : List Hy) (m : List Value), m.length = l.length → BE (l ++ [h]) (m ++ [v]) = BE l m ++ [.string h.label, .bool h.floating, .int .i64 h.var, v]
 | [], [], _ => by simp [BE]
 | x :: l, y :: m, e => by simp [BE, D9 h v l m (by simpa using e)]
 | [], _ :: _, e => by simp at e
 | _ :: _, [], e => by simp at e
theorem GD : ∀ (l : List Hy) (m : List Value) (k : Nat) (h : k < l.length) (h2 : k < m.length), ((BE l m).drop (k * 4)).take 4 = [.string l[k].label, .bool l[k].floating, .int .i64 l[k].var, m[k]]
 | x :: l, y :: m, 0, _, _ => by simp [BE]
 | x :: l, y :: m, k + 1, h, h2 => by
  have := GD l m k (by simpa using h) (by simpa using h2)
  rw [show (k + 1) * 4 = 4 + k * 4 by omega, ← List.drop_drop]
  have e : (BE (x :: l) (y :: m)).drop 4 = BE l m := by simp [BE]
  rw [e]
  simpa using this
structure Bi (w : World) (M : List Nat) (v : Value) (evs : List Value) (l : List Hy) : Prop where
 row : Row w 49 4 v l.length (BE l evs)
 exprs : Bm (fun h ev => Ds w M ev h.expr) l evs
 flo : ∀ h ∈ l, h.floating = true → h.expr ≠ []
theorem Bi.move {w w' : World} {M M' : List Nat} (m : AN M M' w w') {v : Value} {evs : List Value} {l : List Hy} (h : Bi w M v evs l) (hv : ∀ b, v.ownBlock = some b → w'.heap[b]? = w.heap[b]?) : Bi w' M' v evs l := by
 refine ⟨⟨h.row.1, ?_⟩, h.exprs.imp (fun _ _ hx => Fix.move hx m), h.flo⟩
 rcases h.row.2 with h1 | ⟨g, cap, cur, rfl, h2, h3, h4⟩
 ·exact .inl h1
 ·exact .inr ⟨g, cap, cur, rfl, h2, (hv g rfl).trans h3, h4⟩
theorem Bi.same {w w' : World} {M : List Nat} {v : Value} {evs : List Value} {l : List Hy} (h : Bi w M v evs l) (hs : Ad [] w w') : Bi w' M v evs l := h.move (AN.of_same hs) (fun b hb => hs.block b (h.row.lt hb) (by simp))
theorem Bi.at {w : World} {M : List Nat} {v : Value} {evs : List Value} {l : List Hy} (h : Bi w M v evs l) {k : Nat} (hk : k < l.length) :
  ∃ g c ev, v = .slice (some ⟨g, 0, none⟩) l.length c ∧ evs[k]? = some ev ∧ Ds w M ev l[k].expr ∧ w.cell? ⟨g, k * 4, none⟩ = some (.string l[k].label) ∧ w.cell? ⟨g, k * 4 + 1, none⟩ = some (.bool l[k].floating) ∧ w.cell? ⟨g, k * 4 + 2, none⟩ = some (.int .i64 l[k].var) ∧ w.cell? ⟨g, k * 4 + 3, none⟩ = some ev ∧ g < w.heap.size := by
 have hel : k < evs.length := by rw [h.exprs.len]; exact hk
 obtain ⟨ev, hev, hin⟩ := h.exprs.get (List.getElem?_eq_getElem hk)
 have he : evs[k] = ev := by rw [List.getElem?_eq_getElem hel] at hev; exact Option.some.inj hev
 have h4 := GD l evs k hk hel
 obtain ⟨g, c, hv, hcell⟩ := h.row.elem hk (ys := [.string l[k].label, .bool l[k].floating, .int .i64 l[k].var, evs[k]]) rfl h4 (by decide)
 refine ⟨g, c, ev, hv, hev, hin, (hcell 0 (by decide)).1, (hcell 1 (by decide)).1, (hcell 2 (by decide)).1, by rw [← he]; exact (hcell 3 (by decide)).1, World.block_lt_of_cell? _ _ (hcell 0 (by decide)).1⟩
structure ScP where
 hv : Value
 pv : Value
 evs : List Value
structure H6 (w : World) (M : List Nat) (sc : Sc) (p : ScP) : Prop where
 hyps : Bi w M p.hv p.evs sc.hyps
 pairs : Fix w M 47 2 p.pv sc.pairs.length (AT sc.pairs)
structure SA where
 vs : Value
 inner : List ScP
def Cy (l : List ScP) : List Value := l.flatMap fun p => [p.hv, p.pv]
def SA.blocks (A : SA) (s : Nat) : List Nat := s :: (A.vs.ownBlock.toList ++ A.inner.flatMap fun p => p.hv.ownBlock.toList)
def fnV (t : Nat) : Value := .func (.func 30) #[.pointer (some ⟨t, 0, none⟩)] #[]
structure Bq (w : World) (s t : Nat) (A : SA) (M : List Nat) (scs : List Sc) : Prop where
 blk : w.heap[s]? = some (.cells #[fnV t, A.vs] 134 (0, 0))
 row : Row w 218 2 A.vs scs.length (Cy A.inner)
 inn : Bm (H6 w M) scs A.inner
 sub : ∀ b ∈ A.blocks s, b ∈ M
 apart : ∀ (i j : Nat) (p q : ScP) (b : Nat), A.inner[i]? = some p → A.inner[j]? = some q → p.hv.ownBlock = some b → q.hv.ownBlock = some b → i = j
 len : scs.length ≤ 17
 ne : scs ≠ []
theorem Bq.facts {w : World} {s t : Nat} {A : SA} {M : List Nat} {scs : List Sc} (h : Bq w s t A M scs) : ∃ As cs, A.vs = .slice As scs.length cs ∧ w.cell? ⟨s, 0, none⟩ = some (fnV t) ∧ w.cell? ⟨s, 1, none⟩ = some (.slice As scs.length cs) ∧ (∀ i, w.frozen? ⟨s, i, none⟩ = false) ∧ s < w.heap.size := by
 obtain ⟨As, cs, hv⟩ := h.row.shape
 exact ⟨As, cs, hv, Ai h.blk, by rw [Cc h.blk, hv]; rfl, AE h.blk, Af h.blk⟩
theorem Bq.same {w w' : World} {s t : Nat} {A : SA} {M : List Nat} {scs : List Sc} (h : Bq w s t A M scs) (hs : Ad [] w w') : Bq w' s t A M scs :=
 ⟨hs.get h.blk (by simp), h.row.same hs (by simp), h.inn.imp (fun sc p hp => ⟨hp.hyps.move (AN.of_same hs) (fun b hb => hs.block b (hp.hyps.row.lt hb) (by simp)), hp.pairs.move (AN.of_same hs)⟩), h.sub, h.apart, h.len, h.ne⟩
theorem Jv : ∀ (l : List ScP) (k : Nat) (h : k < l.length), ((Cy l).drop (k * 2)).take 2 = [l[k].hv, l[k].pv]
 | x :: l, 0, _ => by simp [Cy]
 | x :: l, k + 1, h => by
  have := Jv l k (by simpa using h)
  rw [show (k + 1) * 2 = 2 + k * 2 by omega, ← List.drop_drop]
  have e : (Cy (x :: l)).drop 2 = Cy l := by simp [Cy]
  rw [e]
  simpa using this
theorem Bq.scope {w : World} {s t : Nat} {A : SA} {M : List Nat} {scs : List Sc} (h : Bq w s t A M scs) {k : Nat} (hk : k < scs.length) :
  ∃ g c p, A.vs = .slice (some ⟨g, 0, none⟩) scs.length c ∧ A.inner[k]? = some p ∧ H6 w M scs[k] p ∧ w.cell? ⟨g, k * 2, none⟩ = some p.hv ∧ w.cell? ⟨g, k * 2 + 1, none⟩ = some p.pv ∧ (∀ i, w.frozen? ⟨g, i, none⟩ = false) ∧ g < w.heap.size := by
 have hl : k < A.inner.length := by rw [h.inn.len]; exact hk
 obtain ⟨p, hp, hin⟩ := h.inn.get (List.getElem?_eq_getElem hk)
 have hpe : A.inner[k] = p := by rw [List.getElem?_eq_getElem hl] at hp; exact Option.some.inj hp
 obtain ⟨g, c, hv, hc⟩ := h.row.elem hk (ys := [p.hv, p.pv]) rfl (by rw [Jv _ _ hl, hpe]) (by decide)
 have h0 := hc 0 (by decide)
 have h1 := hc 1 (by decide)
 refine ⟨g, c, p, hv, hp, hin, h0.1, h1.1, ?_, World.block_lt_of_cell? _ _ h0.1⟩
 have hr := h.row
 rw [hv] at hr
 obtain ⟨cur, hg⟩ := hr.blk
 exact AE hg
theorem IN (w : World) (s t : Nat) (A : SA) (M : List Nat) (scs : List Sc) (h : Bq w s t A M scs) : Calls Tryz.prog 110 #[.pointer (some ⟨s, 0, none⟩)] w fun e w' => e = .returned (.int .i64 ((scs.length : Int) - 1)) ∧ w = w' := by
 obtain ⟨As, cs, hv, c0, c1, cf, hl⟩ := h.facts
 have hlen := h.len
 clear h hv
 go_enter Tryz.func110, Tryz.ntmps110
 go_wp2
 go_ret
 exact ⟨rfl, rfl⟩
theorem MQ : ∀ (l : List Int) (h : 0 < l.length), l.headD 0 = l[0]
 | _ :: _, _ => rfl
theorem L8 (l : List Hy) (v : Int) (k : Nat) (hk : k < l.length) : DX (l.drop k) v = if l[k].floating = true ∧ l[k].var = v then some (l[k].expr.headD 0) else DX (l.drop (k + 1)) v := by
 rw [List.drop_eq_getElem_cons hk, DX]
def DQ (o : Option Int) (w : World) (e : Ending) (w' : World) : Prop := e = .returned (.tuple #[.int .i64 (o.getD 0), .bool o.isSome]) ∧ Ad [] w w'
def Q5 (w : World) (l : List Hy) (v : Int) (u : Value) (W : World) : Prop := ∃ k : Nat, k ≤ l.length ∧ u = .int .i64 k ∧ Ad [] w W ∧ DX l v = DX (l.drop k) v
theorem zq78 {P : Prop} (h : P := by
 rw [hfl] at t1
 clear hstep heq hsm hints H0 hf hfl
 go_wp2
 go_roundw
 case rel => exact ⟨k + 1, hlt, by go_num, Hsm.out.trans (Ad.alloc _ _ _), Hres.out⟩
 case measure => simp [intOf]; omega) : P := h
theorem zq89 {P : Prop} (h : P := by
 subst hkk
 rw [List.drop_length] at heq
 have Heq := Kd heq
 have Hsm := Kd hsm
 clear heq hsm H0
 go_wp2
 go_ret2
 rw [DQ, Heq.out]
 exact ⟨rfl, Hsm.out⟩) : P := h
theorem L4 (w : World) (g o : Nat) (M : List Nat) (hv : Value) (evs : List Value) (l : List Hy) (h : Bi w M hv evs l) (hc : w.cell? ⟨g, o, none⟩ = some hv) (v : Int) (hn : l.length ≤ 1000000) :
  Calls Tryz.prog 153 #[.pointer (some ⟨g, o, none⟩), .int .i64 v] w (DQ (DX l v) w) := by
 obtain ⟨Ah, ch, rfl⟩ := h.row.shape
 have H := Kd h
 clear h
 go_enter Tryz.func153, Tryz.ntmps153
 go_wp2
 have h0 : Q5 w l v (.int .i64 0) w := ⟨0, Nat.zero_le _, rfl, Ad.refl _ _, rfl⟩
 have H0 := Kd h0
 clear h0
 go_loopw [13] (fun u wr => Q5 w l v u wr) (fun u _ => l.length - (intOf u).toNat)
 case atStart => exact H0.out
 case round =>
  obtain ⟨k, hk, rfl, hsm, heq⟩ := hrel
  by_cases hlt : k < l.length
  ·obtain ⟨g2, c2, ev, hv2, hev, hints, t0, t1, t2, t3, hgl⟩ := (H.out.same hsm).at hlt
   cases hv2
   obtain ⟨Ae, ce, rfl⟩ := hints.row.shape
   have hstep := L8 l v k hlt
   have Hsm := Kd hsm
   by_cases hf : l[k].floating = true ∧ l[k].var = v
   ·rw [if_pos hf] at hstep
    obtain ⟨hf1, hf2⟩ := hf
    have hne := H.out.flo l[k] (List.getElem_mem hlt) hf1
    have hpos : 0 < l[k].expr.length := List.length_pos_iff.2 hne
    obtain ⟨ge, ce', hve, s0, hgel⟩ := BS hints.row hpos
    cases hve
    have hhd : l[k].expr.headD 0 = l[k].expr[0] := MQ _ hpos
    have Hres : Hid (DX l v = some l[k].expr[0]) := Kd (by rw [heq, hstep, hhd])
    rw [hf1] at t1
    rw [hf2] at t2
    clear hstep hf1 hf2 hne hhd heq hsm hints H0
    go_wp2
    go_ret2
    rw [DQ, Hres.out]
    exact ⟨rfl, Hsm.out.trans (Ad.alloc _ _ _)⟩
   ·rw [if_neg hf] at hstep
    have Hres := Kd (heq.trans hstep)
    cases hfl : l[k].floating with
    | false =>
     exact zq78
    | true =>
     have hv3 : (l[k].var == v) = false := by
      rw [beq_eq_false_iff_ne]
      exact fun e => hf ⟨hfl, e⟩
     exact zq78
  ·have hkk : k = l.length := by omega
   exact zq89
theorem NG (l : List Sc) (v : Int) (k : Nat) (hk : k < l.length) : CW (l.drop k) v = match DX l[k].hyps v with | some t => some t | none => CW (l.drop (k + 1)) v := by
 rw [List.drop_eq_getElem_cons hk]
 first
  | (rw [CW]; done)
  | (rw [CW]; cases DX l[k].hyps v <;> rfl)
def DO (scs : List Sc) : Prop := ∀ sc ∈ scs, sc.hyps.length ≤ 100000 ∧ sc.pairs.length ≤ 1000 ∧ ∀ h ∈ sc.hyps, h.expr.length ≤ 1000
def PJ (w : World) (scs : List Sc) (v : Int) (u : Value) (W : World) : Prop := ∃ k : Nat, k ≤ scs.length ∧ u = .int .i64 k ∧ Ad [] w W ∧ CW scs v = CW (scs.drop k) v
theorem Ft (w : World) (s t : Nat) (A : SA) (M : List Nat) (scs : List Sc) (h : Bq w s t A M scs) (hsm : DO scs) (v : Int) : Calls Tryz.prog 123 #[.pointer (some ⟨s, 0, none⟩), .int .i64 v] w (DQ (CW scs v) w) := by
 obtain ⟨As, cs, hv, c0, c1, cf, hl⟩ := h.facts
 have hlen := h.len
 have H := Kd h
 have Hv := Kd hv
 have Hsml := Kd hsm
 clear h hv hsm
 go_enter Tryz.func123, Tryz.ntmps123
 go_wp2
 have h0 : PJ w scs v (.int .i64 0) w := ⟨0, Nat.zero_le _, rfl, Ad.refl _ _, rfl⟩
 have H0 := Kd h0
 clear h0
 go_loopw [14] (fun u wr => PJ w scs v u wr) (fun u _ => scs.length - (intOf u).toNat)
 case atStart => exact H0.out
 case round =>
  obtain ⟨k, hk, rfl, hsm, heq⟩ := hrel
  by_cases hlt : k < scs.length
  ·have Hk := Kd (H.out.same hsm)
   obtain ⟨As', cs', hv', -, d1, df, hl'⟩ := Hk.out.facts
   obtain ⟨g, c, p, hvs, hp, hin, s0, s1, sf, hgl⟩ := Hk.out.scope hlt
   rw [hvs] at hv'
   cases hv'
   have hstep := NG scs v k hlt
   have htc := L4 wr g (k * 2) M p.hv p.evs scs[k].hyps hin.hyps s0 v (by have := (Hsml.out scs[k] (List.getElem_mem hlt)).1; omega)
   have Hsm := Kd hsm
   cases hty : DX scs[k].hyps v with
   | some ty =>
    rw [hty] at hstep htc
    unfold DQ at htc
    dsimp only [Option.getD, Option.isSome] at htc hstep
    have Hres := Kd (heq.trans hstep)
    clear hstep heq hsm hin hvs hp hty H0
    go_wp2_with (go_at_call 153; refine htc.mono ?_; rintro e W3 ⟨rfl, hs3⟩)
    go_ret2
    rw [DQ, Hres.out]
    exact ⟨rfl, Hsm.out.trans hs3⟩
   | none =>
    rw [hty] at hstep htc
    unfold DQ at htc
    dsimp only [Option.getD, Option.isSome] at htc hstep
    have Hres := Kd (heq.trans hstep)
    clear hstep heq hsm hin hvs hp hty H0
    go_wp2_with (go_at_call 153; refine htc.mono ?_; rintro e W3 ⟨rfl, hs3⟩; have Hs3 := Kd hs3; clear hs3)
    go_roundw
    case rel => exact ⟨k + 1, hlt, by go_num, Hsm.out.trans Hs3.out, Hres.out⟩
    case measure => simp [intOf]; omega
  ·have hkk : k = scs.length := by omega
   exact zq89
end Go.Proofs.YtbfbgfpghkijdaaGreatDoor
