/- lemmalaw texts, part 14. -/
import Derived.Test.YtbfbgfpghkijdaaGreatDoorYaj
import Derived.Test.YtbfbgfpghkijdaaGreatDoorYam
import Derived.Deep.QuietTactic
import Derived.BigQuiet
set_option maxRecDepth 100000
set_option linter.unusedVariables false
set_option linter.unusedSimpArgs false
set_option maxHeartbeats 32000000
namespace Go.Proofs.YtbfbgfpghkijdaaGreatDoor
open Go.RowKit
theorem Bq.keep {w w' : World} {s t : Nat} {A : SA} {M : List Nat} {scs : List Sc} (h : Bq w s t A M scs) (hs : Ad [] w w') : Gp s t A M scs w w' := by
 have m : AN M (A.blocks s ++ M) w w' := h.moved (hs.mono (by simp)) (fun b hb => .inl hb)
 refine ⟨A, ⟨hs.get h.blk (by simp), h.row.same hs (by simp), h.inn.imp (fun sc p hp => ⟨hp.hyps.move m (fun b hb => hs.block b (hp.hyps.row.lt hb) (by simp)), hp.pairs.move m⟩), fun b hb => List.mem_append_left _ hb, h.apart, h.len, h.ne⟩, hs.mono (by simp), fun b hb => .inl hb⟩
def Ql (n : Int) (w : World) (e : Ending) (w' : World) : Prop := e = .returned (.int .i64 n) ∧ Ad [] w w'
theorem Calls.turn {P : Program} {f : FuncId} {args : Array Value} {w : World} {v : Value} (h : Calls P f args w fun e w' => e = .returned v ∧ w = w') : Calls P f args w fun e w' => e = .returned v ∧ w' = w := h.mono fun _ _ ⟨h1, h2⟩ => ⟨h1, h2.symm⟩
theorem E1 {w : World} {t : Nat} {TA : TA} {T : Tbl} (hT : AW w t TA T) (W : World) (hW : Ad [] w W) (x : Int) : Calls Tryz.prog 30 #[.pointer (some ⟨t, 0, none⟩), .int .i64 x] W fun e w' => e = .returned (.bool (T.isVar x)) ∧ W = w' := Ga W t TA T (hT.same hW (by simp)) x
def PT (w : World) (scs : List Sc) (L : List Int) (u : Value) (W : World) : Prop := ∃ k : Nat, k ≤ L.length ∧ u = .int .i64 k ∧ Ad [] w W ∧ (L.take k).all (fun v => (CW scs v).isSome) = true
theorem Gv {L : List Int} {f : Int → Bool} {k : Nat} (hk : k < L.length) (h : (L.take k).all f = true) (hf : f L[k] = true) : (L.take (k + 1)).all f = true := by
 rw [List.take_succ_eq_append_getElem hk, List.all_append, h]
 simp [hf]
theorem GY {L : List Int} {f : Int → Bool} {k : Nat} (hk : k < L.length) (hf : f L[k] = false) : L.all f = false := by
 rw [List.all_eq_false]
 exact ⟨L[k], List.getElem_mem _, by simp [hf]⟩
theorem Fj (vars : Int → Bool) (e : List Int) : (Cu e vars).length ≤ e.length := by
 have key : ∀ (e out : List Int), (e.foldl (CD vars) out).length ≤ out.length + e.length := by
  intro e
  induction e with
  | nil => intro out; simp
  | cons x e ih =>
   intro out
   have h1 := ih (CD vars out x)
   have h2 : (CD vars out x).length ≤ out.length + 1 := by
    unfold CD
    split
    ·omega
    ·split
     ·rw [G9]; omega
     ·omega
   exact zq114
 have := key e []
 simpa [Cu] using this
theorem N5 (vars : Int → Bool) (s : List Sc) : ∀ (e : List Int) (h : 0 < e.length), DT vars s e = if vars e[0] = true then 72 else if (Cu e vars).all (fun v => (CW s v).isSome) then 0 else 70
 | _ :: _, _ => rfl
theorem FO (w : World) (s t : Nat) (A : SA) (M : List Nat) (scs : List Sc) (h : Bq w s t A M scs) (hsm : DO scs) (TA : TA) (T : Tbl) (hT : AW w t TA T) (va : Value) (e : List Int) (he : Row w 3 1 va e.length (Ay e)) (hn : e.length ≤ 1000000) :
  Calls Tryz.prog 126 #[.pointer (some ⟨s, 0, none⟩), va] w (Ql (DT T.isVar scs e) w) := by
 obtain ⟨As, cs, hv, c0, c1, cf, hl⟩ := h.facts
 unfold fnV at c0
 have H := Kd h
 have Hsml := Kd hsm
 have HT := Kd hT
 obtain ⟨Ae, ce, rfl⟩ := he.shape
 have He := Kd he
 rcases Nat.eq_zero_or_pos e.length with hz | hpos
 ·have : e = [] := List.eq_nil_of_length_eq_zero hz
  subst this
  clear h hv hsm hT he hz
  go_enter Tryz.func126, Tryz.ntmps126
  go_wp2
  go_quiet (fail)
  go_wp2
  go_ret
  exact ⟨rfl, Ad.drewN _ _ _⟩
 ·obtain ⟨ge, ce', hve', t0, hgel⟩ := BS he hpos
  cases hve'
  have hiv := fun (W : World) (hW : Ad [] w W) => E1 hT W hW e[0]
  have hlp : ((e.length : Int) == 0) = false := by rw [beq_eq_false_iff_ne]; omega
  rw [N5 _ _ _ hpos]
  cases hx : T.isVar e[0] with
  | true =>
   rw [hx] at hiv
   rw [if_pos rfl]
   clear h hv hsm hT he hx
   go_enter Tryz.func126, Tryz.ntmps126
   go_wp2
   go_quiet ((go_at_call 30; go_must (exact Calls.quiet_of_same (Calls.turn (hiv _ (Ad.drewN _ _ _))))))
   go_wp2
   go_ret
   exact ⟨rfl, Ad.drewN _ _ _⟩
  | false =>
   rw [hx] at hiv
   rw [if_neg (by decide)]
   have hvr := fun (W : World) (hW : Ad [] w W) => J6 _ e t TA T W (he.same hW (by simp)) (hT.same hW (by simp)) hn
   obtain ⟨L, hL⟩ : ∃ L, Cu e T.isVar = L := ⟨_, rfl⟩
   have hLn : L.length ≤ e.length := by rw [← hL]; exact Fj _ _
   rw [hL] at hvr ⊢
   obtain ⟨num, hnum⟩ : ∃ num, (if (L.all fun v => (CW scs v).isSome) = true then (0 : Nat) else 70) = num := ⟨_, rfl⟩
   rw [hnum]
   have Hnum := Kd hnum
   clear hnum
   have hty := fun (W : World) (hW : Ad [] w W) (v : Int) => Ft W s t A M scs (h.same hW) hsm v
   clear h hv hsm hT he hx hL
   go_enter Tryz.func126, Tryz.ntmps126
   go_wp2
   go_quiet ((go_at_call 30; go_must (exact Calls.quiet_of_same (Calls.turn (hiv _ (Ad.drewN _ _ _))))))
   go_wp2_with (go_at_call 154; go_must (refine (hvr _ (Ad.drewN _ _ _)).mono ?_; rintro e' W1 ⟨v1, rfl, hr1, hs1, hv1⟩; obtain ⟨A1, c1', rfl⟩ := hr1.shape; have Hr1 := Kd hr1; have hs01 := (Ad.drewN [] w nq).trans hs1; have Hs1 := Kd hs01; clear hr1 hs1 hv1 hs01))
   have h0 : PT w scs L (.int .i64 0) W1 := ⟨0, Nat.zero_le _, rfl, Hs1.out, rfl⟩
   have H0 := Kd h0
   clear h0
   go_loopw [29] (fun u wr => PT w scs L u wr ∧ Row wr 3 1 (.slice A1 L.length c1') L.length (Ay L)) (fun u _ => L.length - (intOf u).toNat)
   case atStart => exact ⟨H0.out, Hr1.out⟩
   case round =>
    obtain ⟨⟨k, hk, rfl, hsm, hall⟩, hrow⟩ := hrel
    by_cases hlt : k < L.length
    ·obtain ⟨gl, cl, hvl, u0, hgll⟩ := BS hrow hlt
     cases hvl
     have htk := hty _ hsm L[k]
     cases hts : CW scs L[k] with
     | some x =>
      rw [hts] at htk
      unfold DQ at htk
      dsimp only [Option.getD, Option.isSome] at htk
      have hall' := Gv hlt hall (by rw [hts]; rfl)
      have Hall := Kd hall'
      have Hsm := Kd hsm
      have Hrow := Kd hrow
      clear hall hall' hts hsm hrow H0
      go_wp2_with (go_at_call 123; go_must (refine htk.mono ?_; rintro e' W3 ⟨rfl, hs3⟩; have Hs3 := Kd hs3; clear hs3))
      go_roundw
      case rel => exact ⟨⟨k + 1, hlt, by go_num, Hsm.out.trans Hs3.out, Hall.out⟩, Hrow.out.same Hs3.out (by simp)⟩
      case measure => simp [intOf]; omega
     | none =>
      rw [hts] at htk
      unfold DQ at htk
      dsimp only [Option.getD, Option.isSome] at htk
      have hfl := GY (f := fun v => (CW scs v).isSome) hlt (by rw [hts]; rfl)
      have Hfl := Kd hfl
      have Hsm := Kd hsm
      clear hall hts hsm hrow H0 hfl
      go_wp2_with (go_at_call 123; go_must (refine htk.mono ?_; rintro e' W3 ⟨rfl, hs3⟩; have Hs3 := Kd hs3; clear hs3))
      go_ret
      exact ⟨by rw [← Hnum.out, Hfl.out]; rfl, Hsm.out.trans Hs3.out⟩
    ·have hkk : k = L.length := by omega
     subst hkk
     rw [List.take_length] at hall
     have Hall := Kd hall
     have Hsm := Kd hsm
     clear hall hsm hrow H0
     go_wp2
     go_ret
     exact ⟨by rw [← Hnum.out, Hall.out]; rfl, Hsm.out⟩
theorem Bq.push {w w' : World} {s t : Nat} {A : SA} {M : List Nat} {scs : List Sc} (h : Bq w s t A M scs) {v1 : Value} (hb : w'.heap[s]? = some (.cells #[fnV t, v1] 134 (0, 0))) (hr : Row w' 218 2 v1 (scs.length + 1) (Cy A.inner ++ [.slice none 0 0, .slice none 0 0]))
  (hs : Ad (s :: A.vs.ownBlock.toList) w w') (ho : v1.ownBlock = A.vs.ownBlock ∨ ∃ b, v1.ownBlock = some b ∧ w.heap.size ≤ b) (hl : scs.length ≤ 16) : Gp s t A M (scs ++ [⟨[], []⟩]) w w' := by
 have hsub : ∀ b ∈ s :: A.vs.ownBlock.toList, b ∈ A.blocks s := by
  intro b hb
  rw [SA.mem_blocks]
  rcases List.mem_cons.1 hb with rfl | hb
  ·exact .inl rfl
  ·exact .inr (.inl (by simpa using hb))
 have hs' := hs.mono (T := A.blocks s) fun b hb => .inl (hsub b hb)
 have hnb : ∀ b ∈ SA.blocks ⟨v1, A.inner ++ [⟨.slice none 0 0, .slice none 0 0, []⟩]⟩ s, b ∈ A.blocks s ∨ w.heap.size ≤ b := by
  intro b hb
  rw [SA.mem_blocks] at hb ⊢
  rcases hb with rfl | hb | ⟨q, hq, hb⟩
  ·exact .inl (.inl rfl)
  ·rcases ho with ho | ⟨c, hc, hle⟩
   ·exact .inl (.inr (.inl (ho ▸ hb)))
   ·dsimp only at hb; rw [hc] at hb; cases hb; exact .inr hle
  ·rcases List.mem_append.1 hq with hq | hq
   ·exact .inl (.inr (.inr ⟨q, hq, hb⟩))
   ·simp at hq; subst hq; simp [Value.ownBlock] at hb
 have m := h.moved hs' hnb
 have hin : ∀ (q : ScP) (i : Nat) (x : Sc), A.inner[i]? = some q → H6 w M x q → ∀ b, q.hv.ownBlock = some b → b ∉ s :: A.vs.ownBlock.toList := by
  intro q i x hq hx b hqb hm
  rcases List.mem_cons.1 hm with hm | hm
  ·exact hx.hyps.row.ne h.blk (by decide) (hm ▸ hqb)
  ·exact hx.hyps.row.ne_row h.row (by decide) (by simpa using hm) hqb
 refine ⟨⟨v1, A.inner ++ [⟨.slice none 0 0, .slice none 0 0, []⟩]⟩, ⟨hb, ?_, ?_, fun b hb => List.mem_append_left _ hb, ?_, ?_, by simp⟩, hs', hnb⟩
 ·rw [Dg]; simpa using hr
 ·refine Bm.snoc ?_ ⟨⟨World.ownsRow_nil _ _ _ _, trivial, by simp⟩, Fix.nil _ _ _ _⟩
  have key : ∀ (l : List Sc) (Q : List ScP), Bm (H6 w M) l Q → (∀ q ∈ Q, ∃ i : Nat, A.inner[i]? = some q) → Bm (H6 w' (SA.blocks ⟨v1, A.inner ++ [⟨.slice none 0 0, .slice none 0 0, []⟩]⟩ s ++ M)) l Q := by
   intro l
   induction l with
   | nil => intro Q hh _; cases Q with
    | nil => trivial
    | cons _ _ => exact hh.elim
   | cons x l ih => intro Q hh hq; cases Q with
    | nil => exact hh.elim
    | cons y Q =>
     obtain ⟨i, hi⟩ := hq y (List.mem_cons_self ..)
     exact ⟨⟨hh.1.hyps.move m (fun b hb => hs.block b (hh.1.hyps.row.lt hb) (hin y i x hi hh.1 b hb)), hh.1.pairs.move m⟩, ih Q hh.2 fun q hq' => hq q (List.mem_cons_of_mem _ hq')⟩
  exact key scs A.inner h.inn fun q hq => List.getElem?_of_mem hq
 ·intro i j p q b hi hj hp hq
  have hcase : ∀ (i : Nat) (q : ScP), (A.inner ++ [⟨.slice none 0 0, .slice none 0 0, []⟩])[i]? = some q → q.hv.ownBlock = some b → A.inner[i]? = some q := by
   intro i q hi hb
   by_cases hl : i < A.inner.length
   ·rw [List.getElem?_append_left hl] at hi; exact hi
   ·have := List.mem_of_getElem? hi
    rw [List.getElem?_append_right (by omega)] at hi
    have := List.mem_of_getElem? hi
    simp at this
    subst this
    simp [Value.ownBlock] at hb
  exact h.apart i j p q b (hcase i p hi hp) (hcase j q hj hq) hp hq
 ·simp; omega
theorem Row.takeN {w : World} {e k n g c : Nat} {xs : List Value} (h : Row w e k (.slice (some ⟨g, 0, none⟩) n c) n xs) {m : Nat} (hm : m ≤ n) : Row w e k (.slice (some ⟨g, 0, none⟩) m c) m (xs.take (m * k)) := by
 have hmk : m * k ≤ n * k := Nat.mul_le_mul_right _ hm
 refine ⟨by rw [List.length_take, h.1]; omega, ?_⟩
 rcases h.2 with ⟨h1, _⟩ | ⟨g', cap, cur, h1, h2, h3, h4, h5, h6, h7⟩
 ·simp at h1
 ·cases h1
  refine .inr ⟨g, c, cur, rfl, h2, h3, by omega, h5, h6, ?_⟩
  rw [← h7, List.take_take, Nat.min_eq_left hmk]
theorem Bm.dropLast {α β : Type} {P : α → β → Prop} : ∀ {l : List α} {m : List β}, Bm P l m → Bm P l.dropLast m.dropLast
 | [], [], _ => trivial
 | [_], [_], _ => trivial
 | x :: y :: l, a :: b :: m, h => ⟨h.1, Bm.dropLast (l := y :: l) (m := b :: m) h.2⟩
 | [], _ :: _, h => h.elim
 | _ :: _, [], h => h.elim
 | [_], _ :: _ :: _, h => h.2.elim
 | _ :: _ :: _, [_], h => h.2.elim
theorem Bq.pop {w w' : World} {s t g c : Nat} {A : SA} {M : List Nat} {scs : List Sc} (h : Bq w s t A M scs) (hv : A.vs = .slice (some ⟨g, 0, none⟩) scs.length c) (h1 : 1 < scs.length) (hb : w'.heap[s]? = some (.cells #[fnV t, .slice (some ⟨g, 0, none⟩) (scs.length - 1) c] 134 (0, 0)))
  (hs : Ad [s] w w') : Gp s t A M scs.dropLast w w' := by
 have hs' := hs.mono (T := A.blocks s) fun b hb => .inl (by simp at hb; subst hb; simp [SA.blocks])
 have hnb : ∀ b ∈ SA.blocks ⟨.slice (some ⟨g, 0, none⟩) (scs.length - 1) c, A.inner.dropLast⟩ s, b ∈ A.blocks s ∨ w.heap.size ≤ b := by
  intro b hb
  rw [SA.mem_blocks] at hb ⊢
  rcases hb with rfl | hb | ⟨q, hq, hb⟩
  ·exact .inl (.inl rfl)
  ·exact .inl (.inr (.inl (by rw [hv]; exact hb)))
  ·exact .inl (.inr (.inr ⟨q, List.dropLast_subset _ hq, hb⟩))
 have m := h.moved hs' hnb
 have hr := h.row
 rw [hv] at hr
 have hlen := h.inn.len
 refine ⟨⟨.slice (some ⟨g, 0, none⟩) (scs.length - 1) c, A.inner.dropLast⟩, ⟨hb, ?_, ?_, fun b hb => List.mem_append_left _ hb, ?_, ?_, ?_⟩, hs', hnb⟩
 ·have hr' := hr.same hs (fun b hb hm => by
   obtain ⟨cur, hg⟩ := hr.blk
   have hbb := h.blk
   simp [Value.ownBlock] at hb hm
   subst hb; subst hm
   rw [hg] at hbb
   simp at hbb)
  have hr2 := hr'.takeN (m := scs.length - 1) (by omega)
  have e1 : (Cy A.inner).take ((scs.length - 1) * 2) = Cy A.inner.dropLast := by
   have hne : A.inner ≠ [] := by intro he; rw [he] at hlen; simp at hlen; omega
   obtain ⟨x, hx⟩ : ∃ x, A.inner = A.inner.dropLast ++ [x] := ⟨A.inner.getLast hne, (List.dropLast_concat_getLast hne).symm⟩
   rw [hx, Dg, List.dropLast_concat, List.take_append_of_le_length (by rw [EG]; have := congrArg List.length hx; simp at this; simp; omega), List.take_of_length_le (by rw [EG]; simp; omega)]
  rw [e1] at hr2
  simpa using hr2
 ·refine Bm.dropLast ?_
  have key : ∀ (l : List Sc) (Q : List ScP), Bm (H6 w M) l Q → Bm (H6 w' (SA.blocks ⟨.slice (some ⟨g, 0, none⟩) (scs.length - 1) c, A.inner.dropLast⟩ s ++ M)) l Q := by
   intro l
   induction l with
   | nil => intro Q hh; cases Q with
    | nil => trivial
    | cons _ _ => exact hh.elim
   | cons x l ih => intro Q hh; cases Q with
    | nil => exact hh.elim
    | cons y Q => exact ⟨⟨hh.1.hyps.move m (fun b hqb => hs.block b (hh.1.hyps.row.lt hqb) (fun hm => hh.1.hyps.row.ne h.blk (by decide) (List.mem_singleton.1 hm ▸ hqb))), hh.1.pairs.move m⟩, ih Q hh.2⟩
  exact key scs A.inner h.inn
 ·intro i j p q b hi hj hp hq
  have hget : ∀ (i : Nat) (q : ScP), A.inner.dropLast[i]? = some q → A.inner[i]? = some q := by
   intro i q hi
   rw [List.getElem?_dropLast] at hi
   split at hi
   ·exact hi
   ·cases hi
  exact h.apart i j p q b (hget i p hi) (hget j q hj) hp hq
 ·have := h.len; simp; omega
 ·intro he
  have : scs.dropLast.length = 0 := by rw [he]; rfl
  simp at this
  omega
def JK (n : Nat) (s t : Nat) (A : SA) (M : List Nat) (scs' : List Sc) (w : World) (e : Ending) (w' : World) : Prop := e = .returned (.int .i64 n) ∧ Gp s t A M scs' w w'
theorem Gp.after {s t : Nat} {A : SA} {M : List Nat} {scs' : List Sc} {w w1 w' : World} (h : Gp s t A M scs' w1 w') (hs : Ad [] w w1) : Gp s t A M scs' w w' := by
 obtain ⟨A', h1, h2, h3⟩ := h
 exact ⟨A', h1, (hs.mono (by simp)).trans h2, fun b hb => (h3 b hb).imp id fun h => Nat.le_trans hs.size h⟩
theorem Gp.then {s t : Nat} {A : SA} {M : List Nat} {scs' : List Sc} {w w1 w' : World} (h : Gp s t A M scs' w w1) (hs : Ad [] w1 w') : Gp s t A M scs' w w' := by
 obtain ⟨A', h1, h2, h3⟩ := h
 exact ⟨A', h1.same hs, h2.trans (hs.mono (by simp)), h3⟩
theorem Tryz.infoScope' : (Tryz.prog.info? 218).map (fun i => (i.zero, i.size, i.bytes)) = some (some (.agg #[.slice none 0 0, .slice none 0 0]), 2, 48) := by kernel_rfl
theorem zq85 {P : Prop} (h : P := by
 go_wp2_with (go_at_call 110; go_must (refine hd.mono ?_; rintro e w' ⟨rfl, hw'⟩; obtain rfl := hw'.symm))
 go_ret
 exact ⟨rfl, H.out.keep (Ad.refl _ _)⟩) : P := h
theorem Jh (w : World) (s t : Nat) (A : SA) (M : List Nat) (scs : List Sc) (h : Bq w s t A M scs) :
  Calls Tryz.prog 62 #[.pointer (some ⟨s, 0, none⟩)] w (JK (if scs.length - 1 = 16 then 23 else 0) s t A M (EH scs) w) := by
 obtain ⟨As, cs, hv, c0, c1, cf, hl⟩ := h.facts
 have hlen := h.len
 have hd := IN w s t A M scs h
 have hr := h.row
 rw [hv] at hr
 have hne : 0 < scs.length := List.length_pos_iff.2 h.ne
 have H := Kd h
 have Hv := Kd hv
 have Hr := Kd hr
 unfold EH
 by_cases hc : scs.length - 1 = 16
 ·rw [if_pos hc, if_pos hc]
  have hb : ((scs.length : Int) - 1 == 16) = true := by rw [beq_iff_eq]; omega
  clear h hv hr hc
  go_enter Tryz.func62, Tryz.ntmps62
  exact zq85
 ·rw [if_neg hc, if_neg hc]
  have hb : ((scs.length : Int) - 1 == 16) = false := by rw [beq_eq_false_iff_ne]; omega
  have hl16 : scs.length ≤ 16 := by omega
  clear h hv hr hc
  go_enter Tryz.func62, Tryz.ntmps62
  go_wp2_with (first
   | (go_at_call 110; go_must (refine hd.mono ?_; rintro e w' ⟨rfl, hw'⟩; obtain rfl := hw'.symm))
   | (at_builtin; go_must (refine Bh rfl _ _ 132 rfl 218 2 48 _ Tryz.underlying132 Tryz.infoScope' rfl (by decide) (.slice As scs.length cs) _ _ rfl Hr.out [.slice none 0 0, .slice none 0 0] rfl rfl (by simp [Value.oneCell']) (by omega) (by decide) ?_; intro v1 w1 hrow1 hsm1 hor1; obtain ⟨As1, cs1, rfl⟩ := hrow1.shape; rw [← Hv.out] at hsm1 hor1; have hb1 := hsm1.get H.out.blk (fun hm => H.out.row.ne H.out.blk (by decide) (by simpa using hm)); have cf1 := AE hb1; have d1 := Ai (i := 1) hb1)))
  go_ret
  exact ⟨rfl, H.out.push (AI hb1 1 _) (hrow1.same (Ad.setCell w1 _ _ (S := [s]) (by simp)) (fun b hb hm => hrow1.ne hb1 (by decide) (List.mem_singleton.1 hm ▸ hb))) ((hsm1.mono (fun x hx => .inl (List.mem_cons_of_mem _ hx))).trans (Ad.setCell _ _ _ (by simp))) hor1 hl16⟩
theorem Hq (w : World) (s t : Nat) (A : SA) (M : List Nat) (scs : List Sc) (h : Bq w s t A M scs) :
  Calls Tryz.prog 64 #[.pointer (some ⟨s, 0, none⟩)] w (JK (if scs.length - 1 = 0 then 23 else 0) s t A M (Dz scs) w) := by
 obtain ⟨As, cs, hv, c0, c1, cf, hl⟩ := h.facts
 have hlen := h.len
 have hd := IN w s t A M scs h
 have hne : 0 < scs.length := List.length_pos_iff.2 h.ne
 have H := Kd h
 unfold Dz
 by_cases hc : scs.length - 1 = 0
 ·rw [if_pos hc, if_pos hc]
  have hb : ((scs.length : Int) - 1 == 0) = true := by rw [beq_iff_eq]; omega
  clear h hv hc
  go_enter Tryz.func64, Tryz.ntmps64
  exact zq85
 ·rw [if_neg hc, if_neg hc]
  have hb : ((scs.length : Int) - 1 == 0) = false := by rw [beq_eq_false_iff_ne]; omega
  obtain ⟨g, c, p, hvs, hp, hin, s0, s1, sf, hgl⟩ := h.scope (k := 0) (by omega)
  rw [hvs] at hv
  cases hv
  have hcap : scs.length ≤ cs := by
   have hr := h.row
   rw [hvs] at hr
   rcases hr.2 with ⟨h1, _⟩ | ⟨g', cap, cur, h1, h2, h3, h4, _⟩
   ·simp at h1
   ·cases h1; exact h4
  have Hvs := Kd hvs
  have h1 : 1 < scs.length := by omega
  clear h hc hin hp hvs
  go_enter Tryz.func64, Tryz.ntmps64
  go_wp2_with (go_at_call 110; go_must (refine hd.mono ?_; rintro e w' ⟨rfl, hw'⟩; obtain rfl := hw'.symm))
  refine AD (.read 0 (.read 1 (.read 2 (.read 3 (.read 4 (.read 5 (.read 6 (.read 7 (.read 8 (.read 9 (.read 10 (.read 11 (.read 12 (.read 13 (.one 14 [] .done))))))))))))))) (by kernel_rfl) (by kernel_rfl) ?_
  iterate 14 (refine An rfl (fun K hK => ?_); go_simp; (try go_bits); (try (rw [if_pos (by omega)]; go_simp)); refine hK _ ?_; clear hK K)
  refine Ak rfl ?_
  go_wp2
  refine EQ.A ?_
  refine AB ?_
  go_wp2
  go_ret
  exact ⟨rfl, H.out.pop Hvs.out h1 (AI H.out.blk 1 _) ((Ad.setCell _ _ _ (by simp)).trans (Ad.drew _ _))⟩
theorem GE {α : Type} {l : List α} (h : l ≠ []) : ∃ init x, l = init ++ [x] := ⟨l.dropLast, l.getLast h, (List.dropLast_concat_getLast h).symm⟩
theorem FU (f : Sc → Sc) : ∀ (l : List Sc) (x : Sc), Dm f (l ++ [x]) = l ++ [f x]
 | [], x => rfl
 | [a], x => rfl
 | a :: b :: l, x => by
  have := FU f (b :: l) x
  simp only [List.cons_append] at this ⊢
  rw [Dm, this]
  simp
theorem Bm.snocInv {α β : Type} {P : α → β → Prop} : ∀ {l : List α} {m : List β} {a : α}, Bm P (l ++ [a]) m → ∃ m' b, m = m' ++ [b] ∧ Bm P l m' ∧ P a b
 | [], [b], a, h => ⟨[], b, rfl, trivial, h.1⟩
 | [], [], a, h => h.elim
 | [], _ :: _ :: _, a, h => h.2.elim
 | x :: l, [], a, h => h.elim
 | x :: l, y :: m, a, h => by
  obtain ⟨m', b, rfl, h1, h2⟩ := Bm.snocInv h.2
  exact ⟨y :: m', b, rfl, ⟨h.1, h1⟩, h2⟩
structure Ej (w : World) (s t g c : Nat) (A : SA) (M : List Nat) (init : List Sc) (sc : Sc) (P : List ScP) (p : ScP) : Prop where
 vs : A.vs = .slice (some ⟨g, 0, none⟩) (init.length + 1) c
 inner : A.inner = P ++ [p]
 len : P.length = init.length
 inn : H6 w M sc p
 c0 : w.cell? ⟨g, init.length * 2, none⟩ = some p.hv
 c1 : w.cell? ⟨g, init.length * 2 + 1, none⟩ = some p.pv
 fr : ∀ i, w.frozen? ⟨g, i, none⟩ = false
 lt : g < w.heap.size
 row : Row w 218 2 (.slice (some ⟨g, 0, none⟩) (init.length + 1) c) (init.length + 1) (Cy P ++ [p.hv, p.pv])
 gs : p.hv.ownBlock ≠ some g
theorem Bq.last {w : World} {s t : Nat} {A : SA} {M : List Nat} {init : List Sc} {sc : Sc} (h : Bq w s t A M (init ++ [sc])) : ∃ g c P p, Ej w s t g c A M init sc P p := by
 have hlen : (init ++ [sc]).length = init.length + 1 := by simp
 obtain ⟨g, c, p, hv, hp, hin, s0, s1, sf, hgl⟩ := h.scope (k := init.length) (by simp)
 obtain ⟨P, q, hPq, hP, hq⟩ := h.inn.snocInv
 have hPl : P.length = init.length := hP.len
 rw [hPq, ← hPl] at hp
 simp at hp
 subst hp
 rw [hlen] at hv
 have hr := h.row
 rw [hv, hlen, hPq, Dg] at hr
 obtain ⟨cur, hg⟩ := hr.blk
 exact ⟨g, c, P, q, hv, hPq, hPl, hq, s0, s1, sf, hgl, hr, hq.hyps.row.ne hg (by decide)⟩
theorem QM {l : List Value} {a b x : Value} {k : Nat} (hk : l.length = k) : (l ++ [a, b]).set k x = l ++ [x, b] := by
 subst hk
 simp
theorem QU {l : List Value} {a b x : Value} {k : Nat} (hk : l.length = k) : (l ++ [a, b]).set (k + 1) x = l ++ [a, x] := by
 subst hk
 rw [List.set_append_right _ _ (by omega)]
 simp
theorem Ej.declare {w w1 : World} {s t g c : Nat} {A : SA} {M : List Nat} {init : List Sc} {sc : Sc} {P : List ScP} {p : ScP} (k : Ej w s t g c A M init sc P p) (h : Bq w s t A M (init ++ [sc])) (x : Hy) {v1 ev : Value} (hr : Row w1 49 4 v1 (sc.hyps.length + 1) (BE sc.hyps p.evs ++ [.string x.label, .bool x.floating, .int .i64 x.var, ev]))
  (hs : Ad p.hv.ownBlock.toList w w1) (ho : v1.ownBlock = p.hv.ownBlock ∨ ∃ b, v1.ownBlock = some b ∧ w.heap.size ≤ b) (hx : Ds w M ev x.expr) (hf : x.floating = true → x.expr ≠ []) : Gp s t A M (FE (init ++ [sc]) x) w (w1.setCell ⟨g, init.length * 2, none⟩ v1) := by
 unfold FE
 rw [FU]
 have hsame : Ad (g :: p.hv.ownBlock.toList) w (w1.setCell ⟨g, init.length * 2, none⟩ v1) := (hs.mono (fun x hx => .inl (List.mem_cons_of_mem _ hx))).trans (Ad.setCell _ _ _ (by simp))
 have hgn : g ∉ p.hv.ownBlock.toList := by simpa using k.gs
 have hr1 := (k.row.same hs (fun b hb hm => by simp [Value.ownBlock] at hb; subst hb; exact hgn hm))
 have hr2 := hr1.set1 (j := init.length * 2) (by omega) v1
 rw [QM (by rw [EG, k.len])] at hr2
 have hv1g : v1.ownBlock ≠ some g := by
  rcases ho with ho | ⟨b, hb, hle⟩
  ·rw [ho]; exact k.gs
  ·rw [hb]; intro he; cases he; have := k.lt; omega
 refine h.setLast k.vs k.inner (p' := ⟨v1, p.pv, p.evs ++ [ev]⟩) (by rw [k.vs, Dg]; exact hr2) hsame ho fun M' m _ => ?_
 have hlen := k.inn.hyps.exprs.len
 refine ⟨⟨?_, Bm.snoc (k.inn.hyps.exprs.imp fun _ _ hx => hx.move m) (hx.move m), fun y hy hyf => ?_⟩, k.inn.pairs.move m⟩
 ·rw [D9 _ _ _ _ hlen]
  simpa using hr.same (Ad.setCell w1 _ _ (S := [g]) (by simp)) (fun b hb hm => hv1g (by simp at hm; subst hm; exact hb))
 ·rcases List.mem_append.1 hy with hy | hy
  ·exact k.inn.hyps.flo y hy hyf
  ·simp at hy; subst hy; exact hf hyf
theorem Ej.apart {w w1 : World} {s t g c : Nat} {A : SA} {M : List Nat} {init : List Sc} {sc : Sc} {P : List ScP} {p : ScP} (k : Ej w s t g c A M init sc P p) (h : Bq w s t A M (init ++ [sc])) (hMlt : ∀ b ∈ M, b < w.heap.size) (q : List Pr) {v1 : Value} (hr : Row w1 47 2 v1 q.length (AT q))
  (hs : Ad [] w w1) (ho : ∀ b, v1.ownBlock = some b → w.heap.size ≤ b) : Gp s t A M (init ++ [⟨sc.hyps, q⟩]) w (w1.setCell ⟨g, init.length * 2 + 1, none⟩ v1) := by
 have hsame : Ad (g :: p.hv.ownBlock.toList) w (w1.setCell ⟨g, init.length * 2 + 1, none⟩ v1) := (hs.mono (by simp)).trans (Ad.setCell _ _ _ (by simp))
 have hr1 := k.row.same hs (by simp)
 have hr2 := hr1.set1 (j := init.length * 2 + 1) (by omega) v1
 rw [QU (by rw [EG, k.len])] at hr2
 refine h.setLast k.vs k.inner (p' := ⟨p.hv, v1, p.evs⟩) (by rw [k.vs, Dg]; exact hr2) hsame (.inl rfl) fun M' m hM' => ?_
 refine ⟨⟨?_, k.inn.hyps.exprs.imp fun _ _ hx => hx.move m, k.inn.hyps.flo⟩, ?_, ?_⟩
 ·exact (k.inn.hyps.row.same hs (by simp)).same (Ad.setCell w1 _ _ (S := [g]) (by simp)) (fun b hb hm => k.gs (by simp at hm; subst hm; exact hb))
 ·exact hr.same (Ad.setCell w1 _ _ (S := [g]) (by simp)) (fun b hb hm => by simp at hm; subst hm; have := ho _ hb; have := k.lt; omega)
 ·intro b hb hm
  have h1 := ho b hb
  rcases hM' b hm with h2 | h2
  ·have := hMlt b h2; omega
  ·have := k.inn.hyps.row.lt h2; omega
theorem Ej.same {w w' : World} {s t g c : Nat} {A : SA} {M : List Nat} {init : List Sc} {sc : Sc} {P : List ScP} {p : ScP} (k : Ej w s t g c A M init sc P p) (hs : Ad [] w w') : Ej w' s t g c A M init sc P p :=
 ⟨k.vs, k.inner, k.len, ⟨k.inn.hyps.same hs, k.inn.pairs.move (AN.of_same hs)⟩, hs.cell k.c0 (by simp), hs.cell k.c1 (by simp), fun i => by rw [World.frozen?_of_block (hs.block g k.lt (by simp))]; exact k.fr i, Nat.lt_of_lt_of_le k.lt hs.size, k.row.same hs (by simp), k.gs⟩
theorem Qw {w : World} {s t : Nat} {A : SA} {M : List Nat} {scs : List Sc} (h : Bq w s t A M scs) (hsm : DO scs) (W : World) (hW : Ad [] w W) (v : Int) : Calls Tryz.prog 123 #[.pointer (some ⟨s, 0, none⟩), .int .i64 v] W (DQ (CW scs v) W) := Ft W s t A M scs (h.same hW) hsm v
theorem JY {w : World} {s t g c : Nat} {A : SA} {M : List Nat} {init : List Sc} {sc : Sc} {P : List ScP} {p : ScP} (h : Bq w s t A M (init ++ [sc])) (k : Ej w s t g c A M init sc P p) (W : World) (hW : Ad [] w W) :
  Calls Tryz.prog 120 #[.pointer (some ⟨s, 0, none⟩)] W fun e w' => e = .returned (.pointer (some ⟨g, init.length * 2, none⟩)) ∧ Ad [] W w' := by
 refine (MG W s t A M _ (h.same hW)).mono ?_
 rintro e w' ⟨g', c', hv, rfl, hs⟩
 rw [k.vs] at hv
 simp at hv
 obtain ⟨rfl, rfl⟩ := hv
 exact ⟨by simp, hs⟩
theorem Jz {w : World} {s t g c : Nat} {A : SA} {M : List Nat} {init : List Sc} {sc : Sc} {P : List ScP} {p : ScP} (h : Bq w s t A M (init ++ [sc])) (k : Ej w s t g c A M init sc P p) (hsml : sc.hyps.length ≤ 100000) (W : World) (hW : Ad [] w W)
  (l : ByteArray) (fl : Bool) (vr : Int) (Ae : Option Addr) (ne ce : Nat) (ex : List Int) (hx : Ds W M (.slice Ae ne ce) ex) (hf : fl = true → ex ≠ []) :
  Calls Tryz.prog 125 #[.pointer (some ⟨g, init.length * 2, none⟩), .agg #[.string l, .bool fl, .int .i64 vr, .slice Ae ne ce]] W fun e w' => e = .returned (.tuple #[]) ∧ Gp s t A M (FE (init ++ [sc]) ⟨l, fl, vr, ex⟩) w w' := by
 have hk := k.same hW
 refine (Kt W g (init.length * 2) p.hv sc.hyps.length _ hk.inn.hyps.row hk.c0 hk.fr hk.gs (by omega) l fl vr _ Ae ne ce rfl).mono ?_
 rintro e w' ⟨rfl, v1, w1, hr, hs, ho, rfl⟩
 exact ⟨rfl, (hk.declare (h.same hW) ⟨l, fl, vr, ex⟩ hr hs ho hx hf).after hW⟩
theorem QT (w : World) (e k n : Nat) (ys : List Value) (hn : n ≤ maxLen) (hl : ys.length = n * k) : Row (w.alloc (.cells ys.toArray e)) e k (.slice (some ⟨w.heap.size, 0, none⟩) n n) n ys := by
 refine ⟨hl, .inr ⟨w.heap.size, n, ys.toArray, rfl, Nat.zero_le _, Aj w _, Nat.le_refl _, hn, by simpa using hl, ?_⟩⟩
 rw [← hl]
 simp
theorem P3 (w : World) (M : List Nat) (hM : ∀ b ∈ M, b < w.heap.size) (a b : Int) : Ds (w.alloc (.cells #[.int .i64 a, .int .i64 b] 3)) M (.slice (some ⟨w.heap.size, 0, none⟩) 2 2) [a, b] :=
 ⟨QT w _ 1 2 (Ay [a, b]) (by decide) rfl, fun c hc hm => by simp [Value.ownBlock] at hc; subst hc; have := hM _ hm; omega⟩
theorem zq39 {P : Prop} (h : P := by
 go_enter Tryz.func72, Tryz.ntmps72
 go_wp2_with (first   | (go_at_call 123; go_must (refine (hty _ (Ad.refl _ _)).mono ?_; rintro e' W1 ⟨rfl, hs1⟩; have Hs1 := Kd hs1; have d0 := hs1.cell c0 (by simp); clear hs1))   | (go_at_call 30; refine (hiv _ Hs1.out _).mono ?_; rintro e' W2 ⟨rfl, hw2⟩; obtain rfl := hw2.symm))
 go_ret
 exact ⟨rfl, H.out.keep Hs1.out⟩) : P := h
theorem IX (w : World) (s t : Nat) (A : SA) (M : List Nat) (scs : List Sc) (h : Bq w s t A M scs) (hsm : DO scs) (hMlt : ∀ b ∈ M, b < w.heap.size) (TA : TA) (T : Tbl) (hT : AW w t TA T) (l : ByteArray) (ty v : Int) :
  Calls Tryz.prog 72 #[.pointer (some ⟨s, 0, none⟩), .string l, .int .i64 ty, .int .i64 v] w (JK (BW T.isVar scs l ty v).1 s t A M (BW T.isVar scs l ty v).2 w) := by
 obtain ⟨As, cs, hv, c0, c1, cf, hl⟩ := h.facts
 unfold fnV at c0
 have hty := fun (W : World) (hW : Ad [] w W) => Qw h hsm W hW v
 have hiv := fun (W : World) (hW : Ad [] w W) (x : Int) => E1 hT W hW x
 have H := Kd h
 have Hsm := Kd hsm
 have HM := Kd hMlt
 cases h1 : T.isVar v with
 | false =>
  rw [show BW T.isVar scs l ty v = (71, scs) by simp [BW, h1]]
  unfold DQ at hty
  clear h hsm hMlt hT hv
  exact zq39
 | true =>
  cases h2 : T.isVar ty with
  | true =>
   rw [show BW T.isVar scs l ty v = (72, scs) by simp [BW, h1, h2]]
   unfold DQ at hty
   clear h hsm hMlt hT hv
   exact zq39
  | false =>
   cases h3 : CW scs v with
   | some x =>
    rw [show BW T.isVar scs l ty v = (70, scs) by simp [BW, h1, h2, h3]]
    rw [h3] at hty
    unfold DQ at hty
    dsimp only [Option.getD, Option.isSome] at hty
    clear h hsm hMlt hT hv h3
    exact zq39
   | none =>
    rw [show BW T.isVar scs l ty v = (0, FE scs ⟨l, true, v, [ty, v]⟩) by simp [BW, h1, h2, h3]]
    rw [h3] at hty
    unfold DQ at hty
    dsimp only [Option.getD, Option.isSome] at hty
    obtain ⟨init, sc, rfl⟩ := GE h.ne
    obtain ⟨g, c, P, p, hk⟩ := h.last
    have hin := fun (W : World) (hW : Ad [] w W) => JY h hk W hW
    have hsml := (hsm sc (by simp)).1
    have hdc := fun (W : World) (hW : Ad [] w W) => Jz h hk hsml W hW
    have K := Kd hk
    clear h hsm hMlt hT hv h3 hk
    go_enter Tryz.func72, Tryz.ntmps72
    go_wp2_with (first
     | (go_at_call 123; go_must (refine (hty _ (Ad.refl _ _)).mono ?_; rintro e' W1 ⟨rfl, hs1⟩; have Hs1 := Kd hs1; have d0 := hs1.cell c0 (by simp); clear hs1))
     | (go_at_call 30; refine (hiv _ Hs1.out _).mono ?_; rintro e' W2 ⟨rfl, hw2⟩; obtain rfl := hw2.symm)
     | (go_at_call 120; go_must (refine (hin _ Hs1.out).mono ?_; rintro e' W3 ⟨rfl, hs3⟩; have Hs3 := Kd (Hs1.out.trans hs3); clear hs3))
     | (go_at_call 125; go_must (refine (hdc _ (Hs3.out.trans (Ad.alloc [] _ _)) l true v _ _ _ [ty, v] (P3 W3 M (fun b hb => Nat.lt_of_lt_of_le (HM.out b hb) Hs3.out.size) ty v) (by simp)).mono ?_; rintro e' W4 ⟨rfl, hst⟩; have Hst := Kd hst; clear hst)))
    go_ret
    exact ⟨rfl, Hst.out⟩
theorem En (l : List Int) : ∀ u ∈ Ay l, u.oneCell' = true := by
 intro u hu
 obtain ⟨x, _, rfl⟩ := List.mem_map.1 hu
 rfl
theorem KW (w : World) (s t : Nat) (A : SA) (M : List Nat) (scs : List Sc) (h : Bq w s t A M scs) (hsm : DO scs) (hMlt : ∀ b ∈ M, b < w.heap.size) (TA : TA) (T : Tbl) (hT : AW w t TA T) (l : ByteArray) (va : Value) (e : List Int) (he : Row w 3 1 va e.length (Ay e)) (hn : e.length ≤ 1000000) :
  Calls Tryz.prog 74 #[.pointer (some ⟨s, 0, none⟩), .string l, va] w (JK (Fw T.isVar scs l e).1 s t A M (Fw T.isVar scs l e).2 w) := by
 have hck := FO w s t A M scs h hsm TA T hT va e he hn
 have hcl := fun (W : World) (hW : Ad [] w W) => CP va e.length (Ay e) W (he.same hW (by simp)) (En e) hn
 obtain ⟨Ae, ce, rfl⟩ := he.shape
 have H := Kd h
 have HM := Kd hMlt
 obtain ⟨num, hnum⟩ : ∃ num, DT T.isVar scs e = num := ⟨_, rfl⟩
 unfold Fw
 rw [hnum] at hck ⊢
 by_cases h0 : num = 0
 ·subst h0
  rw [if_neg (by simp)]
  unfold Ql at hck
  obtain ⟨init, sc, rfl⟩ := GE h.ne
  obtain ⟨g, c, P, p, hk⟩ := h.last
  have hin := fun (W : World) (hW : Ad [] w W) => JY h hk W hW
  have hsml := (hsm sc (by simp)).1
  have hdc := fun (W : World) (hW : Ad [] w W) => Jz h hk hsml W hW
  clear h hsm hMlt hT hnum hk
  go_enter Tryz.func74, Tryz.ntmps74
  go_wp2_with (go_at_call 126; go_must (refine hck.mono ?_; rintro e' W1 ⟨rfl, hs1⟩; have Hs1 := Kd hs1; clear hs1))
  refine AD (.read 0 (.read 4 (.read 5 (.one 1 [4, 5] (.read 2 (.read 3 (.one 6 [4, 2, 3] (.read 7 (.one 8 [] .done))))))))) (by kernel_rfl) (by kernel_rfl) ?_
  iterate 3 (refine An rfl (fun K hK => ?_); go_simp; (try go_bits); (try (rw [if_pos (by omega)]; go_simp)); refine hK _ ?_; clear hK K)
  refine Ak rfl ?_
  go_wp2_with (go_at_call 120; go_must (refine (hin _ (Hs1.out.trans (Ad.drew [] _))).mono ?_; rintro e' W3 ⟨rfl, hs3⟩; have Hs3 := Kd ((Hs1.out.trans (Ad.drew [] _)).trans hs3); clear hs3))
  refine EQ.A ?_
  iterate 2 (refine An rfl (fun K hK => ?_); go_simp; (try go_bits); (try (rw [if_pos (by omega)]; go_simp)); refine hK _ ?_; clear hK K)
  refine Ak rfl ?_
  go_wp2_with (go_at_call 51; go_must (refine (hcl _ Hs3.out).mono ?_; rintro e' W4 ⟨v4, rfl, hr4, hs4, hv4⟩; obtain ⟨A4, c4, rfl⟩ := hr4.shape; have Hs4 := Kd (Hs3.out.trans hs4); have hI4 : Ds W4 M (.slice A4 e.length c4) e := Fix.fresh hr4 hv4 (fun b hb => Nat.lt_of_lt_of_le (HM.out b hb) Hs3.out.size); have HI4 := Kd hI4; clear hr4 hs4 hv4 hI4))
  refine EQ.A ?_
  iterate 1 (refine An rfl (fun K hK => ?_); go_simp; (try go_bits); (try (rw [if_pos (by omega)]; go_simp)); refine hK _ ?_; clear hK K)
  refine Ak rfl ?_
  go_wp2_with (go_at_call 125; go_must (refine (hdc _ Hs4.out l false (-1) _ _ _ e HI4.out (by simp)).mono ?_; rintro e' W5 ⟨rfl, hst⟩; have Hst := Kd hst; clear hst))
  refine EQ.A ?_
  refine AB ?_
  go_wp2
  go_ret
  exact ⟨rfl, Hst.out⟩
 ·have hne : ((num : Int) == 0) = false := by rw [beq_eq_false_iff_ne]; omega
  rw [if_pos h0]
  unfold Ql at hck
  clear h hsm hMlt hT hnum h0
  go_enter Tryz.func74, Tryz.ntmps74
  go_wp2_with (go_at_call 126; go_must (refine hck.mono ?_; rintro e' W1 ⟨rfl, hs1⟩; have Hs1 := Kd hs1; clear hs1))
  go_ret
  exact ⟨rfl, H.out.keep Hs1.out⟩
end Go.Proofs.YtbfbgfpghkijdaaGreatDoor
