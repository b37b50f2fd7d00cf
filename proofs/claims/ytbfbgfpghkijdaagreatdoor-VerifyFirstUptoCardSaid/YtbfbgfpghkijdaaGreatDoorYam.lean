/- lemmalaw texts, part 13. -/
import Derived.Test.YtbfbgfpghkijdaaGreatDoorYaj
import Derived.Test.YtbfbgfpghkijdaaGreatDoorYal
set_option maxRecDepth 100000
set_option linter.unusedVariables false
set_option linter.unusedSimpArgs false
set_option maxHeartbeats 32000000
namespace Go.Proofs.YtbfbgfpghkijdaaGreatDoor
open Go.RowKit
theorem MG (w : World) (s t : Nat) (A : SA) (M : List Nat) (scs : List Sc) (h : Bq w s t A M scs) : Calls Tryz.prog 120 #[.pointer (some ⟨s, 0, none⟩)] w fun e w' => ∃ g c, A.vs = .slice (some ⟨g, 0, none⟩) scs.length c ∧ e = .returned (.pointer (some ⟨g, (scs.length - 1) * 2, none⟩)) ∧ Ad [] w w' := by
 have hne : 0 < scs.length := List.length_pos_iff.2 h.ne
 obtain ⟨g, c, p, hv, hp, hin, s0, s1, sf, hgl⟩ := h.scope (k := scs.length - 1) (by omega)
 obtain ⟨As, cs, hv', c0, c1, cf, hl⟩ := h.facts
 rw [hv] at hv'
 cases hv'
 have hlen := h.len
 have Hv := Kd hv
 clear h hv hp hin
 go_enter Tryz.func120, Tryz.ntmps120
 go_wp2
 refine AD (.read 0 (.read 1 (.read 2 (.read 3 (.read 4 (.read 5 (.read 6 (.read 7 (.read 8 (.read 9 (.read 10 (.read 11 .done)))))))))))) (by kernel_rfl) (by kernel_rfl) ?_
 iterate 12 (refine An rfl (fun K hK => ?_); go_simp; (try go_bits); (try (rw [if_pos (by omega)]; go_simp)); refine hK _ ?_; clear hK K)
 refine AB ?_
 go_wp2
 go_ret
 refine ⟨g, c, Hv.out, ?_, Ad.drew _ _⟩
 go_simp
theorem Kt (w : World) (g o : Nat) (hv : Value) (n : Nat) (xs : List Value) (hr : Row w 49 4 hv n xs) (hc : w.cell? ⟨g, o, none⟩ = some hv) (hf : ∀ i, w.frozen? ⟨g, i, none⟩ = false) (hg : hv.ownBlock ≠ some g) (hn : n ≤ 1000000)
  (l : ByteArray) (fl : Bool) (vr : Int) (ev : Value) (Ae : Option Addr) (ne ce : Nat) (hev : ev = .slice Ae ne ce) :
  Calls Tryz.prog 125 #[.pointer (some ⟨g, o, none⟩), .agg #[.string l, .bool fl, .int .i64 vr, ev]] w fun e w' => e = .returned (.tuple #[]) ∧ ∃ v1 w1, Row w1 49 4 v1 (n + 1) (xs ++ [.string l, .bool fl, .int .i64 vr, ev]) ∧ Ad hv.ownBlock.toList w w1 ∧ (v1.ownBlock = hv.ownBlock ∨ ∃ b, v1.ownBlock = some b ∧ w.heap.size ≤ b) ∧ w' = w1.setCell ⟨g, o, none⟩ v1 := by
 obtain ⟨Ah, ch, rfl⟩ := hr.shape
 have hgl := World.block_lt_of_cell? _ _ hc
 have Hr := Kd hr
 have Hg := Kd hg
 subst hev
 clear hr hg
 go_enter Tryz.func125, Tryz.ntmps125
 go_wp2
 refine AD (.read 0 (.read 1 (.read 2 (.read 3 (.read 4 (.read 5 (.one 6 [0, 1, 2, 3, 4] (.one 7 [0] (.read 8 (.read 9 (.one 10 [] .done))))))))))) (by kernel_rfl) (by kernel_rfl) ?_
 iterate 6 (refine An rfl (fun K hK => ?_); go_simp; (try go_bits); (try (rw [if_pos (by omega)]; go_simp)); refine hK _ ?_; clear hK K)
 refine Ak rfl ?_
 go_wp2
 refine EQ.A ?_
 refine Ak rfl ?_
 refine Bh (W := (w.alloc (Obj.cells #[.string l, .bool fl, .int .i64 vr, .slice Ae ne ce] 49)).drew) rfl _ _ 22 rfl 49 4 56 _ Tryz.underlying22 Tryz.infoHyp rfl (by decide) (.slice Ah n ch) _ _ rfl (Hr.out.same ((Ad.alloc [] w _).trans (Ad.drew [] _)) (by simp)) [.string l, .bool fl, .int .i64 vr, .slice Ae ne ce] (by rw [Dw, AA]; rfl) rfl (by simp [Value.oneCell']) (by omega) (by decide) ?_
 intro v3 w3 hrow3 hsm3 hor3
 obtain ⟨A3, c3', rfl⟩ := hrow3.shape
 have hsm03 := ((Ad.alloc _ w _).trans (Ad.drew _ _)).trans hsm3
 have hgn : g ∉ (Value.slice Ah n ch).ownBlock.toList := by simpa using Hg.out
 have d3 := hsm03.cell hc hgn
 have df : ∀ i, w3.frozen? ⟨g, i, none⟩ = false := fun i => by rw [World.frozen?_of_block (hsm03.block g hgl hgn)]; exact hf i
 go_wp2
 refine EQ.A ?_
 iterate 2 (refine An rfl (fun K hK => ?_); go_simp; (try go_bits); (try (rw [if_pos (by omega)]; go_simp)); refine hK _ ?_; clear hK K)
 refine Ak rfl ?_
 go_wp2
 refine EQ.A ?_
 refine AB ?_
 go_wp2
 refine bodyPost_end (results_none rfl _ _ _) rfl ?_
 exact ⟨rfl, .slice A3 (n + 1) c3', w3, hrow3, hsm03, hor3.imp id (fun ⟨b, h1, h2⟩ => ⟨b, h1, by rw [Dw, AA] at h2; omega⟩), rfl⟩
theorem M3 (w : World) (g o : Nat) (pv : Value) (l : List Pr) (hr : Row w 47 2 pv l.length (AT l)) (hc : w.cell? ⟨g, o, none⟩ = some pv) (hf : ∀ i, w.frozen? ⟨g, i, none⟩ = false)
  (qv : Value) (m : List Pr) (hq : Row w 47 2 qv m.length (AT m)) (hn : l.length + m.length ≤ 1000000) :
  Calls Tryz.prog 121 #[.pointer (some ⟨g, o, none⟩), qv] w fun e w' => e = .returned (.tuple #[]) ∧ ∃ v1 w1, Row w1 47 2 v1 (Bw l m).length (AT (Bw l m)) ∧ Ad [] w w1 ∧ (∀ b, v1.ownBlock = some b → w.heap.size ≤ b) ∧ w' = w1.setCell ⟨g, o, none⟩ v1 := by
 have hu := Ev pv qv l m w hr hq hn
 obtain ⟨Ap, cp, rfl⟩ := hr.shape
 obtain ⟨Aq, cq, rfl⟩ := hq.shape
 have hgl := World.block_lt_of_cell? _ _ hc
 clear hr hq
 go_enter Tryz.func121, Tryz.ntmps121
 go_wp2_with (go_at_call 118; go_must (refine hu.mono ?_; rintro e W1 ⟨v1, rfl, hr1, hs1, hv1⟩; obtain ⟨A1, c1, rfl⟩ := hr1.shape; have d1 := hs1.cell hc (by simp); have df : ∀ i, W1.frozen? ⟨g, i, none⟩ = false := fun i => by rw [World.frozen?_of_block (hs1.block g hgl (by simp))]; exact hf i))
 refine bodyPost_end (results_none rfl _ _ _) rfl ?_
 exact ⟨rfl, .slice A1 (Bw l m).length c1, W1, hr1, hs1, hv1, rfl⟩
theorem Mx (p : Pr) : ∀ s : List Pr, (Kc p s).length ≤ s.length + 1
 | [] => by simp [Kc]
 | q :: r => by
  have := Mx p r
  unfold Kc
  split
  ·simp
  ·split <;> simp <;> omega
theorem Ed (ps : List Pr) : ∀ s : List Pr, (ps.foldl Fk s).length ≤ s.length + ps.length := by
 induction ps with
 | nil => intro s; simp
 | cons p ps ih =>
  intro s
  have h1 := ih (Fk s p)
  have h2 : (Fk s p).length ≤ s.length + 1 := by
   unfold Fk
   split
   ·omega
   ·exact Mx _ _
  exact zq114
theorem Ji (a b : List Pr) : (Bw a b).length ≤ a.length + b.length := by
 have h1 := Ed b (a.foldl Fk [])
 have h2 := Ed a []
 simp only [List.length_nil] at h2
 unfold Bw
 omega
theorem HF (l : List Sc) (x : Sc) : AL (l ++ [x]) = Bw (AL l) x.pairs := by simp [AL]
theorem Ij (scs : List Sc) (k : Nat) (hk : k < scs.length) : AL (scs.take (k + 1)) = Bw (AL (scs.take k)) scs[k].pairs := by
 rw [List.take_succ_eq_append_getElem hk, HF]
theorem F9 (scs : List Sc) (h : DO scs) : ∀ k, k ≤ scs.length → (AL (scs.take k)).length ≤ 1000 * k
 | 0, _ => by simp [AL]
 | k + 1, hk => by
  have h1 := F9 scs h k (by omega)
  rw [Ij _ _ hk]
  have h2 := Ji (AL (scs.take k)) scs[k].pairs
  have h3 := (h scs[k] (List.getElem_mem _)).2.1
  omega
def R5 (w : World) (scs : List Sc) (v u : Value) (W : World) : Prop := ∃ k : Nat, k ≤ scs.length ∧ u = .int .i64 k ∧ Row W 47 2 v (AL (scs.take k)).length (AT (AL (scs.take k))) ∧ Ad [] w W ∧ (∀ b, v.ownBlock = some b → w.heap.size ≤ b)
theorem Ib (w : World) (s t : Nat) (A : SA) (M : List Nat) (scs : List Sc) (h : Bq w s t A M scs) (hsm : DO scs) : Calls Tryz.prog 119 #[.pointer (some ⟨s, 0, none⟩)] w (GP (AL scs) w) := by
 obtain ⟨As, cs, hv, c0, c1, cf, hl⟩ := h.facts
 have hlen := h.len
 have H := Kd h
 have Hv := Kd hv
 have Hsml := Kd hsm
 clear h hv hsm
 go_enter Tryz.func119, Tryz.ntmps119
 go_wp2
 have h0 : R5 w scs (.slice none 0 0) (.int .i64 0) w := ⟨0, Nat.zero_le _, rfl, World.ownsRow_nil _ _ _ _, Ad.refl _ _, by simp [Value.ownBlock]⟩
 have H0 := Kd h0
 clear h0
 go_loopw [3, 11] (fun v u wr => R5 w scs v u wr) (fun _ u _ => scs.length - (intOf u).toNat)
 case atStart => exact H0.out
 case round =>
  obtain ⟨k, hk, rfl, hrow, hsm, hfr⟩ := hrel
  by_cases hlt : k < scs.length
  ·obtain ⟨Ao, co, rfl⟩ := hrow.shape
   have Hk := Kd (H.out.same hsm)
   obtain ⟨g, c, p, hvs, hp, hin, s0, s1, sf, hgl⟩ := Hk.out.scope hlt
   rw [Hv.out] at hvs
   cases hvs
   have hu := fun (W : World) (hW : Ad [] wr W) => Ev _ _ _ _ W (hrow.same hW (by simp)) (hin.pairs.row.same hW (by simp)) (by
    have h1 := F9 scs Hsml.out k hk
    have h2 := (Hsml.out scs[k] (List.getElem_mem hlt)).2.1
    omega)
   rw [← Ij scs k hlt] at hu
   obtain ⟨Ah, ch, hhv⟩ := hin.hyps.row.shape
   obtain ⟨Ap, cp, hpv⟩ := hin.pairs.row.shape
   rw [hhv] at s0
   rw [hpv] at s1 hu
   have Hsm := Kd hsm
   have Hfr := Kd hfr
   clear hsm hfr hrow hin hp hhv hpv H0
   go_wp2_with (go_at_call 118; go_must (refine (hu _ (Ad.alloc _ _ _)).mono ?_; rintro e W3 ⟨v3, rfl, hr3, hs3, hv3⟩))
   go_roundw
   case rel => exact ⟨k + 1, hlt, by go_num, hr3, Hsm.out.trans ((Ad.alloc _ _ _).trans hs3), fun b hb => by have h1 := hv3 b hb; have h2 := Hsm.out.size; rw [AA] at h1; omega⟩
   case measure => simp [intOf]; omega
  ·have hkk : k = scs.length := by omega
   subst hkk
   rw [List.take_length] at hrow
   obtain ⟨Ao, co, rfl⟩ := hrow.shape
   have Hrow := Kd hrow
   have Hsm := Kd hsm
   have Hfr := Kd hfr
   clear hrow hsm hfr H0
   go_wp2
   go_ret
   exact ⟨.slice Ao (AL scs).length co, rfl, Hrow.out, Hsm.out, Hfr.out⟩
theorem Dg (l : List ScP) (p : ScP) : Cy (l ++ [p]) = Cy l ++ [p.hv, p.pv] := by simp [Cy]
theorem EG (l : List ScP) : (Cy l).length = l.length * 2 := by
 induction l with
 | nil => rfl
 | cons x l ih => simp only [Cy, List.flatMap_cons, List.length_append, List.length_cons, List.length_nil] at ih ⊢; omega
theorem SA.mem_blocks {A : SA} {s b : Nat} : b ∈ A.blocks s ↔ b = s ∨ A.vs.ownBlock = some b ∨ ∃ p ∈ A.inner, p.hv.ownBlock = some b := by
 simp [SA.blocks]
theorem Bq.lt {w : World} {s t : Nat} {A : SA} {M : List Nat} {scs : List Sc} (h : Bq w s t A M scs) : ∀ b ∈ A.blocks s, b < w.heap.size := by
 intro b hb
 rcases SA.mem_blocks.1 hb with rfl | hb | ⟨p, hp, hb⟩
 ·exact Af h.blk
 ·exact h.row.lt hb
 ·obtain ⟨i, hi⟩ := List.getElem?_of_mem hp
  have hil : i < scs.length := by rw [← h.inn.len]; exact (List.getElem?_eq_some_iff.1 hi).1
  obtain ⟨p', hp', hin⟩ := h.inn.get (List.getElem?_eq_getElem hil)
  rw [hi] at hp'
  cases hp'
  exact hin.hyps.row.lt hb
structure Gp (s t : Nat) (A : SA) (M : List Nat) (scs' : List Sc) (w w' : World) : Prop where
 ex : ∃ A', Bq w' s t A' (A'.blocks s ++ M) scs' ∧ Ad (A.blocks s) w w' ∧ ∀ b ∈ A'.blocks s, b ∈ A.blocks s ∨ w.heap.size ≤ b
theorem Bq.moved {w w' : World} {s t : Nat} {A : SA} {M : List Nat} {scs : List Sc} (h : Bq w s t A M scs) {l : List Nat} (hs : Ad (A.blocks s) w w') (hl : ∀ b ∈ l, b ∈ A.blocks s ∨ w.heap.size ≤ b) : AN M (l ++ M) w w' :=
 ⟨fun b hb => by
  rcases List.mem_append.1 hb with hb | hb
  ·exact (hl b hb).imp (h.sub b) id
  ·exact .inl hb, hs.mono fun b hb => .inl (h.sub b hb)⟩
theorem Bq.setLast {w w' : World} {s t : Nat} {A : SA} {M : List Nat} {init : List Sc} {sc : Sc} (h : Bq w s t A M (init ++ [sc])) {g c : Nat} (hvs : A.vs = .slice (some ⟨g, 0, none⟩) (init.length + 1) c) {P : List ScP} {p : ScP} (hin : A.inner = P ++ [p])
  {p' : ScP} {sc' : Sc} (hrow : Row w' 218 2 A.vs (init.length + 1) (Cy (P ++ [p']))) (hs : Ad (g :: p.hv.ownBlock.toList) w w') (hnew : p'.hv.ownBlock = p.hv.ownBlock ∨ ∃ b, p'.hv.ownBlock = some b ∧ w.heap.size ≤ b)
  (hsc : ∀ M', AN M M' w w' → (∀ b ∈ M', b ∈ M ∨ p'.hv.ownBlock = some b) → H6 w' M' sc' p') : Gp s t A M (init ++ [sc']) w w' := by
 have hlen : (init ++ [sc]).length = init.length + 1 := by simp
 have hPl : P.length = init.length := by have := h.inn.len; rw [hin] at this; simpa using this
 have hsub : ∀ b ∈ g :: p.hv.ownBlock.toList, b ∈ A.blocks s := by
  intro b hb
  rw [SA.mem_blocks]
  rcases List.mem_cons.1 hb with rfl | hb
  ·exact .inr (.inl (by rw [hvs]; rfl))
  ·exact .inr (.inr ⟨p, by rw [hin]; simp, by simpa using hb⟩)
 have hs' : Ad (A.blocks s) w w' := hs.mono fun b hb => .inl (hsub b hb)
 have hnb : ∀ b ∈ SA.blocks { A with inner := P ++ [p'] } s, b ∈ A.blocks s ∨ w.heap.size ≤ b := by
  intro b hb
  rw [SA.mem_blocks] at hb ⊢
  rcases hb with rfl | hb | ⟨q, hq, hb⟩
  ·exact .inl (.inl rfl)
  ·exact .inl (.inr (.inl hb))
  ·rcases List.mem_append.1 hq with hq | hq
   ·exact .inl (.inr (.inr ⟨q, by rw [hin]; exact List.mem_append_left _ hq, hb⟩))
   ·simp at hq; subst hq
    rcases hnew with he | ⟨b', hb', hle⟩
    ·exact .inl (.inr (.inr ⟨p, by rw [hin]; simp, he ▸ hb⟩))
    ·rw [hb'] at hb; cases hb; exact .inr hle
 have m := h.moved hs' hnb
 have hMM : ∀ b ∈ SA.blocks { A with inner := P ++ [p'] } s ++ M, b ∈ M ∨ p'.hv.ownBlock = some b := by
  intro b hb
  rcases List.mem_append.1 hb with hb | hb
  ·rcases SA.mem_blocks.1 hb with rfl | hc | ⟨q, hq, hc⟩
   ·exact .inl (h.sub _ (SA.mem_blocks.2 (.inl rfl)))
   ·exact .inl (h.sub _ (SA.mem_blocks.2 (.inr (.inl hc))))
   ·rcases List.mem_append.1 hq with hq | hq
    ·exact .inl (h.sub _ (SA.mem_blocks.2 (.inr (.inr ⟨q, by rw [hin]; exact List.mem_append_left _ hq, hc⟩))))
    ·simp at hq; subst hq; exact .inr hc
  ·exact .inl hb
 have hgrow : ∃ cur, w.heap[g]? = some (.cells cur 218 (0, 0)) := by have := h.row; rw [hvs, hlen] at this; exact this.blk
 obtain ⟨cur, hg⟩ := hgrow
 have hinn := h.inn
 rw [hin] at hinn
 have hP : Bm (H6 w M) init P := by
  clear hrow hsc hs hs' hnb m
  have key : ∀ (l : List Sc) (Q : List ScP), Q.length = l.length → Bm (H6 w M) (l ++ [sc]) (Q ++ [p]) → Bm (H6 w M) l Q := by
   intro l
   induction l with
   | nil => intro Q hQ _; cases Q with
    | nil => trivial
    | cons _ _ => simp at hQ
   | cons x l ih => intro Q hQ hh; cases Q with
    | nil => simp at hQ
    | cons y Q => exact ⟨hh.1, ih Q (by simpa using hQ) hh.2⟩
  exact key init P hPl hinn
 have hblkp : ∀ (j : Nat) (q : ScP), P[j]? = some q → ∀ b, q.hv.ownBlock = some b → b ∉ g :: p.hv.ownBlock.toList := by
  intro j q hq b hb hm
  have hj : j < P.length := (List.getElem?_eq_some_iff.1 hq).1
  have hqi : A.inner[j]? = some q := by rw [hin, List.getElem?_append_left hj]; exact hq
  rcases List.mem_cons.1 hm with rfl | hm
  ·have hjl : j < init.length := by omega
   obtain ⟨q', hq', hinq⟩ := hP.get (List.getElem?_eq_getElem hjl)
   rw [hq] at hq'
   cases hq'
   exact hinq.hyps.row.ne hg (by decide) hb
  ·have hpi : A.inner[P.length]? = some p := by rw [hin]; simp
   have := h.apart j P.length q p b hqi hpi hb (by simpa using hm)
   omega
 refine ⟨{ A with inner := P ++ [p'] }, ⟨hs.get h.blk ?_, ?_, ?_, fun b hb => List.mem_append_left _ hb, ?_, ?_, by simp⟩, hs', hnb⟩
 ·intro hm
  rcases List.mem_cons.1 hm with rfl | hm
  ·have := h.blk; rw [hg] at this; simp at this
  ·have hpr := hinn.get (i := init.length) (a := sc) (by simp)
   obtain ⟨p2, hp2, hpin⟩ := hpr
   rw [← hPl] at hp2
   simp at hp2
   subst hp2
   exact hpin.hyps.row.ne h.blk (by decide) (by simpa using hm)
 ·simpa using hrow
 ·refine Bm.snoc ?_ (hsc _ m hMM)
  have key : ∀ (l : List Sc) (Q : List ScP), Bm (H6 w M) l Q → (∀ q ∈ Q, ∀ b, q.hv.ownBlock = some b → b ∉ g :: p.hv.ownBlock.toList) → Bm (H6 w' (SA.blocks { A with inner := P ++ [p'] } s ++ M)) l Q := by
   intro l
   induction l with
   | nil => intro Q hh _; cases Q with
    | nil => trivial
    | cons _ _ => exact hh.elim
   | cons x l ih => intro Q hh hq; cases Q with
    | nil => exact hh.elim
    | cons y Q => exact ⟨⟨hh.1.hyps.move m (fun b hb => hs.block b (hh.1.hyps.row.lt hb) (hq y (List.mem_cons_self ..) b hb)), hh.1.pairs.move m⟩, ih Q hh.2 fun q hq' => hq q (List.mem_cons_of_mem _ hq')⟩
  refine key init P hP fun q hq b hb => ?_
  obtain ⟨j, hj⟩ := List.getElem?_of_mem hq
  exact hblkp j q hj b hb
 ·intro i j q r b hi hj hqb hrb
  dsimp only at hi hj
  have hcase : ∀ (i : Nat) (q : ScP), (P ++ [p'])[i]? = some q → (i < P.length ∧ P[i]? = some q) ∨ (i = P.length ∧ q = p') := by
   intro i q hi
   by_cases hl : i < P.length
   ·rw [List.getElem?_append_left hl] at hi; exact .inl ⟨hl, hi⟩
   ·rw [List.getElem?_append_right (by omega)] at hi
    have : i - P.length = 0 := by
     rcases Nat.eq_zero_or_pos (i - P.length) with h0 | h0
     ·exact h0
     ·rw [List.getElem?_eq_none (by simp; omega)] at hi; cases hi
    rw [this] at hi
    simp at hi
    exact .inr ⟨by omega, hi.symm⟩
  have hmix : ∀ (i : Nat) (q : ScP), i < P.length → P[i]? = some q → q.hv.ownBlock = some b → p'.hv.ownBlock = some b → False := by
   intro i q hil hiq hqb hpb
   have hqi : A.inner[i]? = some q := by rw [hin, List.getElem?_append_left hil]; exact hiq
   rcases hnew with he | ⟨b', hb', hle⟩
   ·have hpi : A.inner[P.length]? = some p := by rw [hin]; simp
    have := h.apart i P.length q p b hqi hpi hqb (he ▸ hpb)
    omega
   ·rw [hb'] at hpb
    cases hpb
    obtain ⟨q', hq', hinq⟩ := hP.get (i := i) (List.getElem?_eq_getElem (by omega))
    rw [hiq] at hq'
    cases hq'
    have := hinq.hyps.row.lt hqb
    omega
  rcases hcase i q hi with ⟨hil, hiq⟩ | ⟨rfl, rfl⟩
  ·rcases hcase j r hj with ⟨hjl, hjr⟩ | ⟨rfl, rfl⟩
   ·exact h.apart i j q r b (by rw [hin, List.getElem?_append_left hil]; exact hiq) (by rw [hin, List.getElem?_append_left hjl]; exact hjr) hqb hrb
   ·exact (hmix i q hil hiq hqb hrb).elim
  ·rcases hcase j r hj with ⟨hjl, hjr⟩ | ⟨rfl, rfl⟩
   ·exact (hmix j r hjl hjr hrb hqb).elim
   ·rfl
 ·have := h.len; simpa using this
end Go.Proofs.YtbfbgfpghkijdaaGreatDoor
