/- lemmalaw texts, part 39. -/
import Derived.Test.YtbfbgfpghkijdaaGreatDoorYaa
import Derived.Test.YtbfbgfpghkijdaaGreatDoorYaj
import Derived.Test.YtbfbgfpghkijdaaGreatDoorYaz
import Derived.Test.YtbfbgfpghkijdaaGreatDoorYbj
import Derived.Test.YtbfbgfpghkijdaaGreatDoorYbl
set_option maxRecDepth 100000
set_option linter.unusedVariables false
set_option linter.unusedSimpArgs false
set_option maxHeartbeats 32000000
namespace Go.Proofs.YtbfbgfpghkijdaaGreatDoor
open Go.RowKit
structure JH (w : World) (v : Value) (evs : List Value) (L : List (List Int)) : Prop where
 cells : (v = .slice none 0 0 ∧ L = []) ∨ Sub w 1 v L.length evs
 exprs : Bm (fun e ev => Seg w ev e) L evs
theorem JH.same {w w' : World} {v : Value} {evs : List Value} {L : List (List Int)} (h : JH w v evs L) (hs : Ad [] w w') : JH w' v evs L := ⟨h.cells.imp_right fun h => h.same hs, h.exprs.imp fun _ _ h => h.same hs⟩
theorem JH.shape {w : World} {v : Value} {evs : List Value} {L : List (List Int)} (h : JH w v evs L) : ∃ A c, v = .slice A L.length c := by
 rcases h.cells with ⟨rfl, rfl⟩ | h
 ·exact ⟨none, 0, rfl⟩
 ·exact zq96
theorem JH.at {w : World} {A : Option Addr} {n c : Nat} {evs : List Value} {L : List (List Int)} (h : JH w (.slice A n c) evs L) {k : Nat} (hk : k < L.length) :
  ∃ g off ev, A = some ⟨g, off, none⟩ ∧ w.cell? ⟨g, off + k, none⟩ = some ev ∧ Seg w ev L[k] ∧ g < w.heap.size ∧ n = L.length ∧ evs[k]? = some ev := by
 obtain ⟨ev, hev, hs⟩ := h.exprs.get (List.getElem?_eq_getElem hk)
 rcases h.cells with ⟨h1, rfl⟩ | h
 ·simp at hk
 ·obtain ⟨g, off, c', h1, h2, h3, h4⟩ := h.ex
  cases h1
  exact ⟨g, off, ev, rfl, h4 k ev hev, hs, h3, rfl, hev⟩
theorem IT {h : Hy} {e : List Int} {z : Option Bx} (hz : Bp [h] [e] = z) : ∀ (f : List Hy) (l : List (List Int)), f.length = l.length → Bp (f ++ [h]) (l ++ [e]) = (Bp f l).bind fun b => z.map (b ++ ·)
 | [], [], _ => by
  rw [List.nil_append, List.nil_append, hz]
  cases z <;> simp [Bp]
 | x :: f, y :: l, hl => by
  have ih := IT hz f l (by simpa using hl)
  simp only [List.cons_append, Bp]
  by_cases hf : x.floating = false
  ·rw [if_pos hf, if_pos hf, ih]
  ·rw [if_neg hf, if_neg hf]
   cases y with
   | nil => rfl
   | cons a r =>
    dsimp only
    split
    ·rw [ih]
     cases Bp f l with
     | none => rfl
     | some b => cases z <;> rfl
    ·rfl
 | [], _ :: _, hl => by simp at hl
 | _ :: _, [], hl => by simp at hl
theorem GC : ∀ (f f' : List Hy) (l l' : List (List Int)), f.length = l.length → Bp f l = none → Bp (f ++ f') (l ++ l') = none
 | [], _, [], _, _, h => by simp [Bp] at h
 | x :: f, f', y :: l, l', hl, h => by
  simp only [List.cons_append, Bp] at h ⊢
  by_cases hf : x.floating = false
  ·rw [if_pos hf] at h ⊢
   exact GC f f' l l' (by simpa using hl) h
  ·rw [if_neg hf] at h ⊢
   cases y with
   | nil => rfl
   | cons a r =>
    dsimp only at h ⊢
    split at h
    ·rename_i ha
     rw [if_pos ha]
     rw [Option.map_eq_none_iff] at h ⊢
     exact GC f f' l l' (by simpa using hl) h
    ·rename_i ha; rw [if_neg ha]
 | [], _, _ :: _, _, hl, _ => by simp at hl
 | _ :: _, _, [], _, hl, _ => by simp at hl
theorem MW {H : List Hy} {L : List (List Int)} (hl : H.length = L.length) {k : Nat} (hk : k < H.length) {b : Bx} (hb : Bp (H.take k) (L.take k) = some b) : Bp (H.take (k + 1)) (L.take (k + 1)) = (Bp [H[k]] [L[k]'(by omega)]).map (b ++ ·) := by
 rw [List.take_succ_eq_append_getElem hk, List.take_succ_eq_append_getElem (by omega), IT rfl _ _ (by rw [List.length_take, List.length_take, hl]), hb, Option.bind_some]
theorem Mi {H : List Hy} {L : List (List Int)} (hl : H.length = L.length) {k : Nat} (h : Bp (H.take (k + 1)) (L.take (k + 1)) = none) : Bp H L = none := by
 have := GC (H.take (k + 1)) (H.drop (k + 1)) (L.take (k + 1)) (L.drop (k + 1)) (by rw [List.length_take, List.length_take, hl]) h
 rw [List.take_append_drop, List.take_append_drop] at this
 exact this
structure Kj (w : World) (hv pv gv : Value) (H : List Hy) (ps : List Pr) (goal : List Int) : Prop where
 hyps : ∃ evs, Bi w [] hv evs H
 pairs : Row w 47 2 pv ps.length (AT ps)
 goal : Seg w gv goal
theorem Kj.same {w w' : World} {hv pv gv : Value} {H : List Hy} {ps : List Pr} {goal : List Int} (h : Kj w hv pv gv H ps goal) (hs : Ad [] w w') : Kj w' hv pv gv H ps goal :=
 ⟨h.hyps.imp fun _ h => h.same hs, h.pairs.same hs (by simp), h.goal.same hs⟩
structure Ng (w : World) (f0 f1 f2 : Value) (b : Bx) (v : Value) (W : World) : Prop where
 fr : W.heap[w.heap.size]? = some (.cells #[f0, f1, f2] 67 (0, 0))
 res : W.heap[w.heap.size + 1]? = some (.cells #[.slice none 0 0] 262 (0, 0))
 ex : ∃ evs, Dk W v evs b ∧ ∀ ev ∈ evs, ∀ c, ev.ownBlock = some c → c < w.heap.size
 own : ∀ c, v.ownBlock = some c → w.heap.size ≤ c
 base : Ad [] w W
theorem Ng.same {w W W' : World} {f0 f1 f2 v : Value} {b : Bx} (h : Ng w f0 f1 f2 b v W) (hs : Ad [] W W') : Ng w f0 f1 f2 b v W' := ⟨hs.get h.fr (by simp), hs.get h.res (by simp), h.ex.imp fun _ h => ⟨h.1.same hs, h.2⟩, h.own, h.base.trans hs⟩
theorem Ng.push {w W W1 W6 : World} {f0 f1 f2 v v6 sv : Value} {b : Bx} {bevs : List Value} (h : Ng w f0 f1 f2 b v W) (hb : Dk W v bevs b) (hbo : ∀ ev ∈ bevs, ∀ c, ev.ownBlock = some c → c < w.heap.size) (hs : Ad [] W W1) (x : Int) (r : List Int)
  (hr : Row W6 291 2 v6 (b.length + 1) (Cg b bevs ++ [.int .i64 x, sv])) (hs6 : Ad v.ownBlock.toList W1 W6) (ho : v6.ownBlock = v.ownBlock ∨ ∃ c, v6.ownBlock = some c ∧ W1.heap.size ≤ c) (hsv : Seg W sv r) (hso : ∀ c, sv.ownBlock = some c → c < w.heap.size) :
  Ng w f0 f1 f2 (b ++ [(x, r)]) v6 W6 := by
 have hno : ∀ c, c < w.heap.size → c ∉ v.ownBlock.toList := fun c hc hm => by have := h.own c (Option.mem_toList.1 hm); omega
 have hz := h.base.size
 have hz1 := hs.size
 refine ⟨hs6.get (hs.get h.fr (by simp)) fun hm => ?_, hs6.get (hs.get h.res (by simp)) fun hm => ?_, ⟨bevs ++ [sv], ⟨?_, ?_⟩, fun ev hev => ?_⟩, fun c hc => ?_, (h.base.trans hs).then hs6 fun x hx => .inr (h.own x (Option.mem_toList.1 hx))⟩
 ·exact hb.row.ne h.fr (by decide) (Option.mem_toList.1 hm)
 ·exact hb.row.ne h.res (by decide) (Option.mem_toList.1 hm)
 ·rw [Ie _ _ _ _ hb.exprs.len, List.length_append, List.length_singleton]
  exact hr
 ·have h1 : ∀ {l : List Int} {ev : Value}, Seg W ev l → (∀ c, ev.ownBlock = some c → c < w.heap.size) → Seg W6 ev l := fun h hl => (h.same hs).keep hs6 fun c hc => hno c (hl c hc)
  exact (hb.exprs.impMem fun _ ev hev h => h1 h (hbo ev hev)).snoc (h1 hsv hso)
 ·rcases List.mem_append.1 hev with hev | hev
  ·exact hbo ev hev
  ·rw [List.mem_singleton] at hev; subst hev; exact hso
 ·rcases ho with ho | ⟨d, hd, hle⟩
  ·exact h.own c (by rw [← ho]; exact hc)
  ·rw [hd] at hc; cases hc; omega
def Oz (o : Option Bx) (w : World) (e : Ending) (w' : World) : Prop := Ad [] w w' ∧ match o with
 | some b => if (b.map (·.1)).Nodup then ∃ v s, e = .returned (.tuple #[.agg #[v], .int .i64 0]) ∧ E3 w' v s ∧ s.Perm b else e = .returned (.tuple #[.agg #[.slice none 0 0], .int .i64 114])
 | none => e = .returned (.tuple #[.agg #[.slice none 0 0], .int .i64 114])
theorem zq25 {P : Prop} (h : P := by
 have Hs7 := Kd hs7
 clear hs7 hcut
 go_wp2
 go_quiet (fail)
 go_wp2
 refine AD (.read 0 (.read 1 (.read 2 (.read 3 (.read 4 (.read 5 (.read 6 (.read 7 (.read 8 (.one 9 [0] (.one 10 [] (.one 11 [] (.done))))))))))))) (by kernel_rfl) (by kernel_rfl) ?_
 iterate 9 (refine An rfl (fun K hK => ?_); go_simp; (try go_bits); (try (rw [if_pos (by omega)]; go_simp)); refine hK _ ?_; clear hK K)
 refine Ak rfl ?_
 go_wp2
 refine EQ.A ?_
 refine Ak rfl ?_
 go_wp2_with (at_builtin; go_must (refine L7 rfl _ _ 260 rfl 291 2 32 _ Tryz.underlying260 Tryz.infoBind rfl (by decide) (.slice Ab b.length cb) _ (Cg b bevs) (wr.heap.size + 1) rfl rfl (Hbi.out.row.same (((((Ad.refl [] wr).alloc' _).drewN' _).alloc' _)) (by simp)) _ (by rw [AZ, if_pos (by simp)]) rfl (by simp [Value.oneCell']) (by omega) (by decide) ?_; intro v6 W6 hr6 hs6 ho6; obtain ⟨A6, c6, rfl⟩ := hr6.shape; have Hr6 := Kd hr6; have Hs6 := Kd hs6; have Ho6 := Kd ho6; clear hr6 hs6 ho6))
 refine EQ.A ?_
 refine Ak rfl ?_
 go_wp2
 refine EQ.A ?_
 refine AB ?_
 go_wp2
 go_roundw
 case rel =>
  refine ⟨k + 1, b ++ [(H[k].var, r)], hlt, by go_num, Hs1.out, Hat.out.push Hbi.out Hbo.out ((((Ad.refl [] wr).alloc' _).drewN' _).alloc' _) H[k].var r Hr6.out Hs6.out Ho6.out Hs7.out (fun c hc => Hso.out c (by cases hc; rfl)), by rw [List.length_append, List.length_singleton]; omega, fun y hy => ?_⟩
  rcases List.mem_append.1 hy with hy | hy
  ·exact Hbx.out y hy
  ·rw [List.mem_singleton] at hy; subst hy; show r.length ≤ 1000000; omega
 case measure => simp [intOf]; omega) : P := h
theorem zq45 {P : Prop} (h : P := by
 go_wp2
 go_quiet (fail)
 go_wp2
 have y0 := fun (W : World) (hs : Ad [] wr W) => Ai (i := 0) (v := .slice none 0 0) (AI (hs.get Hat.out.res (by simp)) 0 (.slice none 0 0))
 refine bodyPost_ret_by (v := .tuple #[.agg #[.slice none 0 0], .int .i64 114]) (by simp [results, Tryz.f143, go_sem, y0 _ (((Ad.refl [] wr).alloc' _).drewN' _)]) rfl ?_
 refine ⟨(Hat.out.base.trans (((Ad.refl [] wr).alloc' _).drewN' _)).setNew _ _ (by simp), ?_⟩
 rw [Hno.out]) : P := h
theorem Nh (w : World) (hv pv gv vl : Value) (H : List Hy) (ps : List Pr) (goal : List Int) (L : List (List Int)) (levs : List Value) (hf : Kj w hv pv gv H ps goal) (hE : JH w vl levs L) (hl : H.length = L.length) (hn : L.length ≤ 100000) (hlen : ∀ e ∈ L, e.length ≤ 1000000) :
  Calls Tryz.prog 143 #[.agg #[hv, pv, gv], vl] w (Oz (Bp H L) w) := by
 obtain ⟨evs, hh⟩ := hf.hyps
 obtain ⟨Ah, ch, rfl⟩ := hh.row.shape
 obtain ⟨Al, cl, rfl⟩ := hE.shape
 have Hh := Kd hh
 have HE := Kd hE
 have Hlen := Kd hlen
 have Hl := Kd hl
 have h0 : Ng w (.slice Ah H.length ch) pv gv [] (.slice none 0 0) ((w.alloc (.cells #[.slice Ah H.length ch, pv, gv] 67)).alloc (.cells #[.slice none 0 0] 262)) :=
  ⟨AR (Aj _ _) _, by rw [← AA w (.cells #[.slice Ah H.length ch, pv, gv] 67)]; exact Aj _ _, ⟨[], ⟨World.ownsRow_nil _ _ _ _, trivial⟩, by simp⟩, by simp [Value.ownBlock], (Ad.alloc [] _ _).trans (Ad.alloc [] _ _)⟩
 have H0 := Kd h0
 have hl1 : H.length ≤ L.length := by omega
 have hl2 : L.length ≤ H.length := by omega
 clear hf hh hE hlen h0 hl
 go_enter Tryz.func143, Tryz.ntmps143
 go_wp2
 go_loopw [6, 14] (fun o u wr => ∃ (k : Nat) (b : Bx), k ≤ H.length ∧ u = .int .i64 k ∧ Bp (H.take k) (L.take k) = some b ∧ Ng w (.slice Ah H.length ch) pv gv b o wr ∧ b.length ≤ k ∧ ∀ x ∈ b, x.2.length ≤ 1000000) (fun _ u _ => H.length - (intOf u).toNat)
 case atStart => exact ⟨0, [], Nat.zero_le _, rfl, by simp [Bp], H0.out, Nat.le_refl _, by simp⟩
 case round =>
  obtain ⟨k, b, hk, rfl, hb, hat, hbl, hbx⟩ := hrel
  obtain ⟨bevs, hbi, hbo⟩ := hat.ex
  obtain ⟨Ab, cb, rfl⟩ := hbi.row.shape
  by_cases hlt : k < H.length
  ·have hltL : k < L.length := by omega
   obtain ⟨g, c, ev, hv1, hev, hin, t0, t1, t2, t3, hgl⟩ := (Hh.out.same hat.base).at hlt
   cases hv1
   obtain ⟨g2, off2, ev2, rfl, u0, hse, hgl2, -, hlv⟩ := (HE.out.same hat.base).at hltL
   have hso : ∀ c, ev2.ownBlock = some c → c < w.heap.size := fun c hc => by
    obtain ⟨ev3, h3, h4⟩ := HE.out.exprs.get (List.getElem?_eq_getElem hltL)
    rw [hlv] at h3
    cases h3
    exact h4.lt hc
   obtain ⟨Ae, ce, rfl⟩ := hin.row.shape
   have hstep := MW Hl.out hlt hb
   have hfail := fun h => Mi Hl.out (k := k) h
   have hfne := Hh.out.flo H[k] (List.getElem_mem hlt)
   have hel := Hlen.out L[k] (List.getElem_mem hltL)
   have Hat := Kd hat
   have Hb := Kd hb
   have Hin := Kd hin
   have Hse := Kd hse
   have Hbi := Kd hbi
   have Hbo := Kd hbo
   have Hso := Kd hso
   have Hbx := Kd hbx
   have Hfail := Kd hfail
   have Hstep := Kd hstep
   cases hfl : H[k].floating with
   | false =>
    have hs1 : Bp (H.take (k + 1)) (L.take (k + 1)) = some b := by rw [hstep]; simp [Bp, hfl]
    have Hs1 := Kd hs1
    rw [hfl] at t1
    clear hat hb hin hse hlv hso hbo hbi hbx hfail hstep hs1 hfne hev H0 hfl
    go_wp2
    go_roundw
    case rel => exact ⟨k + 1, b, hlt, by go_num, Hs1.out, Hat.out.same (Ad.alloc [] _ _), by omega, Hbx.out⟩
    case measure => simp [intOf]; omega
   | true =>
    have hx0 : 0 < H[k].expr.length := List.length_pos_iff.2 (hfne hfl)
    obtain ⟨gx, ox, rfl, x0, hgx⟩ := (Seg.of_row hin.row).cell hx0
    have hhd := MQ H[k].expr hx0
    have hb3 := Af hat.res
    have r0 := Ai (i := 0) (v := .slice none 0 0) hat.res
    have rf := AE hat.res
    rw [hfl] at t1
    cases hek : L[k] with
    | nil =>
     have hno : Bp H L = none := hfail (by rw [hstep]; simp [Bp, hfl, hek])
     have Hno := Kd hno
     rw [hek] at hse
     obtain ⟨A2, c2, rfl⟩ := hse.shape
     rw [List.length_nil] at u0
     clear hat hb hin hse hlv hso hbo hbi hbx hfail hstep hno hfne hev H0 hfl hel Hse hek
     exact zq45
    | cons x r =>
     rw [hek] at hse hel
     obtain ⟨A2, c2, rfl⟩ := hse.shape
     obtain ⟨gs, os, rfl, y0, hgs⟩ := hse.cell (k := 0) (by simp)
     rw [List.getElem_cons_zero] at y0
     have Hse2 := Kd hse
     rw [List.length_cons] at u0 hel
     have k0 : ((r.length : Int) + 1 == 0) = false := by rw [beq_eq_false_iff_ne]; omega
     obtain ⟨hd, hhd2⟩ : ∃ hd, H[k].expr[0] = hd := ⟨_, rfl⟩
     rw [hhd2] at x0 hhd
     have Hhd := Kd hhd
     have Hek := Kd hek
     have Hfl := Kd hfl
     rw [Nat.add_zero] at x0 y0
     have hbs : Bp [H[k]] [x :: r] = if x = hd then some [(H[k].var, r)] else none := by
      unfold Bp
      rw [if_neg (by rw [Hfl.out]; decide)]
      dsimp only
      rw [Hhd.out]
      split <;> simp [Bp]
     have Hbs := Kd hbs
     clear hat hb hin hse hlv hso hbo hbi hbx hfail hstep hfne hev H0 hfl Hse hek hhd hhd2 hbs
     by_cases hx : x = hd
     ·have hne : (x != hd) = false := by simp [hx]
      have hs1 : Bp (H.take (k + 1)) (L.take (k + 1)) = some (b ++ [(H[k].var, r)]) := by rw [Hstep.out, Hek.out, Hbs.out, if_pos hx]; rfl
      have Hs1 := Kd hs1
      have hcut := Hse2.out.cut (lo := 1) (hi := r.length + 1) (by omega) (Nat.le_refl _)
      have hcp := Hse2.out.cap.2
      rw [List.length_cons] at hcp
      have hdt : ((x :: r).take (r.length + 1)).drop 1 = r := by simp
      rw [hdt] at hcut
      clear hs1 hx hdt
      by_cases hc2 : c2 = 1
      ·have hs7 : Seg wr (.slice (some ⟨gs, os, none⟩) r.length 0) r := by simpa [sliced, hc2] using hcut
       exact zq25
      ·have hs7 : Seg wr (.slice (some ⟨gs, os + 1, none⟩) r.length (c2 - 1)) r := by simpa [sliced, hc2, Addr.add] using hcut
       exact zq25
     ·have hne : (x != hd) = true := by simp [hx]
      have hno : Bp H L = none := Hfail.out (by rw [Hstep.out, Hek.out, Hbs.out, if_neg hx]; rfl)
      have Hno := Kd hno
      clear hno hx
      exact zq45
  ·have hkk : k = H.length := by omega
   subst hkk
   rw [List.take_length, Hl.out, List.take_length] at hb
   have hen := hbx
   have hnw := fun (W : World) (hW : Ad [] wr W) => N4 W _ bevs b (hbi.same hW) (by omega) hen
   unfold Q7 at hnw
   have hb3 := Af hat.res
   have r0 := Ai (i := 0) (v := .slice none 0 0) hat.res
   have rf := AE hat.res
   have Hat := Kd hat
   have Hb := Kd hb
   by_cases hnd : (b.map (·.1)).Nodup
   ·simp only [if_pos hnd] at hnw
    have Hnd := Kd hnd
    clear hat hb hbi hbo hbx hen hnd H0
    go_wp2_with (go_at_call 165; go_must (refine (hnw _ (Ad.refl _ _)).mono ?_; rintro e1 W1 ⟨hs1, v1, s1, rfl, hsb, hpm⟩; have r01 := hs1.cell r0 (by simp); have rf1 := AE (hs1.get Hat.out.res (by simp)); have rl1 := Af (hs1.get Hat.out.res (by simp)); have Hs1 := Kd hs1; have Hsb := Kd hsb; have Hpm := Kd hpm; obtain ⟨evs1, hbi1⟩ := hsb.ex; obtain ⟨A1, c1, rfl⟩ := hbi1.row.shape; clear hs1 hsb hpm hbi1))
    have y0 := fun (o : Obj) => Ai (i := 0) (v := .slice A1 s1.length c1) (AR (AI (Hs1.out.get Hat.out.res (by simp)) 0 (.slice A1 s1.length c1)) o)
    refine bodyPost_ret_by (v := .tuple #[.agg #[.slice A1 s1.length c1], .int .i64 0]) (by simp [results, Tryz.f143, go_sem, y0 _]) rfl ?_
    refine ⟨((Hat.out.base.trans Hs1.out).setNew _ _ (by simp)).alloc' _, ?_⟩
    rw [Hb.out]
    dsimp only
    rw [if_pos Hnd.out]
    exact ⟨_, s1, rfl, (Hsb.out.other (Hs1.out.get Hat.out.res (by simp)) (by decide) (by decide) (Ad.setCell _ _ _ (by simp))).same (Ad.alloc [] _ _), Hpm.out⟩
   ·simp only [if_neg hnd] at hnw
    have Hnd := Kd hnd
    clear hat hb hbi hbo hbx hen hnd H0
    go_wp2_with (go_at_call 165; go_must (refine (hnw _ (Ad.refl _ _)).mono ?_; rintro e1 W1 ⟨hs1, rfl⟩; have r01 := hs1.cell r0 (by simp); have rf1 := AE (hs1.get Hat.out.res (by simp)); have rl1 := Af (hs1.get Hat.out.res (by simp)); have Hs1 := Kd hs1; clear hs1))
    have y0 := fun (o : Obj) => Ai (i := 0) (v := .slice none 0 0) (AR (AI (Hs1.out.get Hat.out.res (by simp)) 0 (.slice none 0 0)) o)
    refine bodyPost_ret_by (v := .tuple #[.agg #[.slice none 0 0], .int .i64 114]) (by simp [results, Tryz.f143, go_sem, y0 _]) rfl ?_
    refine ⟨((Hat.out.base.trans Hs1.out).setNew _ _ (by simp)).alloc' _, ?_⟩
    rw [Hb.out]
    dsimp only
    rw [if_neg Hnd.out]
def C5 (w : World) (e : TypeId) (v : Value) (n : Nat) (xs : List Value) : Prop := xs.length = n ∧
 ((v = .slice none 0 0 ∧ n = 0) ∨ ∃ g cap cur, v = .slice (some ⟨g, 0, none⟩) n cap ∧ w.heap[g]? = some (.cells cur e (0, 0)) ∧ n ≤ cap ∧ cap ≤ maxLen ∧ cap ≤ cur.size ∧ cur.toList.take n = xs)
theorem C5.of_row {w : World} {e n : Nat} {v : Value} {xs : List Value} (h : Row w e 1 v n xs) : C5 w e v n xs := by
 refine ⟨by have := h.1; omega, ?_⟩
 rcases h.2 with h1 | ⟨g, cap, cur, h1, h2, h3, h4, h5, h6, h7⟩
 ·exact .inl h1
 ·exact .inr ⟨g, cap, cur, h1, h3, h4, h5, by omega, by rw [Nat.mul_one] at h7; exact h7⟩
theorem C5.nil (w : World) (e : TypeId) : C5 w e (.slice none 0 0) 0 [] := ⟨rfl, .inl ⟨rfl, rfl⟩⟩
theorem C5.same {S : List Nat} {w w' : World} {e n : Nat} {v : Value} {xs : List Value} (h : C5 w e v n xs) (hs : Ad S w w') (hn : ∀ b, v.ownBlock = some b → b ∉ S) : C5 w' e v n xs := by
 refine ⟨h.1, ?_⟩
 rcases h.2 with h2 | ⟨g, cap, cur, rfl, h1, h3⟩
 ·exact .inl h2
 ·exact .inr ⟨g, cap, cur, rfl, hs.get h1 (hn g rfl), h3⟩
theorem C5.shape {w : World} {e n : Nat} {v : Value} {xs : List Value} (h : C5 w e v n xs) : ∃ A c, v = .slice A n c := by
 exact zq106
theorem C5.ne {w : World} {e n : Nat} {v : Value} {xs : List Value} (h : C5 w e v n xs) {b : Nat} {cs : Array Value} {t : TypeId} {fr : Nat × Nat} (hb : w.heap[b]? = some (.cells cs t fr)) (ht : e ≠ t) : v.ownBlock ≠ some b := by
 rcases h.2 with ⟨rfl, _⟩ | ⟨g, cap, cur, rfl, h1, h3⟩
 ·simp [Value.ownBlock]
 ·exact zq130
theorem C5.ne_row {w : World} {e n e' k' n' : Nat} {v v' : Value} {xs xs' : List Value} (h : C5 w e v n xs) (h' : Row w e' k' v' n' xs') (ht : e ≠ e') {b : Nat} (hb : v'.ownBlock = some b) : v.ownBlock ≠ some b := by
 rcases h'.2 with ⟨rfl, rfl⟩ | ⟨g, cap, cur, rfl, h0, h1, h3⟩
 ·cases hb
 ·cases hb; exact h.ne h1 ht
theorem C5.lt {w : World} {e n : Nat} {v : Value} {xs : List Value} (h : C5 w e v n xs) {b : Nat} (hb : v.ownBlock = some b) : b < w.heap.size := by
 rcases h.2 with ⟨rfl, _⟩ | ⟨g, cap, cur, rfl, h1, h3⟩
 ·cases hb
 ·cases hb; exact Af h1
theorem zq133 {P : Prop} (h : P := by
 rw [← h6, List.getElem?_take] at hj
 split at hj
 ·simpa using hj
 ·cases hj) : P := h
theorem C5.sub {w : World} {e n : Nat} {v : Value} {xs : List Value} (h : C5 w e v n xs) : (v = .slice none 0 0 ∧ n = 0) ∨ Sub w 1 v n xs := by
 rcases h.2 with h2 | ⟨g, cap, cur, rfl, h1, h3, h4, h5, h6⟩
 ·exact .inl h2
 ·refine .inr ⟨by rw [h.1, Nat.mul_one], g, 0, cap, rfl, h3, Af h1, fun j u hj => ?_⟩
  rw [Nat.zero_add, Cc h1]
  exact zq133
theorem C5.cut {w : World} {e n c : Nat} {A : Option Addr} {xs : List Value} (h : C5 w e (.slice A n c) n xs) {r : Nat} (hr : r ≤ n) : C5 w e (.slice A r r) r (xs.take r) := by
 refine ⟨by rw [List.length_take, h.1]; omega, ?_⟩
 rcases h.2 with ⟨h1, h2⟩ | ⟨g, cap, cur, h1, h2, h3, h4, h5, h6⟩
 ·cases h1
  have : r = 0 := by omega
  subst this
  exact .inl ⟨rfl, rfl⟩
 ·cases h1
  exact .inr ⟨g, r, cur, rfl, h2, Nat.le_refl _, by omega, by omega, by rw [← h6, List.take_take]; congr 1; omega⟩
section
variable {P : Program} {ops : Array Oper} {rest : List Oper} {o : Oper} {a : Act} {Q : Exit → Act → World → Prop}
theorem PB {W : World} (hgd : o.guard = none) (s x : Operand) (t : TypeId) (ho : o.op = .call { callee := .builtin .append, args := #[s, x], argTypes := #[t, t] })
  (e bytes : Nat) (z : Value) (ht : P.underlying t = some (.slice e)) (hinfo : (P.info? e).map (fun i => (i.zero, i.size, i.bytes)) = some (some z, 1, bytes)) (hz : z.cells.size = 1)
  (v : Value) (n : Nat) (xs : List Value) (b : Nat) (hs : a.eval s = v) (hx : a.eval x = .slice (some ⟨b, 0, none⟩) 1 1) (hown : C5 W e v n xs) (y : Value) (hb0 : W.heap[b]? = some (.cells #[y] e)) (h1 : y.oneCell' = true)
  (hn : (n + 1) * bytes ≤ 140737488355328) (hb : 0 < bytes)
  (h : ∀ v' w', C5 w' e v' (n + 1) (xs ++ [y]) → Ad v.ownBlock.toList W w' → (v'.ownBlock = v.ownBlock ∨ ∃ b, v'.ownBlock = some b ∧ W.heap.size ≤ b) → wpList P ops Q rest (a.put o.dst v') w') :
  wpList P ops Q (o :: rest) a W := by
 obtain ⟨i, hi, hz0, hz1, hz2⟩ := Co hinfo
 have hlen : n + 1 ≤ 140737488355328 := Nat.le_trans (Nat.le_mul_of_pos_right _ hb) hn
 have hnews : ∀ j u, [y][j]? = some u → W.cell? ((⟨b, 0, none⟩ : Addr).add j) = some u := World.news_of_block (cs := [y].toArray) hb0
 have h1' : ∀ u ∈ [y], u.oneCell' = true := fun u hu => by rw [List.mem_singleton] at hu; rw [hu]; exact h1
 have hl : [y].length = 1 * i.size := by rw [hz1]; rfl
 have h63 : n + 1 ≤ maxLen := by simp only [maxLen]; omega
 have go : ∃ v' w', (Builtin.append_ #[t, t] o.type #[v, .slice (some ⟨b, 0, none⟩) 1 1]).run P W = .ok v' w' ∧ C5 w' e v' (n + 1) (xs ++ [y]) ∧ Ad v.ownBlock.toList W w' ∧ (v'.ownBlock = v.ownBlock ∨ ∃ b, v'.ownBlock = some b ∧ W.heap.size ≤ b) := by
  rcases hown.2 with ⟨rfl, rfl⟩ | ⟨g, cap, cur, rfl, h2, h3, h4, h5, h6⟩
  ·have hx0 : xs = [] := List.eq_nil_of_length_eq_zero hown.1
   subst hx0
   obtain ⟨v', w', hr, r2, r3, _, r5⟩ := run_append_own_at (P := P) W 0 t o.type e i z 1 bytes ht hi hz0 hz1 hz2 hz (by decide) _ 0 [] (World.ownsRow_nil _ _ _ _) ⟨b, 0, none⟩ 1 1 [y] rfl hnews h1' h63 hn (Nat.zero_le _)
   refine ⟨v', w', hr, C5.of_row r2, Ad.of_grown r3, ?_⟩
   rcases r5 with r5 | r5
   ·exact .inl r5
   ·exact .inr ⟨_, r5, Nat.le_refl _⟩
  ·by_cases hroom : n + 1 ≤ cap
   ·have hr := run_append_room (P := P) W t o.type e i ht hi g n cap cur h2 ⟨b, 0, none⟩ 1 1 [y] hl hnews h1' hroom (by rw [hz1]; simp; omega)
    refine ⟨_, _, hr, ⟨by simp [hown.1], .inr ⟨g, cap, _, rfl, setRow_heap W g cur _ e _ h2, hroom, h4, ?_, ?_⟩⟩, Ad.setRow _ _ _ (by simp [Value.ownBlock]), .inl rfl⟩
    ·rw [hz1]
     simp
     omega
    ·rw [hz1, Nat.mul_one, h6]
     have : (xs ++ [y]).length = n + 1 := by simp [hown.1]
     rw [← this]
     exact List.take_left
   ·have holds : ∀ j u, xs[j]? = some u → W.cell? ((⟨g, 0, none⟩ : Addr).add j) = some u := fun j u hj => by
     have e1 : (⟨g, 0, none⟩ : Addr).add j = ⟨g, j, none⟩ := by unfold Addr.add; split <;> simp_all
     rw [e1, Cc h2]
     exact zq133
    have hr := run_append_grow (P := P) W t o.type e i z ht hi hz0 ⟨g, 0, none⟩ n cap xs (by rw [hz1, Nat.mul_one, hown.1]) holds ⟨b, 0, none⟩ 1 1 [y] hl hnews (by omega) (by omega) (growslice_fits (by omega) (by rw [hz2]; exact hn))
    have hge := grownCap_ge W (n + 1) cap e
    refine ⟨_, _, hr, C5.of_row ⟨by simp [hown.1], .inr ⟨W.heap.size, _, _, rfl, Nat.zero_le _, heap_alloc_new W.drew _, hge, grownCap_le_maxLen W (n + 1) cap e h63, ?_, ?_⟩⟩, (Ad.drew _ _).trans (Ad.alloc _ _ _), .inr ⟨_, rfl, Nat.le_refl _⟩⟩
    ·simp only [Array.size_append, List.size_toArray, size_zeroCells, hz, hown.1, List.length_singleton]
     omega
    ·simp only [Array.toList_append]
     have : (xs ++ [y]).length = (n + 1) * 1 := by simp [hown.1]
     rw [← this]
     exact List.take_left
 obtain ⟨v', w', hr, r2, r3, r4⟩ := go
 refine wpList_plain hgd fun K hK => ?_
 unfold Oper.wp execOp
 simp only [ho, resolve, invoke, builtin, Sem.run_bind, Sem.run_pure, Result.andThen_ok, List.map_toArray, List.map_cons, List.map_nil, hs, hx, hr]
 exact hK _ _ (h v' w' r2 r3 r4)
end
theorem Mb (l : List Hy) : ∀ (m : List Value) (k : Nat) (v : Value), k < l.length → m.length = l.length → (BE l m).set (k * 4 + 3) v = BE l (m.set k v) := by
 induction l with
 | nil => intro m k v hk; simp at hk
 | cons x l ih =>
  intro m k v hk hm
  match m, hm with
  | y :: m, hm =>
   cases k with
   | zero => simp [BE]
   | succ k =>
    have := ih m k v (by simpa using hk) (by simpa using hm)
    rw [show (k + 1) * 4 + 3 = (k * 4 + 3) + 4 by omega]
    simp only [BE, List.set_cons_succ, List.cons_append, List.nil_append]
    rw [this]
theorem Bm.setR {α β : Type} {P : α → β → Prop} : ∀ {l : List α} {m : List β} {k : Nat} {a : α} {b : β}, Bm P l m → l[k]? = some a → P a b → Bm P l (m.set k b)
 | [], [], _, _, _, _, h, _ => by simp at h
 | x :: l, y :: m, 0, a, b, hp, h, hb => by simp at h; subst h; exact ⟨hb, hp.2⟩
 | x :: l, y :: m, k + 1, a, b, hp, h, hb => ⟨hp.1, Bm.setR (k := k) hp.2 (by simpa using h) hb⟩
 | [], _ :: _, _, _, _, hp, _, _ => hp.elim
 | _ :: _, [], _, _, _, hp, _, _ => hp.elim
theorem PN {P : Hy → Value → Prop} (hP : ∀ h v, P h v → v.oneCell' = true) : ∀ {l : List Hy} {m : List Value}, Bm P l m → ∀ u ∈ BE l m, u.oneCell' = true
 | [], [], _, u, hu => by simp [BE] at hu
 | x :: l, y :: m, h, u, hu => by
  simp only [BE, List.cons_append, List.nil_append, List.mem_cons] at hu
  rcases hu with rfl | rfl | rfl | rfl | hu
  ·rfl
  ·rfl
  ·rfl
  ·exact hP _ _ h.1
  ·exact PN hP h.2 u hu
 | [], _ :: _, h, _, _ => h.elim
 | _ :: _, [], h, _, _ => h.elim
theorem Ls {w : World} {M : List Nat} {v : Value} {l : List Int} (h : Ds w M v l) : v.oneCell' = true := by obtain ⟨A, c, rfl⟩ := h.row.shape; rfl
def RI (l : List Hy) (w : World) (e : Ending) (w' : World) : Prop := ∃ v evs, e = .returned v ∧ Bi w' [] v evs l ∧ AH w v ∧ (∀ ev ∈ evs, AH w ev) ∧ Ad [] w w'
def Rk (w : World) (l : List Hy) (v' : Value) (u : Value) (W : World) : Prop :=
 ∃ (k : Nat) (evs : List Value), k ≤ l.length ∧ u = .int .i64 k ∧ Row W 49 4 v' l.length (BE l evs) ∧ Bm (fun h ev => Ds W [] ev h.expr) l evs ∧ (∀ i v, i < k → evs[i]? = some v → AH w v) ∧ Ad [] w W
theorem Js (w : World) (M : List Nat) (v : Value) (evs : List Value) (l : List Hy) (h : Bi w M v evs l) (hn : l.length ≤ 1000000) (he : ∀ x ∈ l, x.expr.length ≤ 1000000) :
  Calls Tryz.prog 49 #[v] w (RI l w) := by
 have hcl := Jf v l.length (BE l evs) w h.row (PN (fun _ _ hi => Ls hi) h.exprs) hn
 have H := Kd h
 have He := Kd he
 obtain ⟨Av, cv, rfl⟩ := h.row.shape
 clear h he
 go_enter Tryz.func49, Tryz.ntmps49
 go_wp2_with (go_at_call 100; go_must (refine hcl.mono ?_; rintro e1 W1 ⟨v1, rfl, hr1, hs1, hf1⟩; obtain ⟨A1, c1, rfl⟩ := hr1.shape; have Hr1 := Kd hr1; have Hs1 := Kd hs1; have Hf1 : Hid (AH w (.slice A1 l.length c1)) := Kd hf1; clear hr1 hs1 hf1))
 have h0 : Rk w l (.slice A1 l.length c1) (.int .i64 0) W1 := ⟨0, evs, Nat.zero_le _, rfl, Hr1.out, H.out.exprs.imp fun x ev hi => ⟨hi.row.same Hs1.out (by simp), by simp⟩, fun i v hi => absurd hi (by omega), Hs1.out⟩
 have H0 := Kd h0
 clear h0
 go_loopw [9] (fun u wr => Rk w l (.slice A1 l.length c1) u wr) (fun u _ => l.length - (intOf u).toNat)
 case atStart => exact H0.out
 case round =>
  obtain ⟨k, evs', hk, rfl, hrow, hex, hfr, hsm⟩ := hrel
  by_cases hlt : k < l.length
  ·have hel : k < evs'.length := by rw [hex.len]; exact hlt
   obtain ⟨ev, hev, hints⟩ := hex.get (List.getElem?_eq_getElem hlt)
   have hee : evs'[k] = ev := by rw [List.getElem?_eq_getElem hel] at hev; exact Option.some.inj hev
   have h4 := GD l evs' k hlt hel
   obtain ⟨g, c, hv, hcell⟩ := hrow.elem hlt (ys := [.string l[k].label, .bool l[k].floating, .int .i64 l[k].var, evs'[k]]) rfl h4 (by decide)
   have t3 : wr.cell? ⟨g, k * 4 + 3, none⟩ = some ev := by rw [← hee]; exact (hcell 3 (by decide)).1
   cases hv
   obtain ⟨cur, hg⟩ := hrow.blk
   have hgf := AE hg
   have hgl := Af hg
   have hcl := CP ev _ _ wr hints.row (En _) (He.out l[k] (List.getElem_mem hlt))
   obtain ⟨Ae, ce, rfl⟩ := hints.row.shape
   have Hg := Kd hg
   have Hrow := Kd hrow
   have Hex := Kd hex
   have Hfr := Kd hfr
   have Hsm := Kd hsm
   clear hcell hrow hex hfr hsm hints hev hee h4 H0 hg
   go_wp2_with (go_at_call 51; go_must (refine hcl.mono ?_; rintro e2 W2 ⟨v2, rfl, hr2, hs2, hf2⟩; obtain ⟨A2, c2, rfl⟩ := hr2.shape; have hg2 := hs2.get Hg.out (by simp); have g2f := AE hg2; have g2l := Af hg2; have t32 := hs2.cell t3 (by simp); have Hr2 := Kd hr2; have Hs2 := Kd hs2; have Hf2 := Kd hf2; have Hg2 := Kd hg2; clear hr2 hs2 hf2 hg2))
   go_roundw
   case rel =>
    have hgw : w.heap.size ≤ g := Hf1.out g rfl
    have hrow2 := (Hrow.out.same Hs2.out (by simp)).set1 (j := k * 4 + 3) (by omega) (.slice A2 l[k].expr.length c2)
    rw [Mb l evs' k _ hlt (Hex.out.len)] at hrow2
    have hset : Ad [g] W2 (W2.setCell ⟨g, k * 4 + 3, none⟩ (.slice A2 l[k].expr.length c2)) := Ad.setCell _ _ _ (by simp)
    have hne : ∀ {e : List Int} {u : Value}, Row W2 3 1 u e.length (Ay e) → ∀ b, u.ownBlock = some b → b ∉ [g] := fun hu b hb hm => by
     have := List.mem_singleton.1 hm
     subst this
     exact hu.ne Hg2.out (by decide) hb
    refine ⟨k + 1, evs'.set k (.slice A2 l[k].expr.length c2), hlt, by go_num, hrow2, Bm.setR (Hex.out.imp fun x ev hi => ⟨(hi.row.same Hs2.out (by simp)).same hset (hne (hi.row.same Hs2.out (by simp))), by simp⟩) (List.getElem?_eq_getElem hlt) ⟨Hr2.out.same hset (hne Hr2.out), by simp⟩, ?_, (Hsm.out.trans Hs2.out).setNew _ _ hgw⟩
    intro i u hi hu
    by_cases hik : i = k
    ·subst hik
     have hel' : i < evs'.length := hel
     rw [List.getElem?_set_self hel'] at hu
     cases hu
     exact AH.mono Hf2.out Hsm.out.size
    ·rw [List.getElem?_set_ne (Ne.symm hik)] at hu
     exact Hfr.out i u (by omega) hu
   case measure => simp [intOf]; omega
  ·have hkk : k = l.length := by omega
   subst hkk
   have Hrow := Kd hrow
   have Hex := Kd hex
   have Hfr := Kd hfr
   have Hsm := Kd hsm
   clear hrow hex hfr hsm H0
   go_wp2
   go_ret
   refine ⟨.slice A1 l.length c1, evs', rfl, ⟨Hrow.out, Hex.out, H.out.flo⟩, Hf1.out, fun ev hev => ?_, Hsm.out⟩
   obtain ⟨i, hi⟩ := List.getElem?_of_mem hev
   have : i < evs'.length := (List.getElem?_eq_some_iff.1 hi).1
   exact Hfr.out i ev (by rw [← Hex.out.len]; exact this) hi
end Go.Proofs.YtbfbgfpghkijdaaGreatDoor
