/- lemmalaw texts, part 15. -/
import Derived.Test.YtbfbgfpghkijdaaGreatDoorYan
set_option maxRecDepth 100000
set_option linter.unusedVariables false
set_option linter.unusedSimpArgs false
set_option maxHeartbeats 32000000
namespace Go.Proofs.YtbfbgfpghkijdaaGreatDoor
open Go.RowKit
structure Cnt (W : World) (b : Nat) (l : List Int) (m : List (Int × Value)) : Prop where
 map : Cn EN W b m
 mem : ∀ x, x ∈ m.map (·.1) ↔ x ∈ l
 num : ∀ x v, AJ x m = some v → ∃ c : Nat, v = .int .i64 c ∧ 1 ≤ c ∧ c ≤ l.length
 nod : m.length = l.length ↔ l.Nodup
 le : m.length ≤ l.length
theorem Cnt.step {W W' : World} {b : Nat} {l : List Int} {m : List (Int × Value)} (h : Cnt W b l m) (x : Int) (c : Nat) (hc : (AJ x m).getD (.int .i64 0) = .int .i64 c) (hm : Cn EN W' b (Bd x (.int .i64 ((c : Int) + 1)) m)) : Cnt W' b (l ++ [x]) (Bd x (.int .i64 ((c : Int) + 1)) m) := by
 have hk := Gh x (Value.int .i64 ((c : Int) + 1)) m
 have hlen : (Bd x (Value.int .i64 ((c : Int) + 1)) m).length = ((Bd x (Value.int .i64 ((c : Int) + 1)) m).map (·.1)).length := by simp
 have hle := h.le
 have hcl : c ≤ l.length := by
  cases hg : AJ x m with
  | none => rw [hg] at hc; simp at hc; omega
  | some v =>
   obtain ⟨d, rfl, _, h2⟩ := h.num x v hg
   rw [hg] at hc; simp at hc; omega
 refine ⟨hm, fun y => ?_, fun y v hy => ?_, ?_, ?_⟩
 ·rw [hk]
  split
  ·rename_i hx
   rw [h.mem, List.mem_append, List.mem_singleton]
   exact ⟨.inl, fun hh => hh.elim id fun e => e ▸ (h.mem x).1 hx⟩
  ·simp [h.mem y]
 ·rw [Cp] at hy
  split at hy
  ·cases hy
   exact ⟨c + 1, by simp, by omega, by simp; omega⟩
  ·obtain ⟨d, rfl, h1, h2⟩ := h.num y v hy
   exact ⟨d, rfl, h1, by simp; omega⟩
 ·rw [hlen, hk]
  split
  ·rename_i hx
   have := (h.mem x).1 hx
   simp only [List.length_map, List.length_append, List.length_cons, List.length_nil]
   refine ⟨fun e => by omega, fun e => ?_⟩
   rw [List.nodup_append] at e
   exact absurd rfl (e.2.2 x this x (by simp))
  ·rename_i hx
   have hx' : x ∉ l := fun e => hx ((h.mem x).2 e)
   simp only [List.length_append, List.length_map, List.length_cons, List.length_nil]
   rw [List.nodup_append]
   refine ⟨fun e => ⟨h.nod.1 (by omega), by simp, fun a ha b hb => ?_⟩, fun e => ?_⟩
   ·simp at hb; subst hb; exact fun e => hx' (e ▸ ha)
   ·have := h.nod.2 e.1; omega
 ·rw [hlen, hk]
  split <;> simp <;> omega
theorem Cnt.get {W : World} {b : Nat} {l : List Int} {m : List (Int × Value)} (h : Cnt W b l m) (x : Int) : ∃ c : Nat, (AJ x m).getD (.int .i64 0) = .int .i64 c ∧ c ≤ l.length ∧ (c = 0 ↔ x ∉ l) := by
 cases hg : AJ x m with
 | none => exact ⟨0, rfl, Nat.zero_le _, fun _ hx => by rw [DB] at hg; exact hg ((h.mem x).2 hx), fun _ => rfl⟩
 | some v =>
  obtain ⟨c, rfl, h1, h2⟩ := h.num x v hg
  refine ⟨c, rfl, h2, fun e => by omega, fun e => ?_⟩
  have : AJ x m = none := (DB x m).2 fun hh => e ((h.mem x).1 hh)
  rw [hg] at this; cases this
theorem Cnt.nil {W : World} {b : Nat} (h : Cn EN W b []) : Cnt W b [] [] := ⟨h, by simp, by simp [AJ], by simp, by simp⟩
theorem Cnt.same {W W' : World} {b : Nat} {l : List Int} {m : List (Int × Value)} {S : List Nat} (h : Cnt W b l m) (hs : Ad S W W') (hb : b ∉ S) : Cnt W' b l m := ⟨h.map.same hs hb, h.mem, h.num, h.nod, h.le⟩
theorem Ic {P : Program} {t k e ty : TypeId} (ht : P.underlying t = some (.map k e)) {b : Nat} {es : Array MapEntry} {clock : Nat} {w : World} (hb : w.heap[b]? = some (.map es clock)) :
  (Builtin.len_ #[t] ty #[.map (some b)]).run P w = .ok (.int .i64 es.size) w := by
 simp [Builtin.len_, run_underlying ht, MapKept.run_getObj_map hb, goInt]
theorem Qs (l : List Int) (h : l.length ≤ 256) : (FM l).length ≤ 65536 := by
 have h1 := Ed (Ce [] l) []
 have h2 := Gc l []
 simp only [List.length_nil, Nat.zero_add] at h1 h2
 have h3 : l.length * l.length ≤ 256 * 256 := Nat.mul_le_mul h h
 unfold FM
 omega
theorem GN {scs : List Sc} (h : DO scs) (h17 : scs.length ≤ 17) : (AL scs).length ≤ 17000 := by
 have := F9 scs h scs.length (Nat.le_refl _)
 rw [List.take_length] at this
 omega
def Rl (w : World) (b : Nat) (vars : Int → Bool) (l : List Int) (u : Value) (W : World) : Prop :=
 ∃ (k : Nat) (m : List (Int × Value)), k ≤ l.length ∧ u = .int .i64 k ∧ Cnt W b (l.take k) m ∧ Ad [] w W ∧ (l.take k).all vars = true
theorem PY {w : World} {s t g c : Nat} {A : SA} {M : List Nat} {init : List Sc} {sc : Sc} {P : List ScP} {p : ScP} (h : Bq w s t A M (init ++ [sc])) (k : Ej w s t g c A M init sc P p) (hMlt : ∀ b ∈ M, b < w.heap.size) (W : World) (hW : Ad [] w W)
  (qv : Value) (m : List Pr) (hq : Row W 47 2 qv m.length (AT m)) (hn : sc.pairs.length + m.length ≤ 1000000) :
  Calls Tryz.prog 121 #[.pointer (some ⟨g, init.length * 2 + 1, none⟩), qv] W fun e w' => e = .returned (.tuple #[]) ∧ Gp s t A M (init ++ [⟨sc.hyps, Bw sc.pairs m⟩]) w w' := by
 have hk := k.same hW
 refine (M3 W g (init.length * 2 + 1) p.pv sc.pairs hk.inn.pairs.row hk.c1 hk.fr qv m hq hn).mono ?_
 rintro e w' ⟨rfl, v1, w1, hr, hs, ho, rfl⟩
 exact ⟨rfl, (hk.apart (h.same hW) (fun b hb => Nat.lt_of_lt_of_le (hMlt b hb) hW.size) _ hr hs ho).after hW⟩
theorem zq73 {P : Prop} (h : P := by
 clear hcnt hsm hall hds H0 hnd hes hesz
 go_wp2
 go_ret
 rw [JK, Hds.out]
 exact ⟨rfl, H.out.keep Hs.out⟩) : P := h
theorem JX (w : World) (s t : Nat) (A : SA) (M : List Nat) (scs : List Sc) (h : Bq w s t A M scs) (hsm : DO scs) (hMlt : ∀ b ∈ M, b < w.heap.size) (TA : TA) (T : Tbl) (hT : AW w t TA T) (va : Value) (l : List Int) (he : Row w 3 1 va l.length (Ay l)) (hn : l.length ≤ 1000000) :
  Calls Tryz.prog 69 #[.pointer (some ⟨s, 0, none⟩), va] w (JK (Cj T.isVar scs l).1 s t A M (Cj T.isVar scs l).2 w) := by
 have hmm := @run_makeMap Tryz.prog
 obtain ⟨As, cs, hv, c0, c1, cf, hl⟩ := h.facts
 unfold fnV at c0
 obtain ⟨Ae, ce, rfl⟩ := he.shape
 have hiv := fun (W : World) (hW : Ad [] w W) (x : Int) => E1 hT W hW x
 have H := Kd h
 have Hsm := Kd hsm
 have HM := Kd hMlt
 have He := Kd he
 clear h hsm hMlt hT he hv
 go_enter Tryz.func69, Tryz.ntmps69
 go_wp2
 have h0 : Rl w w.heap.size T.isVar l (.int .i64 0) (w.alloc (.map #[] 0)) := ⟨0, [], Nat.zero_le _, rfl, Cnt.nil (Cn.new _ _ _), Ad.alloc _ _ _, rfl⟩
 have H0 := Kd h0
 clear h0
 go_loopw [14] (fun u wr => Rl w w.heap.size T.isVar l u wr) (fun u _ => l.length - (intOf u).toNat)
 case atStart => exact H0.out
 case round =>
  obtain ⟨k, m, hk, rfl, hcnt, hsm, hall⟩ := hrel
  by_cases hlt : k < l.length
  ·obtain ⟨ge, c, hve, t0, hgl⟩ := BS (He.out.same hsm (by simp)) hlt
   cases hve
   have d0 := hsm.cell c0 (by simp)
   have hivk := hiv _ hsm l[k]
   cases hx : T.isVar l[k] with
   | false =>
    rw [hx] at hivk
    have hfl := GY (f := T.isVar) hlt hx
    have hds : Cj T.isVar scs l = (71, scs) := by simp only [Cj, hfl, if_true]
    have Hds := Kd hds
    have Hs := Kd hsm
    clear hcnt hsm hall hx hfl hds H0
    go_wp2_with (go_at_call 30; go_must (refine hivk.mono ?_; rintro e' W2 ⟨rfl, hw2⟩; obtain rfl := hw2.symm))
    go_ret
    rw [JK, Hds.out]
    exact ⟨rfl, H.out.keep Hs.out⟩
   | true =>
    rw [hx] at hivk
    have hall' := Gv hlt hall hx
    obtain ⟨cn, hcn, hcl, _⟩ := hcnt.get l[k]
    have hcl' : cn ≤ 1000000 := by simp at hcl; omega
    have hlk := hcnt.map.run_lookup (P := Tryz.prog) CX Tryz.underlying163 (Dp _) l[k] false
    rw [if_neg (by decide), hcn] at hlk
    unfold EN at hlk
    have Hcn := Kd hcn
    have Hcnt := Kd hcnt
    have Hs := Kd hsm
    have Hall := Kd hall'
    clear hcnt hsm hall hall' hx H0 hcn hcl
    go_wp2_with (first
     | (go_at_call 30; go_must (refine hivk.mono ?_; rintro e' W2 ⟨rfl, hw2⟩; obtain rfl := hw2.symm))
     | (at_mapUpdate; go_must (refine C7 CX Hcnt.out.map Tryz.underlying163 rfl _ _ _ rfl l[k] (.int .i64 ((cn : Int) + 1)) rfl rfl rfl ?_; intro W3 hset3 hs3; have Hset3 := Kd hset3; have Hs3 := Kd hs3; clear hset3 hs3)))
    go_roundw
    case rel =>
     refine ⟨k + 1, Bd l[k] (.int .i64 ((cn : Int) + 1)) m, hlt, by go_num, ?_, Hs.out.then Hs3.out (fun x hx => by simp at hx; subst hx; exact .inr (Nat.le_refl _)), Hall.out⟩
     rw [List.take_succ_eq_append_getElem hlt]
     exact Hcnt.out.step l[k] cn Hcn.out Hset3.out
    case measure => simp [intOf]; omega
  ·have hkk : k = l.length := by omega
   subst hkk
   rw [List.take_length] at hcnt hall
   obtain ⟨es, clock, hes, hesz⟩ := hcnt.map.len
   have hle := hcnt.le
   have hlm := Ic (ty := 3) Tryz.underlying163 hes
   rw [hesz] at hlm
   by_cases hnd : l.Nodup
   ·have hmeq := hcnt.nod.2 hnd
    have hcmp : ¬ (m.length : Int) < l.length := by omega
    have Hnd := Kd hnd
    by_cases hb1 : 256 < l.length
    ·have hds : Cj T.isVar scs l = (22, scs) := by simp [Cj, hall, hnd, hb1]
     have Hds := Kd hds
     have Hs := Kd hsm
     exact zq73
    ·obtain ⟨pr, hpr⟩ : ∃ pr : Int, (l.length : Int) * ((l.length : Int) - 1) = pr := ⟨_, rfl⟩
     have hprn : pr = ((l.length * (l.length - 1) : Nat) : Int) := by
      rw [← hpr]
      rcases Nat.eq_zero_or_pos l.length with hz | hz
      ·simp [hz]
      ·rw [Int.natCast_mul]
       congr 1
       omega
     have hpr0 : 0 ≤ pr := by omega
     have hpr1 : pr ≤ 65536 := by
      have : l.length * (l.length - 1) ≤ 256 * 256 := Nat.mul_le_mul (by omega) (by omega)
      omega
     by_cases hb2 : 256 < l.length * (l.length - 1) / 2
     ·have hds : Cj T.isVar scs l = (22, scs) := by simp [Cj, hall, hnd, hb2]
      have Hds := Kd hds
      have Hs := Kd hsm
      have hq : 512 < pr := by omega
      exact zq73
     ·have hq : ¬ 256 < (l.length : Int) * ((l.length - 1 : Nat) : Int) / 2 := by
       rw [← Int.natCast_mul]
       omega
      have hal := fun (W : World) (hW : Ad [] w W) => Po (.slice Ae l.length ce) l W (He.out.same hW (by simp)) (by omega) hnd
      have hact := fun (W : World) (hW : Ad [] w W) => Ib W s t A M scs (H.out.same hW) Hsm.out
      have hal1 := Qs l (by omega)
      have hac1 := GN Hsm.out H.out.len
      have hun := fun (va vb : Value) (W : World) ha hb => Ev va vb (AL scs) (FM l) W ha hb (by omega)
      have Hs := Kd hsm
      by_cases hb3 : 256 < (Bw (AL scs) (FM l)).length
      ·have hds : Cj T.isVar scs l = (22, scs) := by simp [Cj, hall, hnd, hb1, hb2, hb3]
       have Hds := Kd hds
       obtain ⟨nu, hnu⟩ : ∃ nu, (Bw (AL scs) (FM l)).length = nu := ⟨_, rfl⟩
       have hb4 : 256 < nu := hnu ▸ hb3
       clear hcnt hsm hall hds H0 hnd hes hesz hb3
       go_wp2_with (first
        | (go_at_call 117; go_must (refine (hal _ Hs.out).mono ?_; rintro e' W3 ⟨v3, rfl, hr3, hs3, hv3⟩; obtain ⟨A3, c3, rfl⟩ := hr3.shape; have Hr3 := Kd hr3; have Hs3 := Kd (Hs.out.trans hs3); clear hr3 hs3 hv3))
        | (go_at_call 119; go_must (refine (hact _ Hs3.out).mono ?_; rintro e' W4 ⟨v4, rfl, hr4, hs4, hv4⟩; obtain ⟨A4, c4, rfl⟩ := hr4.shape; have Hr4 := Kd hr4; have Hs4 := Kd (Hs3.out.trans hs4); have Hr3' := Kd (Hr3.out.same hs4 (by simp)); clear hr4 hs4 hv4))
        | (go_at_call 118; go_must (refine (hun _ _ _ Hr4.out Hr3'.out).mono ?_; rintro e' W5 ⟨v5, rfl, hr5, hs5, hv5⟩; obtain ⟨A5, c5, rfl⟩ := hr5.shape; have Hs5 := Kd (Hs4.out.trans hs5); clear hr5 hs5 hv5)))
       go_ret
       rw [JK, Hds.out]
       exact ⟨rfl, H.out.keep Hs5.out⟩
      ·obtain ⟨init, sc, rfl⟩ := GE H.out.ne
       obtain ⟨g, c, P, p, hk⟩ := H.out.last
       have hds : Cj T.isVar (init ++ [sc]) l = (0, init ++ [⟨sc.hyps, Bw sc.pairs (FM l)⟩]) := by simp [Cj, hall, hnd, hb1, hb2, hb3, FU]
       have Hds := Kd hds
       have hin := fun (W : World) (hW : Ad [] w W) => JY H.out hk W hW
       have hsml := (Hsm.out sc (by simp)).2.1
       have hap := fun (W : World) (hW : Ad [] w W) (qv : Value) hq => PY H.out hk HM.out W hW qv (FM l) hq (by omega)
       obtain ⟨nu, hnu⟩ : ∃ nu, (Bw (AL (init ++ [sc])) (FM l)).length = nu := ⟨_, rfl⟩
       have hb4 : ¬ 256 < nu := hnu ▸ hb3
       clear hcnt hsm hall hds H0 hnd hes hesz hb3 hk
       go_wp2_with (first
        | (go_at_call 117; go_must (refine (hal _ Hs.out).mono ?_; rintro e' W3 ⟨v3, rfl, hr3, hs3, hv3⟩; obtain ⟨A3, c3, rfl⟩ := hr3.shape; have Hr3 := Kd hr3; have Hs3 := Kd (Hs.out.trans hs3); clear hr3 hs3 hv3))
        | (go_at_call 119; go_must (refine (hact _ Hs3.out).mono ?_; rintro e' W4 ⟨v4, rfl, hr4, hs4, hv4⟩; obtain ⟨A4, c4, rfl⟩ := hr4.shape; have Hr4 := Kd hr4; have Hs4 := Kd (Hs3.out.trans hs4); have Hr3' := Kd (Hr3.out.same hs4 (by simp)); clear hr4 hs4 hv4))
        | (go_at_call 118; go_must (refine (hun _ _ _ Hr4.out Hr3'.out).mono ?_; rintro e' W5 ⟨v5, rfl, hr5, hs5, hv5⟩; obtain ⟨A5, c5, rfl⟩ := hr5.shape; have Hs5 := Kd (Hs4.out.trans hs5); have Hr3'' := Kd (Hr3'.out.same hs5 (by simp)); clear hr5 hs5 hv5))
        | (go_at_call 120; go_must (refine (hin _ Hs5.out).mono ?_; rintro e' W6 ⟨rfl, hs6⟩; have Hs6 := Kd (Hs5.out.trans hs6); have Hr6 := Kd (Hr3''.out.same hs6 (by simp)); clear hs6))
        | (go_at_call 121; go_must (refine (hap _ Hs6.out _ Hr6.out).mono ?_; rintro e' W7 ⟨rfl, hst⟩; have Hst := Kd hst; clear hst)))
       go_ret
       rw [JK, Hds.out]
       exact ⟨rfl, Hst.out⟩
   ·have hmlt : m.length < l.length := by
     have : ¬ m.length = l.length := fun e => hnd (hcnt.nod.1 e)
     omega
    have hds : Cj T.isVar scs l = (50, scs) := by simp [Cj, hall, hnd]
    have Hds := Kd hds
    have Hs := Kd hsm
    have hcmp : (m.length : Int) < l.length := by omega
    exact zq73
def AH (w : World) (v : Value) : Prop := ∀ b, v.ownBlock = some b → w.heap.size ≤ b
theorem BV {w : World} {b : Nat} {x0 x1 x2 x3 : Value} {t : TypeId} (h : w.heap[b]? = some (.cells #[x0, x1, x2, x3] t (0, 0))) : w.cell? ⟨b, 0, none⟩ = some x0 ∧ w.cell? ⟨b, 1, none⟩ = some x1 ∧ w.cell? ⟨b, 2, none⟩ = some x2 ∧ w.cell? ⟨b, 3, none⟩ = some x3 ∧ ∀ i, w.frozen? ⟨b, i, none⟩ = false :=
 ⟨Ai h, Ai h, Ai h, Ai h, AE h⟩
theorem Fh {w : World} {b : Nat} {x0 x1 : Value} {t : TypeId} (h : w.heap[b]? = some (.cells #[x0, x1] t (0, 0))) : w.cell? ⟨b, 0, none⟩ = some x0 ∧ w.cell? ⟨b, 1, none⟩ = some x1 ∧ ∀ i, w.frozen? ⟨b, i, none⟩ = false :=
 ⟨Ai h, Ai h, AE h⟩
theorem Bm.impMem {α β : Type} {P Q : α → β → Prop} : ∀ {l : List α} {m : List β}, Bm P l m → (∀ a b, b ∈ m → P a b → Q a b) → Bm Q l m
 | [], [], _, _ => trivial
 | a :: l, b :: m, hp, h => ⟨h _ _ (List.mem_cons_self ..) hp.1, Bm.impMem hp.2 fun a b hb => h a b (List.mem_cons_of_mem _ hb)⟩
 | [], _ :: _, hp, _ => hp.elim
 | _ :: _, [], hp, _ => hp.elim
structure Gn (w : World) (t : TypeId) (b : Nat) (rest : List Value) (l : List Hy) (hv : Value) (evs : List Value) (W : World) : Prop where
 blk : W.heap[b]? = some (.cells (hv :: rest).toArray t (0, 0))
 hyps : Bi W [] hv evs l
 fr : AH w hv
 frs : ∀ ev ∈ evs, AH w ev
 base : Ad [] w W
theorem Gn.same {w W W' : World} {t : TypeId} {b : Nat} {rest : List Value} {hv : Value} {l : List Hy} {evs : List Value} (h : Gn w t b rest l hv evs W) (hs : Ad [] W W') : Gn w t b rest l hv evs W' :=
 ⟨hs.get h.blk (by simp), h.hyps.same hs, h.fr, h.frs, h.base.trans hs⟩
theorem Gn.push {w W W1 : World} {t : TypeId} {b : Nat} {rest : List Value} {hv : Value} {l : List Hy} {evs : List Value} (h : Gn w t b rest l hv evs W) (ht : 49 ≠ t) (ht3 : 3 ≠ t) (x : Hy) {v1 ev : Value} (hr : Row W1 49 4 v1 (l.length + 1) (BE l evs ++ [.string x.label, .bool x.floating, .int .i64 x.var, ev]))
  (hs : Ad hv.ownBlock.toList W W1) (ho : v1.ownBlock = hv.ownBlock ∨ ∃ b, v1.ownBlock = some b ∧ W.heap.size ≤ b) (hx : Ds W [] ev x.expr) (hxf : AH w ev) (hf : x.floating = true → x.expr ≠ []) (hb : w.heap.size ≤ b) :
  Gn w t b rest (l ++ [x]) v1 (evs ++ [ev]) (W1.setCell ⟨b, 0, none⟩ v1) := by
 have hlen := h.hyps.exprs.len
 have hne : hv.ownBlock ≠ some b := h.hyps.row.ne h.blk ht
 have hbW1 : W1.heap[b]? = some (.cells (hv :: rest).toArray t (0, 0)) := hs.get h.blk (by simpa using hne)
 have hne1 : v1.ownBlock ≠ some b := hr.ne hbW1 ht
 have hsw : Ad [] w W1 := h.base.then hs (fun y hy => .inr (h.fr y (Option.mem_toList.1 hy)))
 refine ⟨by have := AI hbW1 0 v1; simpa using this, ⟨?_, ?_, ?_⟩, ?_, ?_, hsw.setNew _ _ hb⟩
 ·rw [D9 _ _ _ _ hlen]
  simpa using hr.same (Ad.setCell W1 _ _ (S := [b]) (by simp)) (fun c hc hm => by simp at hm; subst hm; exact hne1 hc)
 ·have key : ∀ (ev : Value) (e : List Int), Ds W [] ev e → Ds (W1.setCell ⟨b, 0, none⟩ v1) [] ev e := by
   intro ev e hi
   have h1 := hi.row.same hs (fun c hc hm => h.hyps.row.ne_row hi.row (by decide) hc (Option.mem_toList.1 hm))
   refine ⟨h1.same (Ad.setCell W1 _ _ (S := [b]) (by simp)) (fun c hc hm => ?_), by simp⟩
   simp at hm
   subst hm
   exact h1.ne hbW1 ht3 hc
  exact Bm.snoc (h.hyps.exprs.imp fun y ev hi => key ev y.expr hi) (key ev x.expr hx)
 ·intro y hy hyf
  rcases List.mem_append.1 hy with hy | hy
  ·exact h.hyps.flo y hy hyf
  ·simp at hy; subst hy; exact hf hyf
 ·intro c hc
  rcases ho with ho | ⟨d, hd, hle⟩
  ·exact h.fr c (ho ▸ hc)
  ·rw [hd] at hc; cases hc; exact Nat.le_trans h.base.size hle
 ·intro e he
  rcases List.mem_append.1 he with he | he
  ·exact h.frs e he
  ·simp at he; subst he; exact hxf
theorem Gn.other {w W W1 : World} {t : TypeId} {b : Nat} {rest : List Value} {hv : Value} {l : List Hy} {evs : List Value} (h : Gn w t b rest l hv evs W) (hs : Ad hv.ownBlock.toList W W1) (v1 : Value) {e k n : Nat} {u : Value} {xs : List Value} (hu : Row W e k u n xs) (he : 49 ≠ e) (het : e ≠ t) :
  Row (W1.setCell ⟨b, 0, none⟩ v1) e k u n xs := by
 have h1 := hu.same hs (fun c hc hm => h.hyps.row.ne_row hu he hc (Option.mem_toList.1 hm))
 exact h1.same (Ad.setCell W1 _ _ (S := [b]) (by simp)) (fun c hc hm => by simp at hm; subst hm; exact hu.ne h.blk het hc)
theorem FS (scs : List Sc) (k : Nat) (hk : k < scs.length) : AK (scs.take (k + 1)) = AK (scs.take k) ++ scs[k].hyps := by
 unfold AK
 rw [List.take_succ_eq_append_getElem hk, List.flatMap_append]
 simp only [List.flatMap_cons, List.flatMap_nil, List.append_nil]
theorem EL (scs : List Sc) (h : DO scs) : ∀ k, k ≤ scs.length → (AK (scs.take k)).length ≤ 100000 * k
 | 0, _ => by simp [AK]
 | k + 1, hk => by
  have h1 := EL scs h k (by omega)
  rw [FS _ _ hk, List.length_append]
  have h3 := (h scs[k] (List.getElem_mem _)).1
  omega
def PA (w : World) (b : Nat) (scs : List Sc) (pv u : Value) (W : World) : Prop :=
 ∃ (k : Nat) (hv : Value) (evs : List Value), k ≤ scs.length ∧ u = .int .i64 k ∧ Gn w 69 b [pv] (AK (scs.take k)) hv evs W ∧ Row W 47 2 pv (AL scs).length (AT (AL scs))
def NV (w : World) (b : Nat) (scs : List Sc) (k : Nat) (sc : Sc) (pv u : Value) (W : World) : Prop :=
 ∃ (j : Nat) (hv : Value) (evs : List Value), j ≤ sc.hyps.length ∧ u = .int .i64 j ∧ Gn w 69 b [pv] (AK (scs.take k) ++ sc.hyps.take j) hv evs W ∧ Row W 47 2 pv (AL scs).length (AT (AL scs))
def Rn (scs : List Sc) (w : World) (e : Ending) (w' : World) : Prop := ∃ hv pv evs, e = .returned (.agg #[hv, pv]) ∧ Bi w' [] hv evs (AK scs) ∧ AH w hv ∧ (∀ ev ∈ evs, AH w ev) ∧ Row w' 47 2 pv (AL scs).length (AT (AL scs)) ∧ AH w pv ∧ Ad [] w w'
theorem F8 (w : World) (s t : Nat) (A : SA) (M : List Nat) (scs : List Sc) (h : Bq w s t A M scs) (hsm : DO scs) :
  Calls Tryz.prog 113 #[.pointer (some ⟨s, 0, none⟩)] w (Rn scs w) := by
 obtain ⟨As, cs, hv, c0, c1, cf, hl⟩ := h.facts
 have hlen := h.len
 have hact := fun (W : World) (hW : Ad [] w W) => Ib W s t A M scs (h.same hW) hsm
 have H1 := Kd (h.same (Ad.alloc [] w (Obj.cells #[.slice none 0 0, .slice none 0 0] 69)))
 have H := Kd h
 have Hv := Kd hv
 have Hsml := Kd hsm
 clear h hv hsm
 go_enter Tryz.func113, Tryz.ntmps113
 go_wp2_with (go_at_call 119; go_must (refine (hact _ (Ad.alloc [] _ _)).mono ?_; rintro e' W1 ⟨v1, rfl, hr1, hs1, hv1⟩; obtain ⟨A1, c1', rfl⟩ := hr1.shape; have Hr1 := Kd hr1; have hs01 := (Ad.alloc [] w (Obj.cells #[.slice none 0 0, .slice none 0 0] 69)).trans hs1; have hz := hs1.get (Aj w _) (by simp); have Hz := Kd hz; have Hs1 := Kd hs1; have hW01 := hs1.size; have Hv1 := Kd hv1; have d1 := hs01.cell c1 (by simp); have hlW1 := Nat.lt_of_lt_of_le hl hs01.size; have hzl := Af hz; clear hr1 hs1 hs01 hv1 hz))
 have h0 : PA (w.alloc (Obj.cells #[.slice none 0 0, .slice none 0 0] 69)) W1.heap.size scs (.slice A1 (AL scs).length c1') (.int .i64 0) (W1.alloc (.cells #[.slice none 0 0, .slice A1 (AL scs).length c1'] 69)) :=
  ⟨0, .slice none 0 0, [], Nat.zero_le _, rfl, ⟨Aj _ _, ⟨World.ownsRow_nil _ _ _ _, trivial, by simp [AK]⟩, by simp [AH, Value.ownBlock], by simp, Hs1.out.trans (Ad.alloc _ _ _)⟩, Hr1.out.same (Ad.alloc [] _ _) (by simp)⟩
 have H0 := Kd h0
 clear h0
 go_loopw [16] (fun u wr => PA (w.alloc (Obj.cells #[.slice none 0 0, .slice none 0 0] 69)) W1.heap.size scs (.slice A1 (AL scs).length c1') u wr) (fun u _ => scs.length - (intOf u).toNat)
 case atStart => exact H0.out
 case round =>
  obtain ⟨k, hv, evs, hk, rfl, hco, hrow⟩ := hrel
  by_cases hlt : k < scs.length
  ·obtain ⟨g, c, p, hvs, hp, hin, s0, s1, sf, hgl⟩ := (H1.out.same hco.base).scope hlt
   rw [Hv.out] at hvs
   cases hvs
   obtain ⟨Ap, cp, hpv⟩ := hin.pairs.row.shape
   obtain ⟨Ah, ch, hph⟩ := hin.hyps.row.shape
   rw [hpv] at s1
   rw [hph] at s0
   have Hin := Kd hin.hyps
   have Hph := Kd hph
   have Hp := Kd hp
   have hj : NV (w.alloc (Obj.cells #[.slice none 0 0, .slice none 0 0] 69)) W1.heap.size scs k scs[k] (.slice A1 (AL scs).length c1') (.int .i64 0) wr := ⟨0, hv, evs, Nat.zero_le _, rfl, by simpa using hco, hrow⟩
   have HJ := Kd hj
   clear hco hrow hin hp hpv hph hj H0
   go_wp2
   have hw2 := Ad.alloc [] wr (Obj.cells #[.slice Ah scs[k].hyps.length ch, .slice Ap scs[k].pairs.length cp] 218)
   have hj2 : NV (w.alloc (Obj.cells #[.slice none 0 0, .slice none 0 0] 69)) W1.heap.size scs k scs[k] (.slice A1 (AL scs).length c1') (.int .i64 0) (wr.alloc (Obj.cells #[.slice Ah scs[k].hyps.length ch, .slice Ap scs[k].pairs.length cp] 218)) := by
    obtain ⟨j, hv, evs, h1, h2, h3, h4⟩ := HJ.out
    exact ⟨j, hv, evs, h1, h2, h3.same hw2, h4.same hw2 (by simp)⟩
   have HJ2 := Kd hj2
   clear hj2 hw2 HJ Hin
   go_loopw [24] (fun u wr => NV (w.alloc (Obj.cells #[.slice none 0 0, .slice none 0 0] 69)) W1.heap.size scs k scs[k] (.slice A1 (AL scs).length c1') u wr) (fun u _ => scs[k].hyps.length - (intOf u).toNat)
   case atStart => exact HJ2.out
   case round =>
    obtain ⟨j, hv, evs, hj, rfl, hco, hrow⟩ := hrel
    by_cases hjlt : j < scs[k].hyps.length
    ·obtain ⟨g', c', p', hvs', hp', hin', -, -, -, -⟩ := (H1.out.same hco.base).scope hlt
     rw [Hp.out] at hp'
     cases hp'
     obtain ⟨g2, c2, ev, hv2, hev, hints, t0, t1, t2, t3, hgl2⟩ := hin'.hyps.at hjlt
     rw [Hph.out] at hv2
     cases hv2
     have hsm := Hsml.out scs[k] (List.getElem_mem hlt)
     have hjb : scs[k].hyps.length ≤ 100000 := hsm.1
     have hsm3 := hsm.2.2 scs[k].hyps[j] (List.getElem_mem hjlt)
     have hflo := hin'.hyps.flo scs[k].hyps[j] (List.getElem_mem hjlt)
     have hcl := fun (W : World) (hW : Ad [] wr W) => CP ev _ _ W (hints.row.same hW (by simp)) (En _) (by omega)
     obtain ⟨Ae, ce, rfl⟩ := hints.row.shape
     obtain ⟨L, hL⟩ : ∃ L, AK (scs.take k) ++ scs[k].hyps.take j = L := ⟨_, rfl⟩
     rw [hL] at hco
     have hLn : L.length ≤ 1800000 := by
      have h1 := EL scs Hsml.out k hk
      have h2 := hsm.1
      rw [← hL, List.length_append, List.length_take]
      omega
     have HL := Kd hL
     obtain ⟨Av, cv, rfl⟩ := hco.hyps.row.shape
     have hvl : ∀ b, (Value.slice Av L.length cv).ownBlock = some b → b < wr.heap.size := fun b hb => hco.hyps.row.lt hb
     have hb := hco.blk
     have hbl := Af hb
     have Hints := Kd hints
     have Hflo := Kd hflo
     have Hco := Kd hco
     have Hrow := Kd hrow
     have Hvl := Kd hvl
     clear hin' hints hev hflo hco hrow HJ2 hsm hvs' hL hvl
     go_wp2_with (first
      | (go_at_call 51; go_must (refine (hcl _ (Ad.alloc [] _ _)).mono ?_; rintro e' W3 ⟨v3, rfl, hr3, hs3, hv3⟩; obtain ⟨A3, c3, rfl⟩ := hr3.shape; have hB3 := hs3.get (Aj wr _) (by simp); obtain ⟨k0, k1, k2, k3, kf⟩ := BV hB3; have hs03 := (Ad.alloc [] wr (Obj.cells #[Value.string scs[k].hyps[j].label, Value.bool scs[k].hyps[j].floating, Value.int IntKind.i64 scs[k].hyps[j].var, Value.slice Ae scs[k].hyps[j].expr.length ce] 49)).trans hs3; have hb3 := hs03.get hb (by simp); obtain ⟨b30, b31, b3f⟩ := Fh hb3; have HB3 := Kd hB3; have Hb3 := Kd hb3; have Hr3 := Kd hr3; have Hs03 := Kd hs03; have Hv3 := Kd hv3; have hBl3 := Af hB3; have hbl3 := Af hb3; clear hB3 hb3 hr3 hs3 hs03 hv3))
      | (at_builtin; refine Bh (W := W3.setCell ⟨wr.heap.size, 3, none⟩ (.slice A3 scs[k].hyps[j].expr.length c3)) rfl _ _ 22 rfl 49 4 56 _ Tryz.underlying22 Tryz.infoHyp rfl (by decide) (.slice Av L.length cv) _ _ rfl ((Hco.out.hyps.row.same Hs03.out (by simp)).same (Ad.setCell _ _ _ (S := [wr.heap.size]) (by simp)) (fun c hc hm => by have := Hvl.out c hc; simp at hm; omega)) [.string scs[k].hyps[j].label, .bool scs[k].hyps[j].floating, .int .i64 scs[k].hyps[j].var, .slice A3 scs[k].hyps[j].expr.length c3] (by rw [Ba]; rfl) rfl (by simp [Value.oneCell']) (by omega) (by decide) ?_; go_must (intro v5 W5 hr5 hs5 ho5; obtain ⟨A5, c5, rfl⟩ := hr5.shape; have hb5 : W5.heap[W1.heap.size]? = some (.cells #[.slice Av L.length cv, .slice A1 (AL scs).length c1'] 69 (0, 0)) := hs5.get ((AG _ _ (by simp; omega)).trans Hb3.out) (by simpa using Hco.out.hyps.row.ne Hco.out.blk (by decide)); obtain ⟨e30, e31, e3f⟩ := Fh hb5; have Hr5 := Kd hr5; have Hs5 := Kd hs5; have Ho5 := Kd ho5; have hbl5 := Af hb5; clear hr5 hs5 ho5 hb5)))
     go_roundw
     case rel =>
      have hW3 : Ad [] wr (W3.setCell ⟨wr.heap.size, 3, none⟩ (.slice A3 scs[k].hyps[j].expr.length c3)) := Hs03.out.setNew _ _ (Nat.le_refl _)
      have hco3 := Hco.out.same hW3
      have hrow3 : Row (W3.setCell ⟨wr.heap.size, 3, none⟩ (.slice A3 scs[k].hyps[j].expr.length c3)) 3 1 (.slice A3 scs[k].hyps[j].expr.length c3) _ _ := Hr3.out.same (Ad.setCell W3 _ _ (S := [wr.heap.size]) (by simp)) (fun c hc hm => by have := Hv3.out c hc; rw [AA] at this; simp at hm; omega)
      have hpush := hco3.push (by decide) (by decide) scs[k].hyps[j] Hr5.out Hs5.out Ho5.out ⟨hrow3, by simp⟩ (fun c hc => by have h1 := Hv3.out c hc; have h2 := Hco.out.base.size; rw [AA] at h1; omega) Hflo.out (by omega)
      refine ⟨j + 1, .slice A5 (L.length + 1) c5, evs ++ [.slice A3 scs[k].hyps[j].expr.length c3], hjlt, by go_num, ?_, hco3.other Hs5.out _ (Hrow.out.same hW3 (by simp)) (by decide) (by decide)⟩
      rw [List.take_succ_eq_append_getElem hjlt, ← List.append_assoc, HL.out]
      exact hpush
     case measure => simp [intOf]; omega
    ·have hjj : j = scs[k].hyps.length := by omega
     subst hjj
     rw [List.take_length, ← FS scs k hlt] at hco
     have Hco := Kd hco
     have Hrow := Kd hrow
     clear hco hrow HJ2
     go_wp2
     go_roundw
     case rel => exact ⟨k + 1, hv, evs, hlt, by go_num, Hco.out, Hrow.out⟩
     case measure => simp [intOf]; omega
  ·have hkk : k = scs.length := by omega
   subst hkk
   rw [List.take_length] at hco
   have hb := hco.blk
   obtain ⟨b0, b1, bf⟩ := Fh hb
   have hz := hco.base.get (Aj w _) (by simp)
   obtain ⟨z0, z1, zf⟩ := Fh hz
   obtain ⟨Av, cv, rfl⟩ := hco.hyps.row.shape
   have Hco := Kd hco
   have Hrow := Kd hrow
   have hzl' := Af hz
   clear hco hrow H0 hb
   have hz2 := AI (w := wr.setCell ⟨w.heap.size, 0, none⟩ (.slice Av (AK scs).length cv)) (AI hz 0 (.slice Av (AK scs).length cv)) 1 (.slice A1 (AL scs).length c1')
   have hs9 : Ad [w.heap.size] wr ((wr.setCell ⟨w.heap.size, 0, none⟩ (.slice Av (AK scs).length cv)).setCell ⟨w.heap.size, 1, none⟩ (.slice A1 (AL scs).length c1')) := (Ad.setCell _ _ _ (by simp)).trans (Ad.setCell _ _ _ (by simp))
   have Hz2 := Kd hz2
   have Hs9 := Kd hs9
   clear hz2 hs9 hz
   go_wp2
   have hz2 := Hz2.out
   have hs9 := Hs9.out
   generalize (wr.setCell _ _).setCell _ _ = W9 at hz2 hs9 ⊢
   obtain ⟨y0, y1, yf⟩ := Fh hz2
   refine bodyPost_ret_by (v := .agg #[.slice Av (AK scs).length cv, .slice A1 (AL scs).length c1']) (by simp [results, Tryz.f113, go_sem, y0, y1]) rfl ?_
   have hbase : Ad [] w W9 := ((Ad.alloc [] w _).trans Hco.out.base).then hs9 (fun x hx => .inr (by simp at hx; omega))
   have hh := Hco.out.hyps
   have hne : ∀ b, (Value.slice Av (AK scs).length cv).ownBlock = some b → b ∉ [w.heap.size] := fun b hb hm => by have := Hco.out.fr b hb; rw [AA] at this; simp at hm; omega
   refine ⟨_, _, evs, rfl, ⟨hh.row.same hs9 hne, ?_, hh.flo⟩, fun b hb => by have := Hco.out.fr b hb; rw [AA] at this; omega, fun ev hev b hb => by have := Hco.out.frs ev hev b hb; rw [AA] at this; omega, ?_, fun b hb => by have := Hv1.out b hb; rw [AA] at this; omega, hbase⟩
   ·exact hh.exprs.impMem fun y ev hev hi => ⟨hi.row.same hs9 (fun b hb hm => by have := Hco.out.frs ev hev b hb; rw [AA] at this; simp at hm; omega), by simp⟩
   ·exact Hrow.out.same hs9 (fun b hb hm => by have := Hv1.out b hb; rw [AA] at this; simp at hm; omega)
def Re (w : World) (b : Nat) (l L : List Int) (u : Value) (W : World) : Prop :=
 ∃ (k : Nat) (m : List (Int × Value)), k ≤ L.length ∧ u = .int .i64 k ∧ Cnt W b (l ++ L.take k) m ∧ Ad [b] w W
def RJ (w : World) (b : Nat) (l : List Int) (e : Ending) (w' : World) : Prop := e = .returned (.tuple #[]) ∧ (∃ m, Cnt w' b l m) ∧ Ad [b] w w'
theorem NB (w : World) (s t : Nat) (A : SA) (M : List Nat) (scs : List Sc) (h : Bq w s t A M scs) (TA : TA) (T : Tbl) (hT : AW w t TA T) (va : Value) (e : List Int) (he : Row w 3 1 va e.length (Ay e)) (hn : e.length ≤ 1000000)
  (bs bm b : Nat) (hbs : w.heap[bs]? = some (.cells #[.pointer (some ⟨s, 0, none⟩)] 90 (0, 0))) (hbm : w.heap[bm]? = some (.cells #[.map (some b)] 163 (0, 0))) (l : List Int) (m : List (Int × Value)) (hm : Cnt w b l m) (hl : l.length ≤ 1000000000000) :
  Calls Tryz.prog 155 #[va, .pointer (some ⟨bs, 0, none⟩), .pointer (some ⟨bm, 0, none⟩)] w (RJ w b (l ++ Cu e T.isVar)) := by
 obtain ⟨As, cs, hv, c0, c1, cf, hsl⟩ := h.facts
 unfold fnV at c0
 have s0 : w.cell? ⟨bs, 0, none⟩ = some (.pointer (some ⟨s, 0, none⟩)) := Ai hbs
 have m0 : w.cell? ⟨bm, 0, none⟩ = some (.map (some b)) := Ai hbm
 have hvr := J6 va e t TA T w he hT hn
 obtain ⟨Ae, ce, rfl⟩ := he.shape
 obtain ⟨L, hL⟩ : ∃ L, Cu e T.isVar = L := ⟨_, rfl⟩
 have hLn : L.length ≤ 1000000 := by rw [← hL]; exact Nat.le_trans (Fj _ _) hn
 rw [hL] at hvr ⊢
 have hbml := Af hbm
 have hmb : bm ≠ b := by
  rintro rfl
  obtain ⟨es, clock, hes, _⟩ := hm.map.len
  rw [hes] at hbm
  cases hbm
 have Hm := Kd hm
 clear h hT hv he hL hm hbs hbm
 go_enter Tryz.func155, Tryz.ntmps155
 go_wp2_with (go_at_call 154; go_must (refine hvr.mono ?_; rintro e' W1 ⟨v1, rfl, hr1, hs1, hv1⟩; obtain ⟨A1, c1', rfl⟩ := hr1.shape; have Hr1 := Kd hr1; have Hs1 := Kd hs1; have m1 := hs1.cell m0 (by simp); have Hm1 := Kd (Hm.out.same hs1 (by simp)); have Hv1 := Kd hv1; clear hr1 hs1 hv1))
 have h0 : Re w b l L (.int .i64 0) W1 := ⟨0, m, Nat.zero_le _, rfl, by simpa using Hm1.out, Hs1.out.mono (by simp)⟩
 have hr0 : Row W1 3 1 (.slice A1 L.length c1') L.length (Ay L) := Hr1.out
 have H0 := Kd h0
 clear h0 hr0
 go_loopw [13] (fun u wr => Re w b l L u wr ∧ Ad [b] W1 wr) (fun u _ => L.length - (intOf u).toNat)
 case atStart => exact ⟨H0.out, Ad.refl _ _⟩
 case round =>
  obtain ⟨⟨k, m', hk, rfl, hcnt, hsm⟩, hs1⟩ := hrel
  have m2 := hs1.cell m1 (by simpa using hmb)
  by_cases hlt : k < L.length
  ·have hrow := Hr1.out.same hs1 (fun c hc hm => by
    simp at hm; subst hm
    have := Hv1.out c hc
    have := Hm.out.map.lt
    omega)
   obtain ⟨ge, c, hve, t0, hgl⟩ := BS hrow hlt
   cases hve
   obtain ⟨cn, hcn, hcl, _⟩ := hcnt.get L[k]
   have hcl' : cn ≤ 1000001000000 := by simp at hcl; omega
   have hlk := hcnt.map.run_lookup (P := Tryz.prog) CX Tryz.underlying163 (Dp _) L[k] false
   rw [if_neg (by decide), hcn] at hlk
   unfold EN at hlk
   have Hcn := Kd hcn
   have Hcnt := Kd hcnt
   have Hs := Kd hsm
   have Hs1' := Kd hs1
   clear hcnt hsm H0 hcn hcl hrow hs1
   go_wp2_with (at_mapUpdate; go_must (refine C7 CX Hcnt.out.map Tryz.underlying163 rfl _ _ _ rfl L[k] (.int .i64 ((cn : Int) + 1)) rfl rfl rfl ?_; intro W3 hset3 hs3; have Hset3 := Kd hset3; have Hs3 := Kd hs3; clear hset3 hs3))
   go_roundw
   case rel =>
    refine ⟨⟨k + 1, Bd L[k] (.int .i64 ((cn : Int) + 1)) m', hlt, by go_num, ?_, Hs.out.trans Hs3.out⟩, Hs1'.out.trans Hs3.out⟩
    rw [List.take_succ_eq_append_getElem hlt, ← List.append_assoc]
    exact Hcnt.out.step L[k] cn Hcn.out Hset3.out
   case measure => simp [intOf]; omega
  ·have hkk : k = L.length := by omega
   subst hkk
   rw [List.take_length] at hcnt
   have Hcnt := Kd hcnt
   have Hs := Kd hsm
   clear hcnt hsm H0 hs1
   go_wp2
   refine bodyPost_end (results_none rfl _ _ _) rfl ?_
   exact ⟨rfl, ⟨m', Hcnt.out⟩, Hs.out⟩
end Go.Proofs.YtbfbgfpghkijdaaGreatDoor
