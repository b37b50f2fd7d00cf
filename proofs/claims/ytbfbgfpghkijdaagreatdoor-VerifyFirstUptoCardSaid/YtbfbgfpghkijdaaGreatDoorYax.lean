/- lemmalaw texts, part 24. -/
import Derived.Test.YtbfbgfpghkijdaaGreatDoorYav
import Derived.Test.YtbfbgfpghkijdaaGreatDoorYaw
set_option maxRecDepth 100000
set_option linter.unusedVariables false
set_option linter.unusedSimpArgs false
set_option maxHeartbeats 32000000
namespace Go.Proofs.YtbfbgfpghkijdaaGreatDoor
def TkP (t : Tk) : Prop := t.text.size ≤ 65536
theorem TkP.none : TkP Tk.none := Nat.zero_le _
theorem zq103 {P : Prop} (h : P := by
 rcases List.mem_append.1 hz with hz | hz
 ·exact ho z hz
 ·simp at hz; subst hz; exact hl y (List.mem_cons_self ..)) : P := h
theorem Ep : ∀ (l : List It) (out : List Tk) (op : Option Tk), (∀ x ∈ l, TkP x.word) → (∀ x ∈ out, TkP x) → ∀ x ∈ (BX l out op).1, TkP x
 | [], out, op, hl, ho, x, hx => by unfold BX at hx; exact ho x hx
 | y :: r, out, op, hl, ho, x, hx => by
  have hr : ∀ x ∈ r, TkP x.word := fun x hx => hl x (List.mem_cons_of_mem _ hx)
  unfold BX at hx
  split at hx
  ·exact ho x hx
  ·split at hx
   ·split at hx
    ·exact Ep r _ _ hr ho x hx
    ·split at hx
     ·exact ho x hx
     ·exact Ep r _ _ hr ho x hx
   ·split at hx
    ·exact Ep r _ _ hr ho x hx
    ·split at hx
     ·exact ho x hx
     ·split at hx
      ·exact ho x hx
      ·refine Ep r _ _ hr (fun z hz => ?_) x hx
       exact zq103
theorem Fx (t : ByteArray) : ∀ x ∈ (BM t).1, TkP x := Ep _ _ _ (C2 t t.size 0 _ _ (by omega) (Nat.zero_le _)) (by simp)
structure SIn (n : Nat) (s : St) : Prop where
 words : ∀ w ∈ s.words, TkP w
 proof : ∀ w ∈ s.proof, TkP w
 label : TkP s.label
 key : TkP s.key
 end_ : TkP s.end_
 wl : s.words.length ≤ n
 pl : s.proof.length ≤ n
theorem SIn.mono {n m : Nat} {s : St} (h : SIn n s) (hm : n ≤ m) : SIn m s := ⟨h.words, h.proof, h.label, h.key, h.end_, Nat.le_trans h.wl hm, Nat.le_trans h.pl hm⟩
structure RIn (n : Nat) (R : Rd) : Prop where
 out : ∀ s ∈ R.out, SIn n s ∧ s.Good
 len : R.out.length ≤ n
 now : ∀ s, R.now = some s → SIn n s ∧ s.kind = R.what + 1 ∧ s.words.length ≤ HH R.what ∧ s.end_ = Tk.none ∧ R.out.length + 1 ≤ n
 lab : ∀ t, R.label = some t → TkP t
theorem RIn.mono {n m : Nat} {R : Rd} (h : RIn n R) (hm : n ≤ m) : RIn m R :=
 ⟨fun s hs => ⟨(h.out s hs).1.mono hm, (h.out s hs).2⟩, Nat.le_trans h.len hm, fun s hs => by obtain ⟨h1, h2, h3, h4, h5⟩ := h.now s hs; exact ⟨h1.mono hm, h2, h3, h4, Nat.le_trans h5 hm⟩, h.lab⟩
theorem La {o : Option Tk} (h : ∀ t, o = some t → TkP t) : TkP (o.getD Tk.none) := by
 cases o with
 | none => exact TkP.none
 | some t => exact h t rfl
theorem RIn.between {n : Nat} {R : Rd} (h : RIn n R) {t : Tk} (ht : TkP t) (hn : R.now = none) : RIn (n + 1) (R.between t).2 := by
 have h' := h.mono (Nat.le_succ n)
 unfold Rd.between
 split
 ·split
  ·exact h'
  ·exact ⟨h'.out, h'.len, h'.now, fun u hu => by cases hu; exact ht⟩
 ·dsimp only
  split
  ·exact h'
  ·split
   ·exact h'
   ·rename_i h9 hlab
    have hS : SIn (n + 1) ⟨DR t.text + 1, R.label.getD Tk.none, t, false, [], [], Tk.none⟩ := ⟨by simp, by simp, La h.lab, ht, TkP.none, Nat.zero_le _, Nat.zero_le _⟩
    split
    ·rename_i h78
     refine ⟨fun s hs => ?_, by have := h.len; simp; omega, fun s hs => (by simp [hn] at hs), fun u hu => by cases hu⟩
     rcases List.mem_append.1 hs with hs | hs
     ·exact h'.out s hs
     ·simp at hs
      subst hs
      exact ⟨⟨by simp, by simp, La h.lab, ht, ht, Nat.zero_le _, Nat.zero_le _⟩, fun hk => by simp at hk; omega⟩
    ·refine ⟨h'.out, h'.len, fun s hs => ?_, fun u hu => by cases hu⟩
     cases hs
     exact ⟨hS, rfl, Nat.zero_le _, rfl, by have := h.len; dsimp only; omega⟩
theorem zq120 {P : Prop} (h : P := by
 rcases List.mem_append.1 hw with hw | hw
 ·exact h1.proof w hw
 ·simp at hw; subst hw; exact ht) : P := h
theorem zq121 {P : Prop} (h : P := by
 rcases List.mem_append.1 hw with hw | hw
 ·exact h1.words w hw
 ·simp at hw; subst hw; exact ht) : P := h
theorem RIn.within {n : Nat} {R : Rd} (h : RIn n R) {s : St} {t : Tk} (ht : TkP t) (hn : R.now = some s) : RIn (n + 1) (R.within s t).2 := by
 have h' := h.mono (Nat.le_succ n)
 obtain ⟨h1, h2, h3, h4, h5⟩ := h.now s hn
 unfold Rd.within
 split
 ·split
  ·refine ⟨h'.out, h'.len, fun u hu => ?_, h'.lab⟩
   cases hu
   refine ⟨⟨h1.words, fun w hw => ?_, h1.label, h1.key, h1.end_, Nat.le_succ_of_le h1.wl, by have := h1.pl; simp; omega⟩, h2, h3, h4, Nat.le_succ_of_le h5⟩
   exact zq120
  ·split
   ·exact h'
   ·rename_i hne
    refine ⟨h'.out, h'.len, fun u hu => ?_, h'.lab⟩
    cases hu
    refine ⟨⟨fun w hw => ?_, h1.proof, h1.label, h1.key, h1.end_, by have := h1.wl; simp; omega, Nat.le_succ_of_le h1.pl⟩, h2, by simp; omega, h4, Nat.le_succ_of_le h5⟩
    exact zq121
 ·split
  ·split
   ·exact h'
   ·refine ⟨h'.out, h'.len, fun u hu => ?_, h'.lab⟩
    cases hu
    have hm := h1.mono (Nat.le_succ n)
    exact ⟨⟨hm.words, hm.proof, hm.label, hm.key, hm.end_, hm.wl, hm.pl⟩, h2, h3, h4, Nat.le_succ_of_le h5⟩
  ·split
   ·split
    ·exact h'
    ·rename_i hno
     refine ⟨fun u hu => ?_, by simp; omega, fun u hu => (by cases hu), h'.lab⟩
     rcases List.mem_append.1 hu with hu | hu
     ·exact h'.out u hu
     ·simp at hu
      subst hu
      refine ⟨⟨h1.words, h1.proof, h1.label, h1.key, ht, Nat.le_succ_of_le h1.wl, Nat.le_succ_of_le h1.pl⟩, fun hk _ => ?_⟩
      have hw : R.what = 2 := by dsimp only at hk; omega
      rw [hw] at h3 hno
      have e1 : HH 2 = 2 := rfl
      have e2 : FC 2 = 2 := rfl
      simp only [not_or, e2] at hno
      rw [e1] at h3
      dsimp only
      omega
   ·exact h'
theorem RIn.step {n : Nat} {R : Rd} (h : RIn n R) {t : Tk} (ht : TkP t) : RIn (n + 1) (R.step t).2 := by
 unfold Rd.step
 split
 ·rename_i hn; exact h.between ht hn
 ·rename_i s hn; exact h.within ht hn
theorem KM : ∀ (ws : List Tk) (n : Nat) (R : Rd), RIn n R → (∀ w ∈ ws, TkP w) → RIn (n + ws.length) (DY ws R).1
 | [], n, R, h, _ => h
 | t :: ws, n, R, h, hw => by
  have hs := h.step (hw t (List.mem_cons_self ..))
  unfold DY
  split
  ·have := KM ws (n + 1) _ hs fun w h => hw w (List.mem_cons_of_mem _ h)
   rw [List.length_cons, show n + (ws.length + 1) = n + 1 + ws.length by omega]
   exact this
  ·exact hs.mono (by simp)
theorem RIn.all {n : Nat} {R : Rd} (h : RIn n R) : (∀ s ∈ R.all, SIn n s ∧ s.Good) ∧ R.all.length ≤ n := by
 unfold Rd.all
 split
 ·exact ⟨h.out, h.len⟩
 ·rename_i s hn
  obtain ⟨h1, h2, h3, h4, h5⟩ := h.now s hn
  refine ⟨fun u hu => ?_, by simpa using h5⟩
  rcases List.mem_append.1 hu with hu | hu
  ·exact h.out u hu
  ·simp at hu
   subst hu
   refine ⟨h1, fun _ hwh => ?_⟩
   unfold St.whole at hwh
   rw [h4] at hwh
   have : Tk.none.text.size = 0 := rfl
   rw [this] at hwh
   simp at hwh
theorem zq115 {P : Prop} (h : P := by
 unfold Bo
 split
 ·rename_i r w e he
  rw [he] at h2
  exact h2
 ·rename_i r he
  rw [he] at h2
  exact h2) : P := h
theorem EV (t : ByteArray) : (∀ s ∈ (Bo t).1, SIn 16384 s ∧ s.Good) ∧ (Bo t).1.length ≤ 16384 := by
 have h0 : RIn 0 ⟨[], none, none, 9, false⟩ := ⟨by simp, by simp, by simp, by simp⟩
 have h := KM (BM t).1 0 _ h0 (Fx t)
 have h2 := (h.mono (m := 16384) (by have := Mn t; omega)).all
 exact zq115
end Go.Proofs.YtbfbgfpghkijdaaGreatDoor
namespace Go.Proofs.YtbfbgfpghkijdaaGreatDoor
open Go.RowKit
theorem IV {L : Ld} {x : Tk} (h : AJ x.text L.tbl.active = none) : L.symbol x = .error (x, 30) := by unfold Ld.symbol; rw [h]
theorem II {L : Ld} {x : Tk} {n : Nat} (h : AJ x.text L.tbl.active = some n) : L.symbol x = .ok (n : Int) := by unfold Ld.symbol; rw [h]
theorem Eg {α β : Type} (x : Tk × Nat) (f : α → Ex β) : (Except.error x : Ex α).bind f = .error x := rfl
theorem Ei {α β : Type} (a : α) (f : α → Ex β) : (Except.ok a : Ex α).bind f = f a := rfl
theorem zq58 {P : Prop} (h : P := by
 refine ⟨rfl, ?_⟩
 rw [Hres.out]
 exact ⟨b, rfl, hf, (Hsm.out.trans (Ad.alloc _ _ _)).trans hs⟩) : P := h
theorem zq66 {P : Prop} (h : P := by
 obtain ⟨Av, cv, rfl⟩ := hrow.shape
 have Heq := Kd heq
 have Hrow := Kd hrow
 have Hfr := Kd hfr
 have Hsm := Kd hsm
 clear heq hrow hfr hsm H0
 go_wp2
 go_ret
 rw [Heq.out]
 exact ⟨.slice Av e.length cv, rfl, Hrow.out, Hsm.out, Hfr.out⟩) : P := h
theorem zq122 {P : Prop} (h : P := by
 refine ⟨rfl, ?_⟩
 rw [Hres.out]
 exact ⟨b, rfl, hf, (Hsm.out.trans Hs01.out).trans hs⟩) : P := h
theorem zq123 {P : Prop} (h : P := by
 refine ⟨rfl, ?_⟩
 rw [Hres.out]
 exact ⟨b, rfl, hf, (Hsm.out.trans Hs2.out).trans hs⟩) : P := h
theorem Et (w : World) (l nb t s : Nat) (TA : TA) (A : SA) (M : List Nat) (L : Ld) (h : LR w l nb t s TA A M L.tbl L.scs) (va : Value) (ws : List Tk) (hw : Row w 59 4 va ws.length (AC ws)) (hn : ws.length ≤ 1000000) :
  Calls Tryz.prog 70 #[.pointer (some ⟨l, 0, none⟩), va] w (CV (L.floatGo ws []) w) := by
 obtain ⟨Aw, cw, rfl⟩ := hw.shape
 have H := Kd h
 have Hw := Kd hw
 clear h hw
 go_enter Tryz.func70, Tryz.ntmps70
 go_wp2
 have h0 : P0 w L ws (.slice none 0 0) (.int .i64 0) w := ⟨0, [], Nat.zero_le _, rfl, rfl, World.ownsRow_nil _ _ _ _, by simp [AH, Value.ownBlock], Ad.refl _ _, rfl⟩
 have H0 := Kd h0
 clear h0
 go_loopw [5, 14] (fun v u wr => P0 w L ws v u wr) (fun _ u _ => ws.length - (intOf u).toNat)
 case atStart => exact H0.out
 case round =>
  obtain ⟨k, e, hk, rfl, hek, hrow, hfr, hsm, heq⟩ := hrel
  by_cases hlt : k < ws.length
  ·have hstep := NQ L ws e k hlt
   obtain ⟨g, c, hv, t0, t1, t2, t3, hgl⟩ := DA (Hw.out.same hsm (by simp)) hlt
   cases hv
   have hR := H.out.same hsm
   have l0 := hR.lt.l0
   have n2 := hR.lt.n2
   have l1 := hR.l1
   have ll := World.block_lt_of_cell? _ _ l0
   have nl := World.block_lt_of_cell? _ _ n2
   have hsy := fun (W : World) (hW : Ad [] wr W) => Fu W l nb t TA L.tbl (hR.lt.same hW) ws[k]
   have hvr := fun (W : World) (hW : Ad [] wr W) => FZ W l nb t TA L.tbl (hR.lt.same hW) ws[k]
   have hiv := fun (W : World) (hW : Ad [] wr W) (y : Int) => E1 hR.lt.tbl W hW y
   have hty := fun (W : World) (hW : Ad [] wr W) (v : Int) => Ft W s t A M L.scs (hR.stk.same hW) hR.small v
   have hst72 := fun W => CE W ws[k] 72
   have hst70 := fun W => CE W ws[k] 70
   unfold tkV at hsy hvr hst72 hst70
   rcases Nat.eq_zero_or_pos k with hk0 | hkp
   ·have he0 : e = [] := List.eq_nil_of_length_eq_zero (by omega)
    subst he0
    rw [if_pos rfl] at hstep
    have hkz : ((k : Int) == 0) = true := by rw [beq_iff_eq]; omega
    have HK0 := Kd hk0
    clear hk0 hek
    cases ha : AJ ws[k].text L.tbl.active with
    | none =>
     rw [IV ha, Eg] at hstep
     rw [ha] at hsy
     have Hres := Kd (heq.trans hstep)
     obtain ⟨Av, cv, rfl⟩ := hrow.shape
     have Hsm := Kd hsm
     unfold Oc at hsy
     clear hstep ha heq hrow hfr hsm hR H0 hiv hst72 hst70 hvr hty
     go_wp2_with (go_at_call 122; go_must (refine (hsy _ (Ad.alloc _ _ _)).mono ?_; rintro e w' ⟨b, rfl, hf, hs⟩))
     exact zq58
    | some n =>
     rw [II ha, Ei] at hstep
     rw [ha] at hsy
     unfold Oc at hsy
     dsimp only at hsy
     cases hv : L.tbl.isVar n with
     | true =>
      rw [if_pos hv] at hstep
      have Hres := Kd (heq.trans hstep)
      obtain ⟨Av, cv, rfl⟩ := hrow.shape
      have Hsm := Kd hsm
      have Hv := Kd hv
      clear hstep ha heq hrow hfr hsm hR H0 hst70 hvr hty hv
      go_wp2_with (first
       | (go_at_call 122; go_must (refine (hsy _ (Ad.alloc _ _ _)).mono ?_; rintro e1 W1 ⟨rfl, hs1⟩; have hB1 := hs1.get (Aj wr _) (by simp); obtain ⟨k0, k1, k2, k3, kf⟩ := BV hB1; have hs01 := (Ad.alloc [] wr (Obj.cells #[.string ws[k].text, .int .i64 ws[k].at_.off, .int .i64 ws[k].at_.line, .int .i64 ws[k].at_.col] 59)).trans hs1; have l01 := hs01.cell l0 (by simp); have n21 := hs01.cell n2 (by simp); have l11 := hs01.cell l1 (by simp); have bl1 := Af hB1; have ll1 := Nat.lt_of_lt_of_le ll hs01.size; have nl1 := Nat.lt_of_lt_of_le nl hs01.size; have Hs01 := Kd hs01; clear hs1 hB1 hs01))
       | (go_at_call 30; go_must (refine (hiv _ Hs01.out _).mono ?_; rintro e' W2 ⟨rfl, hw2⟩; obtain rfl := hw2; rw [Hv.out]))
       | (go_at_call 65; go_must (refine (hst72 _).mono ?_; rintro e w' ⟨b, rfl, hf, hs⟩)))
      exact zq122
     | false =>
      rw [if_neg (by rw [hv]; decide)] at hstep
      have Hres := Kd (heq.trans hstep)
      obtain ⟨Av, cv, rfl⟩ := hrow.shape
      have Hrow := Kd hrow
      have Hfr := Kd hfr
      have Hsm := Kd hsm
      have Hv := Kd hv
      clear hstep ha heq hrow hfr hsm hR H0 hst70 hst72 hvr hty hv
      go_wp2_with (first
       | (go_at_call 122; go_must (refine (hsy _ (Ad.alloc _ _ _)).mono ?_; rintro e1 W1 ⟨rfl, hs1⟩; have hB1 := hs1.get (Aj wr _) (by simp); obtain ⟨k0, k1, k2, k3, kf⟩ := BV hB1; have hs01 := (Ad.alloc [] wr (Obj.cells #[.string ws[k].text, .int .i64 ws[k].at_.off, .int .i64 ws[k].at_.line, .int .i64 ws[k].at_.col] 59)).trans hs1; have l01 := hs01.cell l0 (by simp); have n21 := hs01.cell n2 (by simp); have l11 := hs01.cell l1 (by simp); have bl1 := Af hB1; have ll1 := Nat.lt_of_lt_of_le ll hs01.size; have nl1 := Nat.lt_of_lt_of_le nl hs01.size; have Hs01 := Kd hs01; clear hs1 hB1 hs01))
       | (go_at_call 30; go_must (refine (hiv _ Hs01.out _).mono ?_; rintro e' W2 ⟨rfl, hw2⟩; obtain rfl := hw2; rw [Hv.out]))
       | (at_builtin; refine Bh (W := W1) rfl _ _ 24 rfl 3 1 8 _ Tryz.underlying24 Tryz.infoInt' rfl (by decide) (.slice Av ([] : List Int).length cv) _ _ rfl (Hrow.out.same Hs01.out (by simp)) [.int .i64 n] rfl rfl (by simp [Value.oneCell']) (by simp) (by decide) ?_; go_must (intro v6 W6 hr6 hs6 ho6; obtain ⟨A6, c6, rfl⟩ := hr6.shape; have Hr6 := Kd hr6; have Hs6 := Kd hs6; have Ho6 := Kd ho6; clear hr6 hs6 ho6)))
      go_roundw
      case rel =>
       refine ⟨k + 1, [(n : Int)], hlt, by go_num, by rw [HK0.out]; rfl, Hr6.out, Hfr.out.next (Nat.le_trans Hsm.out.size Hs01.out.size) Ho6.out, (Hsm.out.trans Hs01.out).then Hs6.out fun c hc => .inr (Hfr.out c (Option.mem_toList.1 hc)), Hres.out⟩
      case measure => simp [intOf]; omega
   ·have hne : e ≠ [] := by intro he; subst he; simp at hek; omega
    rw [if_neg hne, Oo] at hstep
    have hkz : ((k : Int) == 0) = false := by rw [beq_eq_false_iff_ne]; omega
    cases ha : NF L.tbl ws[k] with
    | error p =>
     obtain ⟨tk, en⟩ := p
     rw [ha, Eg] at hstep
     rw [ha] at hvr
     have Hres := Kd (heq.trans hstep)
     obtain ⟨Av, cv, rfl⟩ := hrow.shape
     have Hsm := Kd hsm
     unfold PQ at hvr
     clear hstep ha heq hrow hfr hsm hR H0 hiv hst72 hst70 hsy hty
     go_wp2_with (go_at_call 114; go_must (refine (hvr _ (Ad.alloc _ _ _)).mono ?_; rintro e w' ⟨b, rfl, hf, hs⟩))
     exact zq58
    | ok n =>
     rw [ha, Ei] at hstep
     rw [ha] at hvr
     unfold PQ at hvr
     dsimp only at hvr
     unfold DQ at hty
     cases hts : CW L.scs n with
     | some x =>
      rw [hts, Option.isSome_some, if_pos rfl] at hstep
      have htn := fun W hW => hty W hW n
      simp only [hts, Option.getD, Option.isSome] at htn
      have Hres := Kd (heq.trans hstep)
      obtain ⟨Av, cv, rfl⟩ := hrow.shape
      have Hsm := Kd hsm
      clear hstep ha heq hrow hfr hsm hR H0 hst72 hsy hiv hts hty
      go_wp2_with (first
       | (go_at_call 114; go_must (refine (hvr _ (Ad.alloc _ _ _)).mono ?_; rintro e1 W1 ⟨rfl, hs1⟩; have hB1 := hs1.get (Aj wr _) (by simp); have hs01 := (Ad.alloc [] wr (Obj.cells #[.string ws[k].text, .int .i64 ws[k].at_.off, .int .i64 ws[k].at_.line, .int .i64 ws[k].at_.col] 59)).trans hs1; have l11 := hs01.cell l1 (by simp); have ll1 := Nat.lt_of_lt_of_le ll hs01.size; have HB1 := Kd hB1; have Hs01 := Kd hs01; clear hs1 hB1 hs01))
       | (go_at_call 123; go_must (refine (htn _ Hs01.out).mono ?_; rintro e' W2 ⟨rfl, hs2⟩; have hB2 := hs2.get HB1.out (by simp); obtain ⟨k0, k1, k2, k3, kf⟩ := BV hB2; have bl2 := Af hB2; have Hs2 := Kd (Hs01.out.trans hs2); clear hs2 hB2))
       | (go_at_call 65; go_must (refine (hst70 _).mono ?_; rintro e w' ⟨b, rfl, hf, hs⟩)))
      exact zq123
     | none =>
      rw [hts, Option.isSome_none, if_neg (by decide)] at hstep
      have htn := fun W hW => hty W hW n
      simp only [hts, Option.getD, Option.isSome] at htn
      have Hres := Kd (heq.trans hstep)
      obtain ⟨Av, cv, rfl⟩ := hrow.shape
      have hel : e.length ≤ 1000000 := by omega
      have Hrow := Kd hrow
      have Hfr := Kd hfr
      have Hsm := Kd hsm
      have Hek := Kd hek
      clear hstep ha heq hrow hfr hsm hR H0 hst72 hst70 hsy hiv hts hty hek
      go_wp2_with (first
       | (go_at_call 114; go_must (refine (hvr _ (Ad.alloc _ _ _)).mono ?_; rintro e1 W1 ⟨rfl, hs1⟩; have hs01 := (Ad.alloc [] wr (Obj.cells #[.string ws[k].text, .int .i64 ws[k].at_.off, .int .i64 ws[k].at_.line, .int .i64 ws[k].at_.col] 59)).trans hs1; have l11 := hs01.cell l1 (by simp); have ll1 := Nat.lt_of_lt_of_le ll hs01.size; have Hs01 := Kd hs01; clear hs1 hs01))
       | (go_at_call 123; go_must (refine (htn _ Hs01.out).mono ?_; rintro e' W2 ⟨rfl, hs2⟩; have Hs2 := Kd (Hs01.out.trans hs2); clear hs2))
       | (at_builtin; refine Bh (W := W2) rfl _ _ 24 rfl 3 1 8 _ Tryz.underlying24 Tryz.infoInt' rfl (by decide) (.slice Av e.length cv) _ _ rfl (Hrow.out.same Hs2.out (by simp)) [.int .i64 n] rfl rfl (by simp [Value.oneCell']) (by omega) (by decide) ?_; go_must (intro v6 W6 hr6 hs6 ho6; obtain ⟨A6, c6, rfl⟩ := hr6.shape; have Hr6 := Kd hr6; have Hs6 := Kd hs6; have Ho6 := Kd ho6; clear hr6 hs6 ho6)))
      go_roundw
      case rel =>
       refine ⟨k + 1, e ++ [n], hlt, by go_num, by rw [List.length_append, Hek.out]; rfl, by rw [Cq, List.length_append]; exact Hr6.out, Hfr.out.next (Nat.le_trans Hsm.out.size Hs2.out.size) Ho6.out, (Hsm.out.trans Hs2.out).then Hs6.out fun c hc => .inr (Hfr.out c (Option.mem_toList.1 hc)), Hres.out⟩
      case measure => simp [intOf]; omega
  ·have hkk : k = ws.length := by omega
   subst hkk
   rw [List.drop_length, Ld.floatGo] at heq
   exact zq66
theorem OL (L : Ld) (ws : List Tk) (e : List Int) (k : Nat) (hk : k < ws.length) : L.exprGo (ws.drop k) e = if e.length = 200 then .error (ws[k], 31) else (L.symbol ws[k]).bind fun n =>
  if L.tbl.isVar n = true then (if e = [] then .error (ws[k], 72) else if (CW L.scs n).isSome then L.exprGo (ws.drop (k + 1)) (e ++ [n]) else .error (ws[k], 70))
  else L.exprGo (ws.drop (k + 1)) (e ++ [n]) := by
 rw [List.drop_eq_getElem_cons hk, Ld.exprGo]
def Q3 (w : World) (L : Ld) (ws : List Tk) (v u : Value) (W : World) : Prop :=
 ∃ (k : Nat) (e : List Int), k ≤ ws.length ∧ u = .int .i64 k ∧ e.length = k ∧ Row W 3 1 v e.length (Ay e) ∧ AH w v ∧ Ad [] w W ∧ L.exprGo ws [] = L.exprGo (ws.drop k) e
theorem B6 (w : World) (l nb t s : Nat) (TA : TA) (A : SA) (M : List Nat) (L : Ld) (h : LR w l nb t s TA A M L.tbl L.scs) (va : Value) (ws : List Tk) (hw : Row w 59 4 va ws.length (AC ws)) (hn : ws.length ≤ 1000000) :
  Calls Tryz.prog 73 #[.pointer (some ⟨l, 0, none⟩), va] w (CV (L.exprGo ws []) w) := by
 obtain ⟨Aw, cw, rfl⟩ := hw.shape
 have H := Kd h
 have Hw := Kd hw
 clear h hw
 go_enter Tryz.func73, Tryz.ntmps73
 go_wp2
 have h0 : Q3 w L ws (.slice none 0 0) (.int .i64 0) w := ⟨0, [], Nat.zero_le _, rfl, rfl, World.ownsRow_nil _ _ _ _, by simp [AH, Value.ownBlock], Ad.refl _ _, rfl⟩
 have H0 := Kd h0
 clear h0
 go_loopw [5, 13] (fun v u wr => Q3 w L ws v u wr) (fun _ u _ => ws.length - (intOf u).toNat)
 case atStart => exact H0.out
 case round =>
  obtain ⟨k, e, hk, rfl, hek, hrow, hfr, hsm, heq⟩ := hrel
  by_cases hlt : k < ws.length
  ·have hstep := OL L ws e k hlt
   obtain ⟨g, c, hv, t0, t1, t2, t3, hgl⟩ := DA (Hw.out.same hsm (by simp)) hlt
   cases hv
   have hR := H.out.same hsm
   have l0 := hR.lt.l0
   have n2 := hR.lt.n2
   have l1 := hR.l1
   have ll := World.block_lt_of_cell? _ _ l0
   have nl := World.block_lt_of_cell? _ _ n2
   have hsy := fun (W : World) (hW : Ad [] wr W) => Fu W l nb t TA L.tbl (hR.lt.same hW) ws[k]
   have hiv := fun (W : World) (hW : Ad [] wr W) (y : Int) => E1 hR.lt.tbl W hW y
   have hty := fun (W : World) (hW : Ad [] wr W) (v : Int) => Ft W s t A M L.scs (hR.stk.same hW) hR.small v
   have hst := fun W n => CE W ws[k] n
   unfold tkV at hsy hst
   unfold DQ at hty
   by_cases h200 : k = 200
   ·rw [if_pos (by omega)] at hstep
    have hkz : ((k : Int) == 200) = true := by rw [beq_iff_eq]; omega
    clear h200 hek
    have Hres := Kd (heq.trans hstep)
    obtain ⟨Av, cv, rfl⟩ := hrow.shape
    have Hsm := Kd hsm
    clear hstep heq hrow hfr hsm hR H0 hiv hty hsy
    go_wp2_with (go_at_call 65; go_must (refine (hst _ 31).mono ?_; rintro e w' ⟨b, rfl, hf, hs⟩))
    exact zq58
   ·rw [if_neg (by omega)] at hstep
    have hkz : ((k : Int) == 200) = false := by rw [beq_eq_false_iff_ne]; omega
    cases ha : AJ ws[k].text L.tbl.active with
    | none =>
     rw [IV ha, Eg] at hstep
     rw [ha] at hsy
     have Hres := Kd (heq.trans hstep)
     obtain ⟨Av, cv, rfl⟩ := hrow.shape
     have Hsm := Kd hsm
     unfold Oc at hsy
     clear hstep ha heq hrow hfr hsm hR H0 hiv hst hty
     go_wp2_with (go_at_call 122; go_must (refine (hsy _ (Ad.alloc _ _ _)).mono ?_; rintro e w' ⟨b, rfl, hf, hs⟩))
     exact zq58
    | some n =>
     rw [II ha, Ei] at hstep
     rw [ha] at hsy
     unfold Oc at hsy
     dsimp only at hsy
     cases hv : L.tbl.isVar n with
     | false =>
      rw [if_neg (by rw [hv]; decide)] at hstep
      have Hres := Kd (heq.trans hstep)
      obtain ⟨Av, cv, rfl⟩ := hrow.shape
      have hel : e.length ≤ 1000000 := by omega
      have Hrow := Kd hrow
      have Hfr := Kd hfr
      have Hsm := Kd hsm
      have Hv := Kd hv
      have Hek := Kd hek
      clear hstep ha heq hrow hfr hsm hR H0 hst hty hv hek
      go_wp2_with (first
       | (go_at_call 122; go_must (refine (hsy _ (Ad.alloc _ _ _)).mono ?_; rintro e1 W1 ⟨rfl, hs1⟩; have hB1 := hs1.get (Aj wr _) (by simp); obtain ⟨k0, k1, k2, k3, kf⟩ := BV hB1; have hs01 := (Ad.alloc [] wr (Obj.cells #[.string ws[k].text, .int .i64 ws[k].at_.off, .int .i64 ws[k].at_.line, .int .i64 ws[k].at_.col] 59)).trans hs1; have l01 := hs01.cell l0 (by simp); have n21 := hs01.cell n2 (by simp); have l11 := hs01.cell l1 (by simp); have bl1 := Af hB1; have ll1 := Nat.lt_of_lt_of_le ll hs01.size; have nl1 := Nat.lt_of_lt_of_le nl hs01.size; have Hs01 := Kd hs01; clear hs1 hB1 hs01))
       | (go_at_call 30; go_must (refine (hiv _ Hs01.out _).mono ?_; rintro e' W2 ⟨rfl, hw2⟩; obtain rfl := hw2; rw [Hv.out]))
       | (at_builtin; refine Bh (W := W1) rfl _ _ 24 rfl 3 1 8 _ Tryz.underlying24 Tryz.infoInt' rfl (by decide) (.slice Av e.length cv) _ _ rfl (Hrow.out.same Hs01.out (by simp)) [.int .i64 n] rfl rfl (by simp [Value.oneCell']) (by omega) (by decide) ?_; go_must (intro v6 W6 hr6 hs6 ho6; obtain ⟨A6, c6, rfl⟩ := hr6.shape; have Hr6 := Kd hr6; have Hs6 := Kd hs6; have Ho6 := Kd ho6; clear hr6 hs6 ho6)))
      go_roundw
      case rel =>
       refine ⟨k + 1, e ++ [(n : Int)], hlt, by go_num, by rw [List.length_append, Hek.out]; rfl, by rw [Cq, List.length_append]; exact Hr6.out, Hfr.out.next (Nat.le_trans Hsm.out.size Hs01.out.size) Ho6.out, (Hsm.out.trans Hs01.out).then Hs6.out fun c hc => .inr (Hfr.out c (Option.mem_toList.1 hc)), Hres.out⟩
      case measure => simp [intOf]; omega
     | true =>
      rw [if_pos hv] at hstep
      rcases Nat.eq_zero_or_pos k with hk0 | hkp
      ·have he0 : e = [] := List.eq_nil_of_length_eq_zero (by omega)
       rw [if_pos he0] at hstep
       have hk0' : ((k : Int) == 0) = true := by rw [beq_iff_eq]; omega
       clear hk0 hek
       have Hres := Kd (heq.trans hstep)
       obtain ⟨Av, cv, rfl⟩ := hrow.shape
       have Hsm := Kd hsm
       have Hv := Kd hv
       clear hstep ha heq hrow hfr hsm hR H0 hty hv he0
       go_wp2_with (first
        | (go_at_call 122; go_must (refine (hsy _ (Ad.alloc _ _ _)).mono ?_; rintro e1 W1 ⟨rfl, hs1⟩; have hB1 := hs1.get (Aj wr _) (by simp); obtain ⟨k0, k1, k2, k3, kf⟩ := BV hB1; have hs01 := (Ad.alloc [] wr (Obj.cells #[.string ws[k].text, .int .i64 ws[k].at_.off, .int .i64 ws[k].at_.line, .int .i64 ws[k].at_.col] 59)).trans hs1; have l01 := hs01.cell l0 (by simp); have n21 := hs01.cell n2 (by simp); have l11 := hs01.cell l1 (by simp); have bl1 := Af hB1; have ll1 := Nat.lt_of_lt_of_le ll hs01.size; have nl1 := Nat.lt_of_lt_of_le nl hs01.size; have Hs01 := Kd hs01; clear hs1 hB1 hs01))
        | (go_at_call 30; go_must (refine (hiv _ Hs01.out _).mono ?_; rintro e' W2 ⟨rfl, hw2⟩; obtain rfl := hw2; rw [Hv.out]))
        | (go_at_call 65; go_must (refine (hst _ 72).mono ?_; rintro e w' ⟨b, rfl, hf, hs⟩)))
       exact zq122
      ·have hne : e ≠ [] := by intro he; subst he; simp at hek; omega
       rw [if_neg hne] at hstep
       have hk0' : ((k : Int) == 0) = false := by rw [beq_eq_false_iff_ne]; omega
       cases hts : CW L.scs (n : Int) with
       | none =>
        rw [hts, Option.isSome_none, if_neg (by decide)] at hstep
        have htn := fun W hW => hty W hW (n : Int)
        simp only [hts, Option.getD, Option.isSome] at htn
        have Hres := Kd (heq.trans hstep)
        obtain ⟨Av, cv, rfl⟩ := hrow.shape
        have Hsm := Kd hsm
        have Hv := Kd hv
        clear hstep ha heq hrow hfr hsm hR H0 hts hty hv hne
        go_wp2_with (first
         | (go_at_call 122; go_must (refine (hsy _ (Ad.alloc _ _ _)).mono ?_; rintro e1 W1 ⟨rfl, hs1⟩; have hB1 := hs1.get (Aj wr _) (by simp); have hs01 := (Ad.alloc [] wr (Obj.cells #[.string ws[k].text, .int .i64 ws[k].at_.off, .int .i64 ws[k].at_.line, .int .i64 ws[k].at_.col] 59)).trans hs1; have l01 := hs01.cell l0 (by simp); have n21 := hs01.cell n2 (by simp); have l11 := hs01.cell l1 (by simp); have HB1 := Kd hB1; have ll1 := Nat.lt_of_lt_of_le ll hs01.size; have nl1 := Nat.lt_of_lt_of_le nl hs01.size; have Hs01 := Kd hs01; clear hs1 hB1 hs01))
         | (go_at_call 30; go_must (refine (hiv _ Hs01.out _).mono ?_; rintro e' W2 ⟨rfl, hw2⟩; obtain rfl := hw2; rw [Hv.out]))
         | (go_at_call 123; go_must (refine (htn _ Hs01.out).mono ?_; rintro e' W2 ⟨rfl, hs2⟩; have hB2 := hs2.get HB1.out (by simp); obtain ⟨k0, k1, k2, k3, kf⟩ := BV hB2; have bl2 := Af hB2; have Hs2 := Kd (Hs01.out.trans hs2); clear hs2 hB2))
         | (go_at_call 65; go_must (refine (hst _ 70).mono ?_; rintro e w' ⟨b, rfl, hf, hs⟩)))
        exact zq123
       | some x =>
        rw [hts, Option.isSome_some, if_pos rfl] at hstep
        have htn := fun W hW => hty W hW (n : Int)
        simp only [hts, Option.getD, Option.isSome] at htn
        have Hres := Kd (heq.trans hstep)
        obtain ⟨Av, cv, rfl⟩ := hrow.shape
        have hel : e.length ≤ 1000000 := by omega
        have Hrow := Kd hrow
        have Hfr := Kd hfr
        have Hsm := Kd hsm
        have Hv := Kd hv
        have Hek := Kd hek
        clear hstep ha heq hrow hfr hsm hR H0 hst hts hty hv hne hek
        go_wp2_with (first
         | (go_at_call 122; go_must (refine (hsy _ (Ad.alloc _ _ _)).mono ?_; rintro e1 W1 ⟨rfl, hs1⟩; have hB1 := hs1.get (Aj wr _) (by simp); have hs01 := (Ad.alloc [] wr (Obj.cells #[.string ws[k].text, .int .i64 ws[k].at_.off, .int .i64 ws[k].at_.line, .int .i64 ws[k].at_.col] 59)).trans hs1; have l01 := hs01.cell l0 (by simp); have n21 := hs01.cell n2 (by simp); have l11 := hs01.cell l1 (by simp); have HB1 := Kd hB1; have ll1 := Nat.lt_of_lt_of_le ll hs01.size; have nl1 := Nat.lt_of_lt_of_le nl hs01.size; have Hs01 := Kd hs01; clear hs1 hB1 hs01))
         | (go_at_call 30; go_must (refine (hiv _ Hs01.out _).mono ?_; rintro e' W2 ⟨rfl, hw2⟩; obtain rfl := hw2; rw [Hv.out]))
         | (go_at_call 123; go_must (refine (htn _ Hs01.out).mono ?_; rintro e' W3 ⟨rfl, hs2⟩; have Hs2 := Kd (Hs01.out.trans hs2); clear hs2))
         | (at_builtin; refine Bh (W := W3) rfl _ _ 24 rfl 3 1 8 _ Tryz.underlying24 Tryz.infoInt' rfl (by decide) (.slice Av e.length cv) _ _ rfl (Hrow.out.same Hs2.out (by simp)) [.int .i64 n] rfl rfl (by simp [Value.oneCell']) (by omega) (by decide) ?_; go_must (intro v6 W6 hr6 hs6 ho6; obtain ⟨A6, c6, rfl⟩ := hr6.shape; have Hr6 := Kd hr6; have Hs6 := Kd hs6; have Ho6 := Kd ho6; clear hr6 hs6 ho6)))
        go_roundw
        case rel =>
         refine ⟨k + 1, e ++ [(n : Int)], hlt, by go_num, by rw [List.length_append, Hek.out]; rfl, by rw [Cq, List.length_append]; exact Hr6.out, Hfr.out.next (Nat.le_trans Hsm.out.size Hs2.out.size) Ho6.out, (Hsm.out.trans Hs2.out).then Hs6.out fun c hc => .inr (Hfr.out c (Option.mem_toList.1 hc)), Hres.out⟩
        case measure => simp [intOf]; omega
  ·have hkk : k = ws.length := by omega
   subst hkk
   rw [List.drop_length, Ld.exprGo] at heq
   exact zq66
end Go.Proofs.YtbfbgfpghkijdaaGreatDoor
