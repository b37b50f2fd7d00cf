/- lemmalaw texts, part 42. -/
import Derived.Test.YtbfbgfpghkijdaaGreatDoorYbo
set_option maxRecDepth 100000
set_option linter.unusedVariables false
set_option linter.unusedSimpArgs false
set_option maxHeartbeats 32000000
namespace Go.Proofs.YtbfbgfpghkijdaaGreatDoor
open Go.RowKit
theorem C5.capLe {w : World} {e n c : Nat} {A : Option Addr} {xs : List Value} (h : C5 w e (.slice A n c) n xs) : n ≤ c := by
 rcases h.2 with ⟨h1, h2⟩ | ⟨g, cap, cur, h1, h2, h3, _⟩
 ·omega
 ·cases h1; exact h3
theorem KT {α β : Type} {P : α → β → Prop} : ∀ {l : List α} {m : List β} (k : Nat), Bm P l m → Bm P (l.drop k) (m.drop k)
 | [], [], k, _ => by simp; trivial
 | a :: l, b :: m, 0, h => h
 | a :: l, b :: m, k + 1, h => KT k h.2
 | [], _ :: _, _, h => h.elim
 | _ :: _, [], _, h => h.elim
theorem K0 {α β : Type} {P : α → β → Prop} : ∀ {l : List α} {m : List β} (k : Nat), Bm P l m → Bm P (l.take k) (m.take k)
 | [], [], k, _ => by simp; trivial
 | a :: l, b :: m, 0, h => trivial
 | a :: l, b :: m, k + 1, h => ⟨h.1, K0 k h.2⟩
 | [], _ :: _, _, h => h.elim
 | _ :: _, [], _, h => h.elim
theorem B3.top {w : World} {m nb : Nat} {M : MP} {ps : List Pr} {goal : List Int} {st : Stk} (h : B3 w m nb M ps goal st) {A : Option Addr} {c r k : Nat} (hev : M.ev = .slice A (r + k) c) (hn : st.entries.length = r + k) :
  (k = 0 → JH w (.slice A 0 0) (M.evs.drop r) (st.entries.drop r)) ∧ (k ≠ 0 → ∃ g, A = some ⟨g, 0, none⟩ ∧ JH w (.slice (some ⟨g, r, none⟩) k k) (M.evs.drop r) (st.entries.drop r)) := by
 have hx : Bm (fun e ev => Seg w ev e) (st.entries.drop r) (M.evs.drop r) := KT r (h.exs.imp fun _ _ h => Seg.of_row h)
 have hl : (st.entries.drop r).length = k := by rw [List.length_drop]; omega
 have hel : M.evs.length = r + k := by rw [h.exs.len, hn]
 have hs := h.ents.sub
 rw [hev, hn] at hs
 constructor
 ·intro hk
  subst hk
  refine ⟨?_, hx⟩
  have h0 : st.entries.drop r = [] := List.eq_nil_of_length_eq_zero hl
  rw [h0]
  rcases hs with ⟨h1, h2⟩ | hs
  ·cases h1; exact .inl ⟨rfl, rfl⟩
  ·obtain ⟨g, off, c', h1, h2, h3, h4⟩ := hs.ex
   cases h1
   have e0 : M.evs.drop r = [] := List.eq_nil_of_length_eq_zero (by rw [List.length_drop]; omega)
   rw [e0]
   exact .inr ⟨rfl, g, off, 0, rfl, Nat.le_refl _, h3, fun j u hj => by simp at hj⟩
 ·intro hk
  rcases hs with ⟨h1, h2⟩ | hs
  ·omega
  ·obtain ⟨g, off, c', h1, h2, h3, h4⟩ := hs.ex
   have hg : off = 0 := by
    have he := h.ents.2
    rw [hev, hn] at he
    rcases he with ⟨h5, _⟩ | ⟨g', cap, cur, h5, _⟩
    ·rw [h1] at h5; cases h5
    ·rw [h1] at h5; cases h5; rfl
   subst hg
   cases h1
   refine ⟨g, rfl, .inr ⟨by rw [List.length_drop, hel, hl]; omega, g, r, k, by rw [hl], by omega, h3, fun j u hj => ?_⟩, hx⟩
   rw [List.getElem?_drop] at hj
   have := h4 _ _ hj
   rw [Nat.zero_add] at this
   exact this
theorem PE {vars : Int → Bool} {ps : List Pr} {st : Stk} {H : List Hy} {fps : List Pr} {g : List Int} {r : Nat} (hr : st.entries.length = r + H.length) : st.apply vars ps H fps g = match Bp H (st.entries.drop r) with
  | none => (114, st)
  | some s => if ¬ (s.map (·.1)).Nodup then (114, st) else if BO s H (st.entries.drop r) = false then (115, st) else if fps.all (C8 vars ps s) = false then (116, st) else if 200 < (A0 s g).length then (31, st) else if 40 ≤ r then (117, st) else (0, st.applied r (A0 s g)) := by
 unfold Stk.apply
 rw [if_neg (by omega), show st.entries.length - H.length = r by omega]
 cases Bp H (st.entries.drop r) <;> rfl
theorem zq72 {P : Prop} (h : P := by
 intro l
 induction l with
 | nil => intro h; simp [AJ] at h
 | cons p l ih =>
  obtain ⟨k, u⟩ := p
  intro h
  unfold AJ at h
  split at h
  ·rename_i e; subst e; cases h; simp
  ·exact List.mem_cons_of_mem _ (ih h)) : P := h
theorem O1 {s b : Bx} (h : s.Perm b) (hn : (b.map (·.1)).Nodup) (x : Int) : AJ x s = AJ x b := by
 have hs : (s.map (·.1)).Nodup := (h.map _).nodup_iff.2 hn
 cases ha : AJ x b with
 | none =>
  rw [DB] at ha ⊢
  exact fun hm => ha ((h.map _).mem_iff.1 hm)
 | some v =>
  have hmem : (x, v) ∈ b := by
   have key : ∀ l : Bx, AJ x l = some v → (x, v) ∈ l := by
    exact zq72
   exact key b ha
  obtain ⟨j, hj, e⟩ := List.getElem_of_mem (h.mem_iff.2 hmem)
  have := G2 hj hs
  rw [e] at this
  exact this
theorem Oh {s b : Bx} (h : s.Perm b) (hn : (b.map (·.1)).Nodup) : BH s = BH b := by
 funext x
 unfold BH
 rw [O1 h hn]
theorem KV {s b : Bx} (h : BH s = BH b) : A0 s = A0 b := by
 funext e
 unfold A0
 rw [h]
theorem Jl {s b : Bx} (h : BH s = BH b) : ∀ (H : List Hy) (L : List (List Int)), BO s H L = BO b H L
 | x :: H, e :: L => by unfold BO; rw [Jl h H L, KV h]
 | [], [] => rfl
 | [], _ :: _ => rfl
 | _ :: _, [] => rfl
theorem OY {vars : Int → Bool} {ps : List Pr} {s b : Bx} (h : BH s = BH b) : C8 vars ps s = C8 vars ps b := by
 funext p
 unfold C8
 rw [h]
theorem Mh (s : Bx) (h : Hy) (e : List Int) : ∀ (f : List Hy) (l : List (List Int)), f.length = l.length → BO s (f ++ [h]) (l ++ [e]) = (BO s f l && (h.floating || A0 s h.expr == e))
 | [], [], _ => by simp [BO]
 | x :: f, y :: l, hl => by
  have ih := Mh s h e f l (by simpa using hl)
  simp only [List.cons_append, BO, ih, Bool.and_assoc]
 | [], _ :: _, hl => by simp at hl
 | _ :: _, [], hl => by simp at hl
theorem Ox (s : Bx) : ∀ (f f' : List Hy) (l l' : List (List Int)), f.length = l.length → BO s f l = false → BO s (f ++ f') (l ++ l') = false
 | [], _, [], _, _, h => by simp [BO] at h
 | x :: f, f', y :: l, l', hl, h => by
  simp only [List.cons_append, BO, Bool.and_eq_false_iff] at h ⊢
  rcases h with h | h
  ·exact .inl h
  ·exact .inr (Ox s f f' l l' (by simpa using hl) h)
 | [], _, _ :: _, _, hl, _ => by simp at hl
 | _ :: _, _, [], _, hl, _ => by simp at hl
theorem Qa {s : Bx} {H : List Hy} {L : List (List Int)} (hl : H.length = L.length) {k : Nat} (hk : k < H.length) : BO s (H.take (k + 1)) (L.take (k + 1)) = (BO s (H.take k) (L.take k) && (H[k].floating || A0 s H[k].expr == L[k]'(by omega))) := by
 rw [List.take_succ_eq_append_getElem hk, List.take_succ_eq_append_getElem (by omega), Mh _ _ _ _ _ (by rw [List.length_take, List.length_take, hl])]
theorem PD {s : Bx} {H : List Hy} {L : List (List Int)} (hl : H.length = L.length) {k : Nat} (h : BO s (H.take (k + 1)) (L.take (k + 1)) = false) : BO s H L = false := by
 have := Ox s (H.take (k + 1)) (H.drop (k + 1)) (L.take (k + 1)) (L.drop (k + 1)) (by rw [List.length_take, List.length_take, hl]) h
 rw [List.take_append_drop, List.take_append_drop] at this
 exact this
theorem Ir : ∀ {H : List Hy} {L : List (List Int)} {b : Bx}, Bp H L = some b → ∀ y ∈ b, ∃ e ∈ L, y.2.length ≤ e.length
 | [], _, b, h, y, hy => by simp [Bp] at h; subst h; simp at hy
 | _ :: _, [], b, h, y, hy => by simp [Bp] at h
 | x :: H, e :: L, b, h, y, hy => by
  unfold Bp at h
  split at h
  ·obtain ⟨e', h1, h2⟩ := Ir h y hy
   exact ⟨e', List.mem_cons_of_mem _ h1, h2⟩
  ·cases e with
   | nil => cases h
   | cons a r =>
    dsimp only at h
    split at h
    ·obtain ⟨b', hb, rfl⟩ := Option.map_eq_some_iff.1 h
     rcases List.mem_cons.1 hy with rfl | hy
     ·exact ⟨_, List.mem_cons_self .., by simp⟩
     ·obtain ⟨e', h1, h2⟩ := Ir hb y hy
      exact ⟨e', List.mem_cons_of_mem _ h1, h2⟩
    ·cases h
theorem PS {s : Bx} (h : ∀ y ∈ s, y.2.length ≤ 100000) (x : Int) : (BH s x).length ≤ 100000 := by
 unfold BH
 have key : ∀ l : Bx, (∀ y ∈ l, y.2.length ≤ 100000) → ((AJ x l).getD [x]).length ≤ 100000 := by
  intro l
  induction l with
  | nil => intro _; simp [AJ]
  | cons p l ih =>
   intro hl
   unfold AJ
   split
   ·exact hl p (List.mem_cons_self ..)
   ·exact ih fun y hy => hl y (List.mem_cons_of_mem _ hy)
 exact key s h
theorem MX {α : Type} (f g : α → Bool) (h : ∀ x, f x = !g x) (l : List α) : (l.find? f).isSome = !l.all g := by
 induction l with
 | nil => rfl
 | cons a l ih =>
  simp only [List.find?_cons, List.all_cons, h a]
  cases g a <;> simp [ih]
theorem B3.cutAt {w W7 : World} {m nb : Nat} {M : MP} {ps : List Pr} {goal : List Int} {st : Stk} (h : B3 w m nb M ps goal st) {A : Option Addr} {c r k : Nat} (hev : M.ev = .slice A (r + k) c) (hn : st.entries.length = r + k) (hs : Ad [] w W7) :
  B3 (W7.setCell ⟨m, 3, none⟩ (.slice A r r)) m nb ⟨M.pv, M.gv, .slice A r r, M.evs.take r⟩ ps goal { st with entries := st.entries.take r } ∧ Ad (M.own m) w (W7.setCell ⟨m, 3, none⟩ (.slice A r r)) := by
 have hsm : Ad (M.own m) w (W7.setCell ⟨m, 3, none⟩ (.slice A r r)) := by
  unfold MP.own
  have h1 : Ad (m :: M.ev.ownBlock.toList) w W7 := hs.mono (by simp)
  exact h1.set _ _ (List.mem_cons_self ..)
 have hle : r ≤ r + k := by omega
 have hlen : (st.entries.take r).length = r := by rw [List.length_take]; omega
 refine ⟨h.turn hsm _ _ ?_ ?_ ?_ ?_ h.npeak h.ncnt, hsm⟩
 ·have h1 := AI (h.same hs).blk 3 (.slice A r r)
  exact zq79
 ·have he := h.ents
  rw [hev, hn] at he
  have h2 := (he.cut hle).same hs (by simp)
  show C5 _ _ _ (st.entries.take r).length _
  rw [hlen]
  exact h2.same (Ad.setCell (S := [m]) W7 ⟨m, 3, none⟩ _ (by simp)) fun b hb hm => by
   rw [List.mem_singleton] at hm
   subst hm
   exact h2.ne (h.same hs).blk (by decide) hb
 ·exact K0 r (h.exs.imp fun _ _ hr => h.keep hsm hr (by decide) (by decide))
 ·have := h.nent
  show (st.entries.take r).length ≤ 40
  rw [List.length_take]
  omega
theorem B3.counted {w : World} {m nb : Nat} {M : MP} {ps : List Pr} {goal : List Int} {st : Stk} (h : B3 w m nb M ps goal st) (hc : st.count < 1000000) :
  B3 (w.setCell ⟨m, 5, none⟩ (.int .i64 ((st.count : Int) + 1))) m nb M ps goal { st with count := st.count + 1 } ∧ Ad (M.own m) w (w.setCell ⟨m, 5, none⟩ (.int .i64 ((st.count : Int) + 1))) := by
 have hsm : Ad (M.own m) w (w.setCell ⟨m, 5, none⟩ (.int .i64 ((st.count : Int) + 1))) := Ad.setCell _ _ _ (List.mem_cons_self ..)
 refine ⟨h.turn hsm M.ev M.evs ?_ ?_ (h.exs.imp fun _ _ hr => h.keep hsm hr (by decide) (by decide)) h.nent h.npeak hc, hsm⟩
 ·have h1 := AI h.blk 5 (.int .i64 ((st.count : Int) + 1))
  exact zq79
 ·exact h.ents.same (Ad.setCell (S := [m]) _ _ _ (by simp)) fun b hb hm => by
   rw [List.mem_singleton] at hm
   subst hm
   exact h.ents.ne h.blk (by decide) hb
def RV (m nb : Nat) (M : MP) (ps : List Pr) (goal : List Int) (x : Nat × Stk) (w : World) (r : Ending) (w' : World) : Prop := r = .returned (.int .i64 x.1) ∧ Dt m nb M ps goal x.2 w w'
theorem zq69 {P : Prop} (h : P := by
 go_wp2_with (go_at_call 143; go_must (refine (hbn _ (Ad.refl _ _)).mono ?_; rintro e2 W2 ⟨hs2, rfl⟩; have Hs2 := Kd hs2; clear hs2))
 go_ret
 rw [Hap.out]
 exact ⟨rfl, Dt.of_same Hh.out (((Hw1.out.trans Hs2.out).alloc' _))⟩) : P := h
theorem zq132 {P : Prop} (h : P := by
 go_ret
 rw [Hap.out]
 exact ⟨rfl, Dt.of_same Hh.out (Hw6.out.trans Hs7.out)⟩) : P := h
theorem Lp (w : World) (m nb : Nat) (vars : Int → Bool) (hvs : Ik w nb vars) (M : MP) (ps : List Pr) (goal : List Int) (st : Stk) (h : B3 w m nb M ps goal st) (fh fp fg : Value) (H : List Hy) (fps : List Pr) (fgoal : List Int) (hf : Kj w fh fp fg H fps fgoal)
  (hn0 : H.length ≤ 1000000) (hn2 : fps.length ≤ 1000000) (hn3 : ps.length ≤ 1000000) (hn4 : fgoal.length ≤ 1000000) (hse : ∀ e ∈ st.entries, e.length ≤ 100000) (hhe : ∀ x ∈ H, x.expr.length ≤ 1000000) (hcnt : st.count < 1000000) :
  Calls Tryz.prog 99 #[.pointer (some ⟨m, 0, none⟩), .agg #[fh, fp, fg]] w (RV m nb M ps goal (st.apply vars ps H fps fgoal) w) := by
 obtain ⟨c0, c1, c2, c3, c4, c5, cf⟩ := JD h.blk
 have cl := Af h.blk
 have hn := h.nent
 obtain ⟨Ae, ce, hev⟩ := h.ents.shape
 obtain ⟨hevs, hh⟩ := hf.hyps
 obtain ⟨Ah, ch, rfl⟩ := hh.row.shape
 have Hh := Kd h
 have Hf := Kd hf
 have Hvs := Kd hvs
 by_cases hun : st.entries.length < H.length
 ·have hp : st.apply vars ps H fps fgoal = (113, st) := if_pos hun
  rw [hp]
  rw [hev] at c3
  have hlt : (st.entries.length : Int) - H.length < 0 := by omega
  clear h hf hvs hh hp hev
  go_enter Tryz.func99, Tryz.ntmps99
  go_wp2
  go_quiet (fail)
  go_wp2
  go_ret
  exact ⟨rfl, Dt.of_same Hh.out ((Ad.alloc [] _ _).trans (Ad.drewN [] _ _))⟩
 ·obtain ⟨r, hr⟩ : ∃ r, st.entries.length = r + H.length := ⟨st.entries.length - H.length, by omega⟩
  have hn1 : H.length ≤ 100000 := by omega
  rw [hr] at hev
  rw [hev] at c3
  have hcap : r + H.length ≤ ce := by
   have he := h.ents
   rw [hev, hr] at he
   exact he.capLe
  have hr40 : r ≤ 40 := by omega
  have Hev := Kd hev
  have Hr := Kd hr
  clear h hf hvs hh hev hr hun
  go_enter Tryz.func99, Tryz.ntmps99
  go_wp2
  go_quiet (fail)
  go_upto_region 4 with fail
  have hwl := (Ad.alloc [] w (.cells #[.slice Ah H.length ch, fp, fg] 67)).trans (Ad.drewN [] _ nq)
  have hBf : ((w.alloc (.cells #[.slice Ah H.length ch, fp, fg] 67)).drewN nq).heap[w.heap.size]? = some (.cells #[.slice Ah H.length ch, fp, fg] 67 (0, 0)) := (Jq _ _ _).trans (Aj _ _)
  generalize (w.alloc (.cells #[.slice Ah H.length ch, fp, fg] 67)).drewN nq = W0 at hwl hBf ⊢
  have hM0 := Hh.out.same hwl
  clear c0 c1 c2 c3 c4 c5 cf cl
  obtain ⟨c0, c1, c2, c3, c4, c5, cf⟩ := JD hM0.blk
  have cl := Af hM0.blk
  rw [Hev.out] at c3
  obtain ⟨b0, b1, b2, bf⟩ := Er hBf
  have bl := Af hBf
  have HM0 := Kd hM0
  have HBf := Kd hBf
  have Hwl := Kd hwl
  have htop := HM0.out.top Hev.out Hr.out
  have Htop := Kd htop
  clear hM0 hBf hwl htop
  go_cut [6] (fun v wx => Ad [] W0 wx ∧ ∃ A c, v = .slice A H.length c ∧ JH wx v (M.evs.drop r) (st.entries.drop r))
  case first =>
   by_cases hk : H.length = 0
   ·have hen := Htop.out.1 hk
    have Hen := Kd hen
    have Hk := Kd hk
    clear hen
    go_wp2
    go_quiet (fail)
    go_wp2
    go_meet
    exact ⟨Ad.drewN _ _ _, Ae, 0, by rw [Hk.out], Hen.out.same (Ad.drewN _ _ _)⟩
   ·obtain ⟨g, rfl, hen⟩ := Htop.out.2 hk
    have Hen := Kd hen
    clear hen
    go_wp2
    go_quiet (fail)
    go_wp2
    go_meet
    exact ⟨Ad.drewN _ _ _, _, _, by rw [Nat.add_sub_cancel_left], by rw [Nat.add_sub_cancel_left]; exact Hen.out.same (Ad.drewN _ _ _)⟩
  generalize wc = W1 at hcut ⊢
  obtain ⟨hs1, Al, cl2, rfl, hen⟩ := hcut
  obtain ⟨L, hL⟩ : ∃ L, st.entries.drop r = L := ⟨_, rfl⟩
  obtain ⟨levs, hlv⟩ : ∃ l, M.evs.drop r = l := ⟨_, rfl⟩
  have hap := PE (vars := vars) (ps := ps) (fps := fps) (g := fgoal) Hr.out
  have hll : H.length = L.length := by rw [← hL, List.length_drop]; have := Hr.out; omega
  have hlen : ∀ e ∈ L, e.length ≤ 100000 := fun e he => hse e (List.mem_of_mem_drop (by rw [hL]; exact he))
  rw [hL] at hap hen
  rw [hlv] at hen
  have hbn := fun (W : World) (hW : Ad [] W1 W) => Nh W _ _ _ _ H fps fgoal L levs ((Hf.out.same (Hwl.out.trans hs1)).same hW) (hen.same hW) hll (by omega) (fun e he => Nat.le_trans (hlen e he) (by omega))
  unfold Oz at hbn
  have hBf1 := hs1.get HBf.out (by simp)
  clear b0 b1 b2 bf bl c0 c1 c2 c3 c4 c5 cf cl
  obtain ⟨b0, b1, b2, bf⟩ := Er hBf1
  have bl := Af hBf1
  have HBf1 := Kd hBf1
  have HM1 := Kd (HM0.out.same hs1)
  have Hw1 := Kd (Hwl.out.trans hs1)
  have Hen := Kd hen
  have Hll := Kd hll
  have hll2 : L.length ≤ 100000 := by omega
  have Hlen := Kd hlen
  clear hs1 hL hlv hll hlen hen hBf1 HBf HM0 Hwl Htop hse
  cases hb : Bp H L with
  | none =>
   rw [hb] at hbn hap
   dsimp only at hbn hap
   have Hap := Kd hap
   clear hb hap
   exact zq69
  | some b =>
   rw [hb] at hbn hap
   dsimp only at hbn hap
   have Hbb := Kd hb
   clear hb
   by_cases hnd : (b.map (·.1)).Nodup
   ·simp only [if_pos hnd] at hbn
    rw [if_neg (fun h => h hnd)] at hap
    have Hap := Kd hap
    have Hnd := Kd hnd
    clear hap hnd
    go_wp2_with (go_at_call 143; go_must (refine (hbn _ (Ad.refl _ _)).mono ?_; rintro e2 W2 ⟨hs2, v1, s1, rfl, hsb, hpm⟩; have Hs2 := Kd hs2; have Hsb := Kd hsb; have Hpm := Kd hpm; obtain ⟨evs1, hbi1⟩ := hsb.ex; obtain ⟨A1, c1, rfl⟩ := hbi1.row.shape; have HBf2 := Kd (hs2.get HBf1.out (by simp)); obtain ⟨f0, f1, f2, ff⟩ := Er HBf2.out; have fl := Af HBf2.out; clear hs2 hsb hpm hbi1 b0 b1 b2 bf bl))
    have hap := Hap.out
    have hsub := Oh Hpm.out Hnd.out
    rw [← Jl hsub, ← OY hsub, ← KV hsub] at hap
    have hsb3 := Hsb.out.same (Ad.alloc [] W2 (.cells #[.slice A1 s1.length c1] 262))
    have hw3 := (Hw1.out.trans Hs2.out).alloc' (.cells #[.slice A1 s1.length c1] 262)
    have hen3 := (Hen.out.same Hs2.out).same (Ad.alloc [] W2 (.cells #[.slice A1 s1.length c1] 262))
    have hbs : (W2.alloc (.cells #[.slice A1 s1.length c1] 262)).heap[W2.heap.size]? = some (.cells #[.slice A1 s1.length c1] 262 (0, 0)) := Aj _ _
    have hBf3 := AR HBf2.out (.cells #[.slice A1 s1.length c1] 262)
    generalize hbsz : W2.heap.size = bs at hbs ⊢
    generalize W2.alloc (.cells #[.slice A1 s1.length c1] 262) = W3 at hsb3 hw3 hen3 hbs hBf3 ⊢
    have hsl : ∀ x, (BH s1 x).length ≤ 100000 := fun x => PS (fun y hy => by
     obtain ⟨e, he, h1⟩ := Ir Hbb.out y (Hpm.out.mem_iff.1 hy)
     exact Nat.le_trans h1 (Hlen.out e he)) x
    have Hap3 := Kd hap
    have Hsb3 := Kd hsb3
    have Hw3 := Kd hw3
    have Hen3 := Kd hen3
    have Hbs := Kd hbs
    have HBf3 := Kd hBf3
    have Hsl := Kd hsl
    clear hap hsub hsb3 hw3 hen3 hbs hBf3 hbsz hsl f0 f1 f2 ff fl Hap HBf1 HM1 Hw1 Hen Hsb HBf2 Hs2 hbn
    go_loopw [53] (fun u wr => ∃ k : Nat, k ≤ H.length ∧ u = .int .i64 k ∧ BO s1 (H.take k) (L.take k) = true ∧ Ad [] W3 wr) (fun u _ => H.length - (intOf u).toNat)
    case atStart => exact ⟨0, Nat.zero_le _, rfl, by simp [BO], Ad.refl _ _⟩
    case round =>
     obtain ⟨k, hk, rfl, hfit, hsr⟩ := hrel
     have s0 := Ai (i := 0) (v := .slice A1 s1.length c1) (hsr.get Hbs.out (by simp))
     have sl := Af (hsr.get Hbs.out (by simp))
     by_cases hlt : k < H.length
     ·have hltL : k < L.length := by have := Hll.out; omega
      obtain ⟨g, c, ev, hv1, hevv, hin, t0, t1, t2, t3, hgl⟩ := (((Hf.out.hyps.choose_spec).same Hw3.out).same hsr).at hlt
      cases hv1
      obtain ⟨Ax, cx, rfl⟩ := hin.row.shape
      obtain ⟨g2, off2, ev2, rfl, u0, hsg, hgl2, -, -⟩ := (Hen3.out.same hsr).at hltL
      obtain ⟨A2, c2, rfl⟩ := hsg.shape
      have hstep := Qa (s := s1) Hll.out hlt
      rw [hfit, Bool.true_and] at hstep
      have hfail := fun h => PD (s := s1) Hll.out (k := k) h
      have hel := Hlen.out L[k] (List.getElem_mem hltL)
      have hhx := hhe H[k] (List.getElem_mem hlt)
      have Hsr := Kd hsr
      have Hfail := Kd hfail
      cases hfl : H[k].floating with
      | true =>
       rw [hfl] at t1 hstep
       rw [Bool.true_or] at hstep
       have Hst := Kd hstep
       clear hfl hstep hfail hsr hfit hin hsg hevv
       go_wp2
       go_quiet (fail)
       go_wp2
       go_roundw
       case rel => exact ⟨k + 1, hlt, by go_num, Hst.out, Hsr.out.trans ((Ad.alloc [] _ _).trans (Ad.drewN [] _ _))⟩
       case measure => simp [intOf]; omega
      | false =>
       rw [hfl] at t1 hstep
       rw [Bool.false_or] at hstep
       have Hst := Kd hstep
       have hbc := fun (W : World) (hW : Ad [] wr W) => Ku W _ s1 ((Hsb3.out.same hsr).same hW) Hsl.out _ _ H[k].expr L[k] ((Seg.of_row hin.row).same hW) (hsg.same hW) hhx (by omega)
       have hB5 : (wr.alloc (.cells #[.string H[k].label, .bool false, .int .i64 H[k].var, .slice Ax H[k].expr.length cx] 49)).heap[wr.heap.size]? = some (.cells #[.string H[k].label, .bool false, .int .i64 H[k].var, .slice Ax H[k].expr.length cx] 49 (0, 0)) := Aj _ _
       obtain ⟨z, hz⟩ : ∃ z, (A0 s1 H[k].expr == L[k]) = z := ⟨_, rfl⟩
       rw [hz] at hstep
       simp only [hz] at hbc
       have Hst := Kd hstep
       clear hfl hstep hfail hsr hfit hin hsg hevv hB5 hz
       cases z with
       | true =>
        go_wp2
        refine AD (.read 0 (.read 1 (.read 2 (.read 3 (.read 4 (.read 5 (.read 6 (.read 7 (.read 8 (.read 9 (.read 10 (.one 11 [] (.read 12 (.read 13 (.done))))))))))))))) (by kernel_rfl) (by kernel_rfl) ?_
        iterate 11 (refine An rfl (fun K hK => ?_); go_simp; (try go_bits); (try (rw [if_pos (by omega)]; go_simp)); refine hK _ ?_; clear hK K)
        with_reducible refine Ak rfl ?_
        go_wp2_with (go_at_call 144; go_must (refine (hbc _ ((Ad.alloc [] _ _).trans (Ad.drew [] _))).mono ?_; rintro e5 W5 ⟨rfl, hs5⟩; have Hs5 : Hid (Ad [] wr W5) := Kd (((Ad.alloc [] _ _).trans (Ad.drew [] _)).trans hs5); clear hs5))
        refine EQ.A ?_
        iterate 2 (refine An rfl (fun K hK => ?_); go_simp; (try go_bits); (try (rw [if_pos (by omega)]; go_simp)); refine hK _ ?_; clear hK K)
        refine AB ?_
        go_wp2
        go_roundw
        case rel => exact ⟨k + 1, hlt, by go_num, Hst.out, Hsr.out.trans Hs5.out⟩
        case measure => simp [intOf]; omega
       | false =>
        go_wp2
        refine AD (.read 0 (.read 1 (.read 2 (.read 3 (.read 4 (.read 5 (.read 6 (.read 7 (.read 8 (.read 9 (.read 10 (.one 11 [] (.read 12 (.read 13 (.done))))))))))))))) (by kernel_rfl) (by kernel_rfl) ?_
        iterate 11 (refine An rfl (fun K hK => ?_); go_simp; (try go_bits); (try (rw [if_pos (by omega)]; go_simp)); refine hK _ ?_; clear hK K)
        with_reducible refine Ak rfl ?_
        go_wp2_with (go_at_call 144; go_must (refine (hbc _ ((Ad.alloc [] _ _).trans (Ad.drew [] _))).mono ?_; rintro e5 W5 ⟨rfl, hs5⟩; have Hs5 : Hid (Ad [] wr W5) := Kd (((Ad.alloc [] _ _).trans (Ad.drew [] _)).trans hs5); clear hs5))
        refine EQ.A ?_
        iterate 2 (refine An rfl (fun K hK => ?_); go_simp; (try go_bits); (try (rw [if_pos (by omega)]; go_simp)); refine hK _ ?_; clear hK K)
        refine AB ?_
        go_wp2
        go_ret
        rw [Hap3.out, if_pos (Hfail.out Hst.out)]
        exact ⟨rfl, Dt.of_same Hh.out ((Hw3.out.trans Hsr.out).trans Hs5.out)⟩
     ·have hkk : k = H.length := by omega
      subst hkk
      have hfit2 : ¬ BO s1 H L = false := by
       have h := hfit
       rw [List.take_length] at h
       have h2 : L.take H.length = L := by rw [Hll.out, List.take_length]
       rw [h2] at h
       rw [h]
       decide
      have hap := Hap3.out
      rw [if_neg hfit2] at hap
      have hwr := Hw3.out.trans hsr
      have hbr := fun (W : World) (hW : Ad [] wr W) => LO W nb vars (Hvs.out.same (hwr.trans hW)) _ s1 ((Hsb3.out.same hsr).same hW) Hsl.out fp M.pv fps ps (Hf.out.pairs.same (hwr.trans hW) (by simp)) ((Hh.out.same (hwr.trans hW)).prs) hn2 hn3
      obtain ⟨o, ho⟩ : ∃ o, fps.find? (Cw vars s1 ps) = o := ⟨_, rfl⟩
      have hos := MX (Cw vars s1 ps) (C8 vars ps s1) (Li vars s1 ps) fps
      unfold OA at hbr
      rw [ho] at hos
      simp only [ho] at hbr
      obtain ⟨b0, b1, b2, bf⟩ := Er (hsr.get HBf3.out (by simp))
      have bl := Af (hsr.get HBf3.out (by simp))
      obtain ⟨q0, q1, q2, q3, q4, q5, qf⟩ := JD (Hh.out.same hwr).blk
      have ql := Af (Hh.out.same hwr).blk
      unfold fnB at q2 hbr
      rw [Hev.out] at q3
      have Hap4 := Kd hap
      have Hwr := Kd hwr
      have Hsr := Kd hsr
      have Hos := Kd hos
      clear hfit hfit2 hap hwr hsr hos ho
      go_upto_region 14 with fail
      go_cut [12] (fun v wx => v = .bool o.isSome ∧ Ad [] wr wx)
      case first =>
       have hs1 := Ad.drew [] wr
       refine AD (.read 0 (.read 1 (.read 2 (.read 3 (.read 4 (.read 5 (.read 6 (.read 7 (.read 8 (.read 9 (.read 10 (.two 11 [] (.read 12 (.read 13 (.read 14 (.one 15 [0, 1, 2, 3, 4, 5, 6, 7, 8, 9, 10, 11, 12, 13, 14] (.one 16 [14] (.read 17 (.done))))))) 15 [0, 1, 2, 3, 4, 5, 6, 7, 8, 9, 10] (.one 11 [15] (.read 12 (.read 13 (.read 14 (.one 16 [14] (.read 17 (.done))))))))))))))))))) (by kernel_rfl) (by kernel_rfl) ?_
       iterate 11 (refine An rfl (fun K hK => ?_); go_simp; (try go_bits); (try (rw [if_pos (by omega)]; go_simp)); refine hK _ ?_; clear hK K)
       refine By rfl rfl ?_ ?_
       ·go_wp2_with (go_at_call 145; go_must (refine (hbr _ hs1).mono ?_; rintro e5 W5 ⟨rfl, hs5⟩; have Hs5 := Kd (hs1.trans hs5); clear hs5 b0 b1 b2 bf bl q0 q1 q2 q3 q4 q5 qf ql s0 sl; obtain ⟨b0, b1, b2, bf⟩ := Er (Hs5.out.get (Hsr.out.get HBf3.out (by simp)) (by simp)); have bl := Af (Hs5.out.get (Hsr.out.get HBf3.out (by simp)) (by simp)); obtain ⟨q0, q1, q2, q3, q4, q5, qf⟩ := JD (Hh.out.same (Hwr.out.trans Hs5.out)).blk; have ql := Af (Hh.out.same (Hwr.out.trans Hs5.out)).blk; unfold fnB at q2; rw [Hev.out] at q3; have s0 := Ai (i := 0) (v := .slice A1 s1.length c1) (Hs5.out.get (Hsr.out.get Hbs.out (by simp)) (by simp)); have sl := Af (Hs5.out.get (Hsr.out.get Hbs.out (by simp)) (by simp))))
        refine EQ.A ?_
        iterate 3 (refine An rfl (fun K hK => ?_); go_simp; (try go_bits); (try (rw [if_pos (by omega)]; go_simp)); refine hK _ ?_; clear hK K)
        with_reducible refine Ak rfl ?_
        go_wp2
        refine EQ.A ?_
        with_reducible refine Ak rfl ?_
        go_wp2
        refine EQ.A ?_
        iterate 1 (refine An rfl (fun K hK => ?_); go_simp; (try go_bits); (try (rw [if_pos (by omega)]; go_simp)); refine hK _ ?_; clear hK K)
        refine AB ?_
        go_wp2
        go_meet
        exact ⟨rfl, Hs5.out.trans (Ad.alloc _ _ _)⟩
       ·have hB7 : (wr.drew.alloc (.cells #[.int .i64 0, .int .i64 0] 47)).heap[wr.heap.size]? = some (.cells #[.int .i64 0, .int .i64 0] 47 (0, 0)) := Aj _ _
        have HB7 := Kd hB7
        clear hB7
        go_wp2
        refine EQ.A ?_
        with_reducible refine Ak rfl ?_
        go_wp2_with (go_at_call 145; go_must (refine (hbr _ (hs1.trans (Ad.alloc _ _ _))).mono ?_; rintro e5 W5 ⟨rfl, hs5⟩; obtain ⟨r0, r1, rf⟩ := Fh (hs5.get HB7.out (by simp)); have rl := Af (hs5.get HB7.out (by simp)); have Hs5 := Kd ((hs1.trans (Ad.alloc _ _ _)).trans hs5); clear hs5))
        refine EQ.A ?_
        iterate 3 (refine An rfl (fun K hK => ?_); go_simp; (try go_bits); (try (rw [if_pos (by omega)]; go_simp)); refine hK _ ?_; clear hK K)
        with_reducible refine Ak rfl ?_
        go_wp2
        refine EQ.A ?_
        iterate 1 (refine An rfl (fun K hK => ?_); go_simp; (try go_bits); (try (rw [if_pos (by omega)]; go_simp)); refine hK _ ?_; clear hK K)
        refine AB ?_
        go_wp2
        go_meet
        exact ⟨rfl, (Hs5.out.setNew _ _ (Nat.le_refl _)).setNew _ _ (Nat.le_refl _)⟩
      generalize wc = W6 at hcut ⊢
      obtain ⟨rfl, hs6⟩ := hcut
      have hw6 := Hwr.out.trans hs6
      clear b0 b1 b2 bf bl q0 q1 q2 q3 q4 q5 qf ql s0 sl hbr
      obtain ⟨b0, b1, b2, bf⟩ := Er (hs6.get (Hsr.out.get HBf3.out (by simp)) (by simp))
      have bl := Af (hs6.get (Hsr.out.get HBf3.out (by simp)) (by simp))
      have s0 := Ai (i := 0) (v := .slice A1 s1.length c1) (hs6.get (Hsr.out.get Hbs.out (by simp)) (by simp))
      have sl := Af (hs6.get (Hsr.out.get Hbs.out (by simp)) (by simp))
      have Hw6 := Kd hw6
      cases hoo : o.isSome with
      | true =>
       have hap := Hap4.out
       have hal : fps.all (C8 vars ps s1) = false := by have h := Hos.out; rw [hoo] at h; simpa using h.symm
       rw [if_pos hal] at hap
       have Hap := Kd hap
       clear hoo hap hal hs6 hw6
       go_wp2
       go_ret
       rw [Hap.out]
       exact ⟨rfl, Dt.of_same Hh.out Hw6.out⟩
      | false =>
       have hap := Hap4.out
       have hal : ¬ fps.all (C8 vars ps s1) = false := by have h := Hos.out; rw [hoo] at h; simpa using h.symm
       rw [if_neg hal] at hap
       have Hap := Kd hap
       have hsa := fun (W : World) (hW : Ad [] W6 W) => Lg W _ s1 (((Hsb3.out.same Hsr.out).same hs6).same hW) fg fgoal (Hf.out.goal.same (hw6.trans hW)) hn4
       unfold Oa at hsa
       clear hoo hal hs6
       by_cases hbig : 200 < (A0 s1 fgoal).length
       ·simp only [if_pos hbig] at hsa
        rw [if_pos hbig] at hap
        have Hap := Kd hap
        clear hap hbig hw6
        go_wp2_with (go_at_call 146; go_must (refine (hsa _ (Ad.refl _ _)).mono ?_; rintro e7 W7 ⟨hs7, rfl⟩; have Hs7 := Kd hs7; clear hs7))
        exact zq132
       ·simp only [if_neg hbig] at hsa
        rw [if_neg hbig] at hap
        by_cases hdp : 40 ≤ r
        ·rw [if_pos hdp] at hap
         have Hap := Kd hap
         clear hap hbig hw6
         go_wp2_with (go_at_call 146; go_must (refine (hsa _ (Ad.refl _ _)).mono ?_; rintro e7 W7 ⟨hs7, v7, rfl, hr7, hf7⟩; have Hs7 := Kd hs7; clear hs7 hr7 hf7))
         exact zq132
        ·rw [if_neg hdp] at hap
         have Hap := Kd hap
         clear hap hbig
         obtain ⟨q0, q1, q2, q3, q4, q5, qf⟩ := JD (Hh.out.same hw6).blk
         have ql := Af (Hh.out.same hw6).blk
         rw [Hev.out] at q3
         have hly := fun (W : World) (M8 : MP) (h8 : B3 W m nb M8 ps goal { st with entries := st.entries.take r }) (v : Value) (hv : Row W 3 1 v (A0 s1 fgoal).length (Ay (A0 s1 fgoal))) => Lc W m nb M8 ps goal _ h8 v (A0 s1 fgoal) hv (by show (st.entries.take r).length < 40; rw [List.length_take]; omega)
         go_wp2_with (first
          | (go_at_call 146; go_must (refine (hsa _ (Ad.refl _ _)).mono ?_; rintro e7 W7 ⟨hs7, v7, rfl, hr7, hf7⟩; obtain ⟨A7, c7, rfl⟩ := hr7.shape; clear q0 q1 q2 q3 q4 q5 qf ql; obtain ⟨q0, q1, q2, q3, q4, q5, qf⟩ := JD (Hh.out.same (Hw6.out.trans hs7)).blk; have ql := Af (Hh.out.same (Hw6.out.trans hs7)).blk; rw [Hev.out] at q3; have hm8 := Hh.out.cutAt Hev.out Hr.out (Hw6.out.trans hs7); have Hm8 := Kd hm8; have Hr8 := Kd (hr7.same (Ad.setCell (S := [m]) W7 ⟨m, 3, none⟩ (.slice Ae r r) (by simp)) fun b hb hm => by rw [List.mem_singleton] at hm; subst hm; exact hr7.ne (Hh.out.same (Hw6.out.trans hs7)).blk (by decide) hb); clear hs7 hr7 hf7 hm8))
          | (go_at_call 141; go_must (refine (hly _ _ Hm8.out.1 _ Hr8.out).mono ?_; rintro e9 W9 ⟨rfl, M9, hm9, hs9, ho9⟩; clear q0 q1 q2 q3 q4 q5 qf ql; obtain ⟨q0, q1, q2, q3, q4, q5, qf⟩ := JD hm9.blk; have ql := Af hm9.blk; have Hm9 := Kd hm9; have Hs9 := Kd hs9; have Ho9 := Kd ho9; clear hm9 hs9 ho9; dsimp only [Stk.lay] at q5)))
         go_ret
         rw [Hap.out]
         obtain ⟨g1, g2⟩ := Hm9.out.counted hcnt
         have hz := (Hm8.out.2).size
         have he : Value.ownBlock (.slice Ae r r) = M.ev.ownBlock := by rw [Hev.out]; cases Ae <;> rfl
         have hown9 : ∀ b, M9.ev.ownBlock = some b → M.ev.ownBlock = some b ∨ w.heap.size ≤ b := fun b hb => by
          rcases Ho9.out b hb with h | h
          ·left; rw [← he]; exact h
          ·exact .inr (Nat.le_trans hz h)
         refine ⟨rfl, M9, g1, ?_, hown9⟩
         have h8 := Hm8.out.2
         have h9 : Ad (M.own m) _ W9 := Hs9.out.mono fun x hx => .inl (by
          unfold MP.own at hx ⊢
          rw [← he]
          exact hx)
         refine (h8.trans h9).then g2 fun x hx => ?_
         unfold MP.own at hx ⊢
         rcases List.mem_cons.1 hx with rfl | hx
         ·exact .inl (List.mem_cons_self ..)
         ·rcases hown9 x (Option.mem_toList.1 hx) with h | h
          ·exact .inl (List.mem_cons_of_mem _ (Option.mem_toList.2 h))
          ·exact .inr h
   ·simp only [if_neg hnd] at hbn
    rw [if_pos hnd] at hap
    have Hap := Kd hap
    clear hnd hap
    exact zq69
end Go.Proofs.YtbfbgfpghkijdaaGreatDoor
