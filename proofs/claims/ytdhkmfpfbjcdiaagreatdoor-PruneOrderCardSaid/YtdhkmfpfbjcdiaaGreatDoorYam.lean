/- lemmalaw texts, part 13. -/
import Derived.Test.YtdhkmfpfbjcdiaaGreatDoorYaa
import Derived.Test.YtdhkmfpfbjcdiaaGreatDoorYal
set_option maxRecDepth 100000
set_option linter.unusedVariables false
set_option linter.unusedSimpArgs false
set_option maxHeartbeats 32000000
namespace Go.Proofs.YtdhkmfpfbjcdiaaGreatDoor
open Go.RowKit
theorem PInv.fold {l : List (Pr × Value)} {s : List Pr} (h : PInv l s) (ps : List Pr) : PInv (ps.foldl putK l) (ps.foldl putP s) := by
 induction ps generalizing l s with
 | nil => exact h
 | cons p ps ih => exact ih (h.put p)
theorem putK_len (l : List (Pr × Value)) (p : Pr) : (putK l p).length ≤ l.length + 1 := by
 unfold putK
 split
 ·omega
 ·have := congrArg List.length (keys_aput (turnP p) (Value.agg #[]) l)
  simp only [List.length_map] at this
  rw [this]
  split <;> simp
theorem foldK_len (ps : List Pr) : ∀ l : List (Pr × Value), (ps.foldl putK l).length ≤ l.length + ps.length := by
 induction ps with
 | nil => intro l; simp
 | cons p ps ih =>
  intro l
  have h1 := ih (putK l p)
  have h2 := putK_len l p
  simp only [List.foldl_cons, List.length_cons]
  omega
def unionP (a b : List Pr) : List Pr := b.foldl putP (a.foldl putP [])
theorem prCells_at : ∀ (l : List Pr) (k : Nat) (h : k < l.length), ((prCells l).drop (k * 2)).take 2 = encPr l[k]
 | t :: l, 0, _ => by simp [prCells, encPr]
 | t :: l, k + 1, h => by
  have := prCells_at l k (by simpa using h)
  rw [show (k + 1) * 2 = 2 + k * 2 by omega, ← List.drop_drop]
  have e : (prCells (t :: l)).drop 2 = prCells l := by simp [prCells, encPr]
  rw [e]
  simpa using this
def PutI (w : World) (b : Nat) (l0 : List (Pr × Value)) (ps : List Pr) (u : Value) (W : World) : Prop :=
 ∃ k : Nat, k ≤ ps.length ∧ u = .int .i64 k ∧ PSet W b ((ps.take k).foldl putK l0) ∧ Same [] w W
theorem PutI.step {w W W' : World} {b : Nat} {l0 : List (Pr × Value)} {ps : List Pr} {k : Nat} (hk : k < ps.length) (hs : Same [] w W) (hb : w.heap.size ≤ b) (h : PSet W' b (putK ((ps.take k).foldl putK l0) ps[k])) (hs' : Same [b] W W') : PutI w b l0 ps (.int .i64 ((k : Int) + 1)) W' :=
 ⟨k + 1, hk, by go_num, by rw [List.take_succ_eq_append_getElem hk, List.foldl_append]; exact h, hs.then hs' (fun x hx => by simp at hx; subst hx; exact .inr hb)⟩
theorem Union_calls (va vb : Value) (la lb : List Pr) (w : World) (ha : Row w 113 2 va la.length (prCells la)) (hb : Row w 113 2 vb lb.length (prCells lb)) (hn : la.length + lb.length ≤ 1000000) :
  Calls Tryz.prog 126 #[va, vb] w (PairsR (unionP la lb) w) := by
 have hmm := @run_makeMap Tryz.prog
 obtain ⟨Aa, ca, rfl⟩ := ha.shape
 obtain ⟨Ab, cb, rfl⟩ := hb.shape
 have Ha := Kd ha
 have Hb := Kd hb
 clear ha hb
 go_enter Tryz.func126, Tryz.ntmps126
 go_wp2
 have h0 : PutI w w.heap.size [] la (.int .i64 0) (w.alloc (.map #[] 0)) := ⟨0, Nat.zero_le _, rfl, KMap.new _ _ _, Same.alloc _ _ _⟩
 have H0 := Kd h0
 clear h0
 go_loopw [13] (fun u wr => PutI w w.heap.size [] la u wr) (fun u _ => la.length - (intOf u).toNat)
 case atStart => exact H0.out
 case round =>
  obtain ⟨k, hk, rfl, hset, hsm⟩ := hrel
  by_cases hlt : k < la.length
  ·obtain ⟨g, c, hv, hcell⟩ := (Row.same (Ha).out hsm (by simp)).elem (i := k) hlt (ys := encPr la[k]) rfl (prCells_at la k hlt) (by decide)
   have t0 := (hcell 0 (by decide)).1
   have t1 := (hcell 1 (by decide)).1
   simp only [encPr, List.getD_cons_zero, List.getD_cons_succ, Nat.add_zero] at t0 t1
   have Hset := Kd hset
   have Hsm := Kd hsm
   cases hv
   have hgl := World.block_lt_of_cell? _ _ t0
   clear hset hsm hcell
   have hput := fun W hW => put_calls w.heap.size ((la.take k).foldl putK ([] : List (Pr × Value))) la[k] W hW
   go_wp2_with (go_at_call 158; go_must (refine (hput _ (Hset.out.same (Same.alloc [] wr (.cells #[.int .i64 la[k].1, .int .i64 la[k].2] 113)) (by simp))).mono ?_; rintro e W3 ⟨⟨v3, rfl⟩, hset3, hs3⟩; have Hset3 := Kd hset3; have Hs3 := Kd hs3; clear hset3 hs3))
   go_roundw
   case rel => exact PutI.step hlt Hsm.out (Nat.le_refl _) Hset3.out ((Same.alloc [w.heap.size] wr _).trans Hs3.out)
   case measure => simp [intOf]; omega
  ·have hkk : k = la.length := by omega
   subst hkk
   rw [List.take_length] at hset
   have Hset := Kd hset
   have Hsm := Kd hsm
   clear hset hsm H0 hlt hk
   obtain ⟨w1, hw1⟩ : ∃ w1, w1 = wr := ⟨_, rfl⟩
   subst hw1
   go_wp2
   have h1 : PutI w w.heap.size (la.foldl putK []) lb (.int .i64 0) w1 := ⟨0, Nat.zero_le _, rfl, Hset.out, Hsm.out⟩
   have H1 := Kd h1
   clear h1
   go_loopw [23] (fun u wr => PutI w w.heap.size (la.foldl putK []) lb u wr) (fun u _ => lb.length - (intOf u).toNat)
   case atStart => exact H1.out
   case round =>
    obtain ⟨k, hk, rfl, hset, hsm⟩ := hrel
    by_cases hlt : k < lb.length
    ·obtain ⟨g, c, hv, hcell⟩ := (Row.same (Hb).out hsm (by simp)).elem (i := k) hlt (ys := encPr lb[k]) rfl (prCells_at lb k hlt) (by decide)
     have t0 := (hcell 0 (by decide)).1
     have t1 := (hcell 1 (by decide)).1
     simp only [encPr, List.getD_cons_zero, List.getD_cons_succ, Nat.add_zero] at t0 t1
     have Hset := Kd hset
     have Hsm := Kd hsm
     cases hv
     have hgl := World.block_lt_of_cell? _ _ t0
     clear hset hsm hcell
     have hput := fun W hW => put_calls w.heap.size ((lb.take k).foldl putK (la.foldl putK [])) lb[k] W hW
     go_wp2_with (go_at_call 158; go_must (refine (hput _ (Hset.out.same (Same.alloc [] wr (.cells #[.int .i64 lb[k].1, .int .i64 lb[k].2] 113)) (by simp))).mono ?_; rintro e W3 ⟨⟨v3, rfl⟩, hset3, hs3⟩; have Hset3 := Kd hset3; have Hs3 := Kd hs3; clear hset3 hs3))
     go_roundw
     case rel => exact PutI.step hlt Hsm.out (Nat.le_refl _) Hset3.out ((Same.alloc [w.heap.size] wr _).trans Hs3.out)
     case measure => simp [intOf]; omega
    ·have hkk : k = lb.length := by omega
     subst hkk
     rw [List.take_length] at hset
     have hlen := foldK_len lb (la.foldl putK [])
     have hlen1 := foldK_len la []
     have hinv : PInv (lb.foldl putK (la.foldl putK [])) (unionP la lb) := (PInv.nil.fold la).fold lb
     have hlist := fun W hW => list_calls w.heap.size (lb.foldl putK (la.foldl putK [])) (unionP la lb) hinv (by simp at hlen1; omega) W hW
     have Hset' := Kd hset
     have Hsm' := Kd hsm
     clear hset hsm hinv hlen hlen1 hlt hk
     go_wp2_with (go_at_call 159; go_must (refine (hlist _ Hset'.out).mono ?_; rintro e W4 ⟨v4, rfl, hr4, hs4, hv4⟩))
     go_ret
     exact ⟨_, rfl, hr4, Hsm'.out.trans hs4, fun b hb => by have := hv4 b hb; have := Hsm'.out.size; omega⟩
theorem Norm_calls (va : Value) (la : List Pr) (w : World) (ha : Row w 113 2 va la.length (prCells la)) (hn : la.length ≤ 1000000) :
  Calls Tryz.prog 123 #[va] w (PairsR (unionP la []) w) := by
 have hu := Union_calls va (.slice none 0 0) la [] w ha (World.ownsRow_nil _ _ _ _) (by simpa using hn)
 obtain ⟨Aa, ca, rfl⟩ := ha.shape
 clear ha
 go_enter Tryz.func123, Tryz.ntmps123
 go_wp2_with (go_at_call 126; refine hu.mono ?_; rintro e W1 ⟨v, rfl, h⟩)
 go_ret
 exact ⟨_, rfl, h⟩
end Go.Proofs.YtdhkmfpfbjcdiaaGreatDoor
namespace Go.Proofs.YtdhkmfpfbjcdiaaGreatDoor
open Go.RowKit Go.Shelf Go.Lib Go.Sort
theorem ints_cell {w : World} {v : Value} {l : List Int} (h : Row w 3 1 v l.length (intCells l)) {k : Nat} (hk : k < l.length) : ∃ g c, v = .slice (some ⟨g, 0, none⟩) l.length c ∧ w.cell? ⟨g, k, none⟩ = some (.int .i64 l[k]) ∧ g < w.heap.size := by
 obtain ⟨g, c, hv, h1, _⟩ := h.cell (j := k) (by omega)
 exact ⟨g, c, hv, by rw [h1, intCells_at l k hk], World.block_lt_of_cell? _ _ h1⟩
theorem ints_cell0 {w : World} {v : Value} {l : List Int} (h : Row w 3 1 v l.length (intCells l)) {k : Nat} (hk : k < l.length) : ∃ g c, v = .slice (some ⟨g, 0, none⟩) l.length c ∧ w.cell? ⟨g, k, none⟩ = some (.int .i64 l[k]) ∧ g < w.heap.size := ints_cell h hk
theorem setCells_heap (b : Nat) : ∀ (vs : List Value) (o : Nat) (w : World) (cur : Array Value) (t : TypeId) (fr : Nat × Nat), w.heap[b]? = some (.cells cur t fr) → (w.setCells b o vs).heap[b]? = some (.cells (setMany cur o vs) t fr)
 | [], _, _, _, _, _, h => h
 | v :: r, o, w, cur, t, fr, h => by
  rw [World.setCells, setMany]
  exact setCells_heap b r (o + 1) _ _ t fr (blk_set h o v)
theorem Same.setCells (b : Nat) {S : List Nat} (hb : b ∈ S) : ∀ (vs : List Value) (o : Nat) (w : World), Same S w (w.setCells b o vs)
 | [], _, w => Same.refl _ _
 | v :: r, o, w => by
  rw [World.setCells]
  exact (Same.setCell w ⟨b, o, none⟩ v hb).trans (Same.setCells b hb r (o + 1) _)
theorem take_of_get {F : Array Value} {l : List Value} (hl : l.length ≤ F.size) (h : ∀ t, t < l.length → F[t]! = l.getD t undef) : F.toList.take l.length = l := by
 apply List.ext_getElem?
 intro j
 by_cases hj : j < l.length
 ·rw [List.getElem?_take_of_lt hj, Array.getElem?_toList, Array.getElem?_eq_getElem (by omega), List.getElem?_eq_getElem hj]
  have := h j hj
  rw [getElem!_pos F j (by omega)] at this
  rw [this]
  simp [List.getD_eq_getElem?_getD, hj]
 ·rw [List.getElem?_take_eq_none (by omega), List.getElem?_eq_none (by omega)]
def insAt (zs : List Int) (i : Nat) (x : Int) : List Int := zs.take i ++ x :: zs.drop i
theorem insAt_len (zs : List Int) (i : Nat) (x : Int) (hi : i ≤ zs.length) : (insAt zs i x).length = zs.length + 1 := by
 simp [insAt]; omega
theorem insAt_get (zs : List Int) (i : Nat) (x : Int) (hi : i ≤ zs.length) (t : Nat) (ht : t < zs.length + 1) : (intCells (insAt zs i x)).getD t undef = if t < i then (intCells zs).getD t undef else if t = i then .int .i64 x else (intCells zs).getD (t - 1) undef := by
 have hm : intCells (insAt zs i x) = (intCells zs).take i ++ Value.int .i64 x :: (intCells zs).drop i := by simp [intCells, insAt]
 rw [hm]
 have hl : ((intCells zs).take i).length = i := by rw [List.length_take, intCells_len]; omega
 simp only [List.getD_eq_getElem?_getD]
 by_cases h1 : t < i
 ·rw [if_pos h1, List.getElem?_append_left (by omega), List.getElem?_take_of_lt h1]
 ·rw [if_neg h1, List.getElem?_append_right (by omega), hl]
  by_cases h2 : t = i
  ·subst h2; simp
  ·rw [if_neg h2]
   obtain ⟨u, rfl⟩ : ∃ u, t = i + 1 + u := ⟨t - i - 1, by omega⟩
   rw [show i + 1 + u - i = u + 1 by omega, List.getElem?_cons_succ, List.getElem?_drop, show i + 1 + u - 1 = i + u by omega]
theorem cur_get {cur : Array Value} {zs : List Int} {c : Nat} (h6 : cur.size = c * 1) (hnc : zs.length ≤ c) (h7 : cur.toList.take (zs.length * 1) = intCells zs) (t : Nat) (ht : t < zs.length) : cur[t]! = (intCells zs).getD t undef := by
 rw [← h7, List.getD_eq_getElem?_getD, List.getElem?_take_of_lt (by omega), Array.getElem?_toList, Array.getElem?_eq_getElem (by omega), getElem!_pos cur t (by omega)]
 rfl
theorem int_one (l : List Int) : ∀ v ∈ intCells l, v.oneCell' = true := by
 intro v hv
 simp only [intCells, List.mem_map] at hv
 obtain ⟨x, _, rfl⟩ := hv
 rfl
theorem Insert_calls (v : Value) (zs : List Int) (i : Nat) (x : Int) (vb : Nat) (w : World) (h : Row w 3 1 v zs.length (intCells zs)) (hi : i ≤ zs.length) (hn : zs.length ≤ 1000000) (hx : w.heap[vb]? = some (.cells #[.int .i64 x] 3 (0, 0))) (hvb : v.ownBlock ≠ some vb) :
  Calls Tryz.prog 176 #[v, .int .i64 i, .slice (some ⟨vb, 0, none⟩) 1 1] w fun e w' => ∃ v', e = .returned v' ∧ Row w' 3 1 v' (zs.length + 1) (intCells (insAt zs i x)) ∧ Same v.ownBlock.toList w w' ∧ (v'.ownBlock = v.ownBlock ∨ ∃ b, v'.ownBlock = some b ∧ w.heap.size ≤ b) := by
 have hvs : ∀ j u, [Value.int .i64 x][j]? = some u → w.cell? ⟨vb, 0 + j, none⟩ = some u := fun j u hj => by rw [Nat.zero_add, blk_cell hx]; simpa using hj
 have h1v : ∀ u ∈ [Value.int .i64 x], u.oneCell' = true := by simp [Value.oneCell']
 have hln := insAt_len zs i x hi
 rcases h.2 with ⟨rfl, h0⟩ | ⟨g, c, cur, rfl, h2, h3, h4, h5, h6, h7⟩
 ·have hzs : zs = [] := List.eq_nil_of_length_eq_zero h0
  subst hzs
  have hi0 : i = 0 := by simpa using hi
  subst hi0
  have hc := Any2.slices_Insert_int_end_grow Tryz.insertL none 0 0 vb 0 1 1 [] [.int .i64 x] w (by omega) (Nat.le_refl _) (by omega) (by omega) rfl rfl (fun _ => rfl) (by simp) hvs h1v
  rw [show Tryz.insertL_ren.t 3 = 3 from rfl] at hc
  refine Calls.mono hc ?_
  rintro e w' ⟨rfl, rfl⟩
  have hg := grownCap_ge w (0 + 1) 0 3
  have hm := grownCap_le_maxLen w (0 + 1) 0 3 (by unfold maxLen; omega)
  refine ⟨_, rfl, ⟨rfl, .inr ⟨w.heap.size, _, _, rfl, Nat.zero_le _, blk_new w.drew _, hg, hm, ?_, ?_⟩⟩, ?_, .inr ⟨_, rfl, Nat.le_refl _⟩⟩
  ·simp only [Nat.zero_add] at hg ⊢
   simp [Builtin.zeroCells, Value.cells]
   omega
  ·simp [insAt, intCells]
  ·exact (Same.drew _ w).trans (Same.alloc _ _ _)
 ·have hb1 : ∀ j u, (intCells zs)[j]? = some u → w.cell? ⟨g, 0 + j, none⟩ = some u := fun j u hj => by
   have hj2 : j < zs.length := by have := (List.getElem?_eq_some_iff.1 hj).1; rwa [intCells_len] at this
   rw [Nat.zero_add, blk_cell h3, Array.getElem?_eq_getElem (by omega)]
   have := cur_get h6 h4 h7 j hj2
   rw [getElem!_pos cur j (by omega)] at this
   rw [this]
   simp [List.getD_eq_getElem?_getD, hj]
  have hvg : vb ≠ g := fun e => hvb (by rw [e]; rfl)
  by_cases hic : i = zs.length
  ·subst hic
   by_cases hroom : zs.length + 1 ≤ c
   ·have hc := Any2.slices_Insert_int_end_room Tryz.insertL g 0 zs.length c vb 0 1 1 [.int .i64 x] w (by omega) hroom (by unfold maxLen at h5; omega) rfl (fun j hj => by
     rw [blk_cell h3, Array.getElem?_eq_getElem (by omega)]; rfl) (fun j hj => blk_free h3 _) hvs h1v
    refine Calls.mono hc ?_
    rintro e w' ⟨rfl, rfl⟩
    refine ⟨_, rfl, ⟨by rw [intCells_len, hln]; simp, .inr ⟨g, c, _, rfl, h2, setCells_heap _ _ _ _ _ _ _ h3, hroom, h5, by simp [h6], ?_⟩⟩, Same.setCells _ (by simp [Value.ownBlock]) _ _ _, .inl rfl⟩
    have e1 : (zs.length + 1) * 1 = (intCells (insAt zs zs.length x)).length := by rw [intCells_len, hln]; simp
    rw [e1]
    refine take_of_get (by rw [intCells_len, hln]; simp [h6]; omega) (fun t ht => ?_)
    rw [intCells_len, hln] at ht
    rw [insAt_get _ _ _ (Nat.le_refl _) _ ht, get_setMany _ _ _ _ (by rw [h6]; omega)]
    by_cases h1 : t < zs.length
    ·rw [if_neg (by simp; omega), if_pos h1, cur_get h6 h4 h7 t h1]
    ·have : t = zs.length := by omega
     subst this
     rw [if_pos (by simp), if_neg h1, if_pos rfl]
     simp
   ·have hc := Any2.slices_Insert_int_end_grow Tryz.insertL (some ⟨g, 0, none⟩) zs.length c vb 0 1 1 (intCells zs) [.int .i64 x] w (by omega) h4 (by omega) (by omega) (intCells_len _) rfl (by simp) (fun a ha j u hj => by
     cases ha
     have e1 : (⟨g, 0, none⟩ : Addr).add j = ⟨g, j, none⟩ := by unfold Addr.add; split <;> simp_all
     rw [e1]
     have := hb1 j u hj
     rwa [Nat.zero_add] at this) hvs h1v
    rw [show Tryz.insertL_ren.t 3 = 3 from rfl] at hc
    refine Calls.mono hc ?_
    rintro e w' ⟨rfl, rfl⟩
    have hg := grownCap_ge w (zs.length + 1) c 3
    have hm := grownCap_le_maxLen w (zs.length + 1) c 3 (by unfold maxLen; omega)
    refine ⟨_, rfl, ⟨by rw [intCells_len, hln]; simp, .inr ⟨w.heap.size, _, _, rfl, Nat.zero_le _, blk_new w.drew _, hg, hm, ?_, ?_⟩⟩, (Same.drew _ w).trans (Same.alloc _ _ _), .inr ⟨_, rfl, Nat.le_refl _⟩⟩
    ·simp [Builtin.zeroCells, Value.cells, intCells_len]
     omega
    ·rw [show insAt zs zs.length x = zs ++ [x] by simp [insAt], intCells_snoc, Array.toList_append]
     exact List.take_left' (by simp [intCells_len])
  ·have hlt : i < zs.length := by omega
   by_cases hroom : zs.length + 1 ≤ c
   ·have hc := Any2.slices_Insert_int_shift Tryz.insertL g 0 zs.length c i vb 0 1 1 (intCells zs) [.int .i64 x] w hlt (by omega) hroom (by unfold maxLen at h5; omega) hvg (intCells_len _) rfl hb1 (fun j hj => by
     rw [blk_cell h3, Array.getElem?_eq_getElem (by omega)]; rfl) (fun j hj => blk_free h3 _) hvs (int_one zs) h1v 3 3 1 (c * 1) (by simp [World.shape?, hx]) (by simp [World.shape?, h3, h6]) (by omega) (blk_free hx _) (blk_free hx _)
    refine Calls.mono hc ?_
    rintro e w' ⟨rfl, rfl⟩
    refine ⟨_, rfl, ⟨by rw [intCells_len, hln]; simp, .inr ⟨g, c, _, rfl, h2, setCells_heap _ _ _ _ _ _ _ (setCells_heap _ _ _ _ _ _ _ (by exact h3)), hroom, h5, by simp [h6], ?_⟩⟩, ?_, .inl rfl⟩
    ·have e1 : (zs.length + 1) * 1 = (intCells (insAt zs i x)).length := by rw [intCells_len, hln]; simp
     rw [e1]
     refine take_of_get (by rw [intCells_len, hln]; simp [h6]; omega) (fun t ht => ?_)
     rw [intCells_len, hln] at ht
     rw [insAt_get _ _ _ hi _ ht, get_setMany _ _ _ _ (by simp [h6]; omega), get_setMany _ _ _ _ (by rw [h6]; omega)]
     have hdl : ((intCells zs).drop i).length = zs.length - i := by rw [List.length_drop, intCells_len]
     by_cases h1 : t < i
     ·rw [if_pos h1, if_neg (by simp; omega), if_neg (by omega), cur_get h6 h4 h7 t (by omega)]
     ·rw [if_neg h1]
      by_cases h2' : t = i
      ·subst h2'
       rw [if_pos rfl, if_pos (by simp)]
       simp
      ·rw [if_neg h2', if_neg (by simp; omega), if_pos (by rw [hdl]; omega)]
       have hlt2 : t - (0 + (i + 1)) < ((intCells zs).drop i).length := by rw [hdl]; omega
       rw [getElem!_pos ((intCells zs).drop i) _ hlt2, List.getElem_drop, List.getD_eq_getElem?_getD]
       have e2 : i + (t - (0 + (i + 1))) = t - 1 := by omega
       simp only [e2]
       rw [List.getElem?_eq_getElem (by rw [intCells_len]; omega)]
       rfl
    ·exact ((Same.drew _ w).trans (Same.setCells _ (by simp [Value.ownBlock]) _ _ _)).trans (Same.setCells _ (by simp [Value.ownBlock]) _ _ _)
   ·have hc := Any2.slices_Insert_int_grow Tryz.insertL g 0 zs.length c i vb 0 1 1 (intCells zs) [.int .i64 x] w hlt (by omega) h4 (by omega) (by omega) (intCells_len _) rfl hb1 hvs (int_one zs) h1v
    rw [show Tryz.insertL_ren.t 3 = 3 from rfl] at hc
    refine Calls.mono hc ?_
    rintro e w' ⟨rfl, rfl⟩
    have hg := grownCap_ge w (zs.length + 1) c 3
    have hm := grownCap_le_maxLen w (zs.length + 1) c 3 (by unfold maxLen; omega)
    have hz : ∀ m : Nat, (Builtin.zeroCells (Value.int .i64 0).cells m).size = m := fun m => by simp [Builtin.zeroCells, Value.cells]
    have hlt3 : (((intCells zs).take i).toArray ++ Builtin.zeroCells (Value.int .i64 0).cells (zs.length + 1 - i) ++ Builtin.zeroCells (Value.int .i64 0).cells (grownCap w (zs.length + 1) c 3 - (zs.length + 1))).size = grownCap w (zs.length + 1) c 3 := by
     rw [Array.size_append, Array.size_append, hz, hz]
     simp [intCells_len]
     omega
    refine ⟨_, rfl, ⟨by rw [intCells_len, hln]; simp, .inr ⟨w.heap.size, _, _, rfl, Nat.zero_le _, setCells_heap _ _ _ _ _ _ _ (setCells_heap _ _ _ _ _ _ _ (blk_new w _)), hg, hm, ?_, ?_⟩⟩, ?_, .inr ⟨_, rfl, Nat.le_refl _⟩⟩
    ·rw [size_setMany, size_setMany, hlt3]; simp
    ·have e1 : (zs.length + 1) * 1 = (intCells (insAt zs i x)).length := by rw [intCells_len, hln]; simp
     rw [e1]
     refine take_of_get (by rw [intCells_len, hln, size_setMany, size_setMany, hlt3]; exact hg) (fun t ht => ?_)
     rw [intCells_len, hln] at ht
     rw [insAt_get _ _ _ hi _ ht, get_setMany _ _ _ _ (by rw [size_setMany, hlt3]; omega), get_setMany _ _ _ _ (by rw [hlt3]; omega)]
     have hdl : ((intCells zs).drop i).length = zs.length - i := by rw [List.length_drop, intCells_len]
     by_cases h1 : t < i
     ·rw [if_pos h1, if_neg (by rw [hdl]; omega), if_neg (by simp; omega)]
      have : t < ((intCells zs).take i).length := by rw [List.length_take, intCells_len]; omega
      rw [getElem!_pos _ _ (by rw [hlt3]; omega), Array.getElem_append_left (by rw [Array.size_append]; simp only [List.size_toArray]; omega), Array.getElem_append_left (by simpa using this)]
      simp only [List.getElem_toArray, List.getElem_take]
      rw [List.getD_eq_getElem?_getD, List.getElem?_eq_getElem (by rw [intCells_len]; omega)]
      rfl
     ·rw [if_neg h1]
      by_cases h2' : t = i
      ·subst h2'
       rw [if_pos rfl, if_neg (by rw [hdl]; omega), if_pos (by simp)]
       simp
      ·rw [if_neg h2', if_pos (by rw [hdl]; omega)]
       have hlt2 : t - (i + 1) < ((intCells zs).drop i).length := by rw [hdl]; omega
       rw [getElem!_pos ((intCells zs).drop i) _ hlt2, List.getElem_drop, List.getD_eq_getElem?_getD]
       have e2 : i + (t - (i + 1)) = t - 1 := by omega
       simp only [e2]
       rw [List.getElem?_eq_getElem (by rw [intCells_len]; omega)]
       rfl
    ·have hS : ∀ (o : Nat) (vs : List Value) (W : World), w.heap.size < W.heap.size → Same (Value.slice (some ⟨g, 0, none⟩) zs.length c).ownBlock.toList w W → Same (Value.slice (some ⟨g, 0, none⟩) zs.length c).ownBlock.toList w (W.setCells w.heap.size o vs) := fun o vs W _ hW =>
      hW.then (Same.setCells w.heap.size (S := [w.heap.size]) (by simp) vs o W) (fun y hy => by simp at hy; subst hy; exact .inr (Nat.le_refl _))
     have h01 := (Same.alloc (Value.slice (some ⟨g, 0, none⟩) zs.length c).ownBlock.toList w (.cells ((((intCells zs).take i).toArray ++ Builtin.zeroCells (Value.int .i64 0).cells (zs.length + 1 - i) ++ Builtin.zeroCells (Value.int .i64 0).cells (grownCap w (zs.length + 1) c 3 - (zs.length + 1)))) 3)).trans (Same.drew _ _)
     have h02 := hS i [.int .i64 x] _ (by simp) h01
     have h03 := h02.trans (Same.drew _ _)
     have := hS (i + 1) ((intCells zs).drop i) _ (by have := h03.size; have h04 := (Same.setCells w.heap.size (S := [w.heap.size]) (by simp) [Value.int .i64 x] i ((w.alloc (.cells ((((intCells zs).take i).toArray ++ Builtin.zeroCells (Value.int .i64 0).cells (zs.length + 1 - i) ++ Builtin.zeroCells (Value.int .i64 0).cells (grownCap w (zs.length + 1) c 3 - (zs.length + 1)))) 3)).drew)).size; simp at h04 ⊢ <;> omega) h03
     exact this
end Go.Proofs.YtdhkmfpfbjcdiaaGreatDoor
