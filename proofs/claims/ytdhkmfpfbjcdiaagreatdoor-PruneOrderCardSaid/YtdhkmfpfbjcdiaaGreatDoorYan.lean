/- lemmalaw texts, part 14. -/
import Derived.Test.YtdhkmfpfbjcdiaaGreatDoorYag
import Derived.Test.YtdhkmfpfbjcdiaaGreatDoorYaj
import Derived.Test.YtdhkmfpfbjcdiaaGreatDoorYam
set_option maxRecDepth 100000
set_option linter.unusedVariables false
set_option linter.unusedSimpArgs false
set_option maxHeartbeats 32000000
namespace Go.Proofs.YtdhkmfpfbjcdiaaGreatDoor
open Go.RowKit
def pairsUp : List Int → List Int → List Pr
 | _, [] => []
 | before, v :: r => before.map (fun w => (v, w)) ++ pairsUp (before ++ [v]) r
def allP (vars : List Int) : List Pr := (pairsUp [] vars).foldl putP []
theorem pairsUp_snoc (v : Int) : ∀ (l b : List Int), pairsUp b (l ++ [v]) = pairsUp b l ++ (b ++ l).map (fun w => (v, w))
 | [], b => by simp [pairsUp]
 | a :: l, b => by
  have := pairsUp_snoc v l (b ++ [a])
  simp only [List.cons_append, pairsUp, this, List.append_assoc]
  simp
theorem pairsUp_len : ∀ (l b : List Int), (pairsUp b l).length ≤ l.length * (b.length + l.length)
 | [], b => by simp [pairsUp]
 | a :: l, b => by
  have := pairsUp_len l (b ++ [a])
  simp only [pairsUp, List.length_append, List.length_map, List.length_cons, List.length_nil] at this ⊢
  have e : l.length * (b.length + (0 + 1) + l.length) = l.length * (b.length + (l.length + 1)) := by congr 1; omega
  rw [e] at this
  rw [Nat.succ_mul]
  omega
def AllI (w : World) (b : Nat) (vars : List Int) (u : Value) (W : World) : Prop :=
 ∃ k : Nat, k ≤ vars.length ∧ u = .int .i64 k ∧ PSet W b ((pairsUp [] (vars.take k)).foldl putK []) ∧ Same [] w W
def AllJ (w : World) (b : Nat) (vars : List Int) (k : Nat) (x : Int) (u : Value) (W : World) : Prop :=
 ∃ j : Nat, j ≤ k ∧ u = .int .i64 j ∧ PSet W b ((pairsUp [] (vars.take k) ++ (vars.take j).map (fun y => (x, y))).foldl putK []) ∧ Same [] w W
theorem AllJ.step {w W W' : World} {b : Nat} {vars : List Int} {k j : Nat} {x : Int} (hk : k ≤ vars.length) (hj : j < k) (hs : Same [] w W) (hb : w.heap.size ≤ b) (h : PSet W' b (putK ((pairsUp [] (vars.take k) ++ (vars.take j).map (fun y => (x, y))).foldl putK []) (x, vars[j]'(by omega)))) (hs' : Same [b] W W') : AllJ w b vars k x (.int .i64 ((j : Int) + 1)) W' := by
 refine ⟨j + 1, hj, by go_num, ?_, hs.then hs' (fun x hx => by simp at hx; subst hx; exact .inr hb)⟩
 rw [List.take_succ_eq_append_getElem (by omega), List.map_append, ← List.append_assoc, List.foldl_append]
 exact h
theorem AllI.step {w W : World} {b : Nat} {vars : List Int} {k : Nat} (hk : k < vars.length) (hs : Same [] w W) (h : PSet W b ((pairsUp [] (vars.take k) ++ (vars.take k).map (fun y => (vars[k], y))).foldl putK [])) : AllI w b vars (.int .i64 ((k : Int) + 1)) W := by
 refine ⟨k + 1, hk, by go_num, ?_, hs⟩
 rw [List.take_succ_eq_append_getElem hk, pairsUp_snoc]
 exact h
def AllPR (vars : List Int) (w : World) (e : Ending) (w' : World) : Prop := ∃ v, e = .returned (.tuple #[v, .int .i64 0]) ∧ Row w' 113 2 v (allP vars).length (prCells (allP vars)) ∧ Same [] w w' ∧ (∀ b, v.ownBlock = some b → w.heap.size ≤ b)
theorem All_calls (va : Value) (vars : List Int) (w : World) (ha : Row w 3 1 va vars.length (intCells vars)) (hn : vars.length ≤ 300) (hnd : vars.Nodup) :
  Calls Tryz.prog 125 #[va] w (AllPR vars w) := by
 have hmm := @run_makeMap Tryz.prog
 obtain ⟨Aa, ca, rfl⟩ := ha.shape
 have Ha := Kd ha
 have Hnd := Kd hnd
 clear ha hnd
 go_enter Tryz.func125, Tryz.ntmps125
 go_wp2
 have h0 : AllI w w.heap.size vars (.int .i64 0) (w.alloc (.map #[] 0)) := ⟨0, Nat.zero_le _, rfl, KMap.new _ _ _, Same.alloc _ _ _⟩
 have H0 := Kd h0
 clear h0
 go_loopw [15] (fun u wr => AllI w w.heap.size vars u wr) (fun u _ => vars.length - (intOf u).toNat)
 case atStart => exact H0.out
 case round =>
  obtain ⟨k, hk, rfl, hset, hsm⟩ := hrel
  by_cases hlt : k < vars.length
  ·obtain ⟨g, c, hv, t0, hgl⟩ := ints_cell (Ha.out.same hsm (by simp)) hlt
   cases hv
   have hcap : vars.length ≤ ca := by
    rcases Ha.out.2 with ⟨h1, h2⟩ | ⟨g', cap, cur, h1, h2, h3, h4, _⟩
    ·cases h1
    ·cases h1; exact h4
   have h0 : AllJ w w.heap.size vars k vars[k] (.int .i64 0) wr := ⟨0, Nat.zero_le _, rfl, by simpa using hset, hsm⟩
   have HJ := Kd h0
   obtain ⟨w1, hw1⟩ : ∃ w1, w1 = wr := ⟨_, rfl⟩
   subst hw1
   clear h0 hset hsm
   go_wp2
   go_loopw [24] (fun u wr => AllJ w w.heap.size vars k vars[k] u wr) (fun u _ => k - (intOf u).toNat)
   case atStart => exact HJ.out
   case round =>
    obtain ⟨j, hj, rfl, hset, hsm⟩ := hrel
    by_cases hjk : j < k
    ·obtain ⟨g2, c2, hv2, s0, hgl2⟩ := ints_cell (Ha.out.same hsm (by simp)) (k := j) (by omega)
     cases hv2
     have hne : (vars[k] == vars[j]) = false := by
      rw [beq_eq_false_iff_ne]
      exact fun e => List.pairwise_iff_getElem.1 Hnd.out j k (by omega) hlt hjk e.symm
     have Hset := Kd hset
     have Hsm := Kd hsm
     clear hset hsm
     have hput := fun W (hW : PSet W _ _) => put_calls w.heap.size ((pairsUp [] (vars.take k) ++ (vars.take j).map (fun y => (vars[k], y))).foldl putK []) (vars[k], vars[j]) W hW
     go_wp2_with (go_at_call 158; go_must (refine (hput _ Hset.out).mono ?_; rintro e W3 ⟨⟨v3, rfl⟩, hset3, hs3⟩; have Hset3 := Kd hset3; have Hs3 := Kd hs3; clear hset3 hs3))
     go_roundw
     case rel => exact AllJ.step hk hjk Hsm.out (Nat.le_refl _) Hset3.out Hs3.out
     case measure => simp [intOf]; omega
    ·have hjj : j = k := by omega
     subst hjj
     have Hset := Kd hset
     have Hsm := Kd hsm
     clear hset hsm
     go_wp2
     go_roundw
     case rel => exact AllI.step hlt Hsm.out Hset.out
     case measure => simp [intOf]; omega
  ·have hkk : k = vars.length := by omega
   subst hkk
   rw [List.take_length] at hset
   have hlen := foldK_len (pairsUp [] vars) []
   have hpl := pairsUp_len vars []
   have hb : vars.length * (([] : List Int).length + vars.length) ≤ 300 * 300 := Nat.mul_le_mul hn (by simpa using hn)
   have hinv : PInv ((pairsUp [] vars).foldl putK []) (allP vars) := PInv.nil.fold _
   have hlist := fun W (hW : PSet W _ _) => list_calls w.heap.size ((pairsUp [] vars).foldl putK []) (allP vars) hinv (by simp at hlen; omega) W hW
   have Hset' := Kd hset
   have Hsm' := Kd hsm
   clear hset hsm hinv hlen hpl hb hlt hk
   go_wp2_with (go_at_call 159; go_must (refine (hlist _ Hset'.out).mono ?_; rintro e W4 ⟨v4, rfl, hr4, hs4, hv4⟩))
   go_ret2
   exact ⟨_, rfl, hr4, Hsm'.out.trans hs4, fun b hb => by have := hv4 b hb; have := Hsm'.out.size; omega⟩
def onlyP (l : List Pr) (vars : List Int) : List Pr := (l.filter fun p => vars.contains p.1 && vars.contains p.2).foldl putP []
theorem zeroUnit (w : World) : (zeroValue 93).run Tryz.prog w = .ok (.agg #[]) w := by kernel_rfl
abbrev ISet (w : World) (b : Nat) (l : List (Int × Value)) : Prop := KMap intV w b l
def setOfI (l : List Int) : List (Int × Value) := l.foldl (fun m x => aput x (Value.agg #[]) m) []
theorem aget_aput' {α β : Type} [DecidableEq α] {k x : α} {v : β} : ∀ {l : List (α × β)}, aget x (aput k v l) = if x = k then some v else aget x l
 | [] => by simp [aput, aget]
 | (k', v') :: r => by
  have ih := aget_aput' (k := k) (x := x) (v := v) (l := r)
  by_cases h1 : k = k'
  ·subst h1
   rw [aput, if_pos rfl, aget, aget]
   split <;> simp_all
  ·rw [aput, if_neg h1, aget, aget, ih]
   by_cases h2 : x = k'
   ·subst h2
    rw [if_pos rfl, if_neg (fun e => h1 e.symm), if_pos rfl]
   ·rw [if_neg h2, if_neg h2]
theorem get_setOfI (l : List Int) (x : Int) : (aget x (setOfI l)).isSome = l.contains x ∧ (aget x (setOfI l)).getD (.agg #[]) = .agg #[] := by
 unfold setOfI
 have key : ∀ (l : List Int) (m : List (Int × Value)), (aget x (l.foldl (fun m x => aput x (Value.agg #[]) m) m)).isSome = (l.contains x || (aget x m).isSome) ∧ ((aget x m).getD (.agg #[]) = .agg #[] → (aget x (l.foldl (fun m x => aput x (Value.agg #[]) m) m)).getD (.agg #[]) = .agg #[]) := by
  intro l
  induction l with
  | nil => intro m; simp
  | cons a l ih =>
   intro m
   have h := ih (aput a (.agg #[]) m)
   rw [aget_aput'] at h
   simp only [List.foldl_cons]
   by_cases ha : x = a
   ·subst ha
    refine ⟨by rw [h.1]; simp, fun _ => h.2 (by simp)⟩
   ·rw [if_neg ha] at h
    refine ⟨?_, fun hm => h.2 hm⟩
    rw [h.1]
    simp [ha]
 have h := key l []
 exact ⟨by rw [h.1]; simp [aget], h.2 (by simp [aget])⟩
theorem setOfI_snoc (l : List Int) (x : Int) : setOfI (l ++ [x]) = aput x (.agg #[]) (setOfI l) := by simp [setOfI]
def OnlyI (w : World) (b : Nat) (vars : List Int) (u : Value) (W : World) : Prop :=
 ∃ k : Nat, k ≤ vars.length ∧ u = .int .i64 k ∧ ISet W b (setOfI (vars.take k)) ∧ Same [] w W
def OnlyJ (w : World) (b b2 : Nat) (vars : List Int) (ps : List Pr) (u : Value) (W : World) : Prop :=
 ∃ k : Nat, k ≤ ps.length ∧ u = .int .i64 k ∧ ISet W b (setOfI vars) ∧ PSet W b2 (((ps.take k).filter fun p => vars.contains p.1 && vars.contains p.2).foldl putK []) ∧ Same [] w W
theorem Only_calls (va vb : Value) (ps : List Pr) (vars : List Int) (w : World) (ha : Row w 113 2 va ps.length (prCells ps)) (hb : Row w 3 1 vb vars.length (intCells vars)) (hn : ps.length ≤ 1000000) (hnv : vars.length ≤ 1000000000) :
  Calls Tryz.prog 164 #[va, vb] w (PairsR (onlyP ps vars) w) := by
 have hmm := @run_makeMap Tryz.prog
 obtain ⟨Aa, ca, rfl⟩ := ha.shape
 obtain ⟨Ab, cb, rfl⟩ := hb.shape
 have Ha := Kd ha
 have Hb := Kd hb
 clear ha hb
 go_enter Tryz.func164, Tryz.ntmps164
 go_wp2
 have h0 : OnlyI w w.heap.size vars (.int .i64 0) (w.alloc (.map #[] 0)) := ⟨0, Nat.zero_le _, rfl, KMap.new _ _ _, Same.alloc _ _ _⟩
 have H0 := Kd h0
 clear h0
 go_loopw [18] (fun u wr => OnlyI w w.heap.size vars u wr) (fun u _ => vars.length - (intOf u).toNat)
 case atStart => exact H0.out
 case round =>
  obtain ⟨k, hk, rfl, hset, hsm⟩ := hrel
  by_cases hlt : k < vars.length
  ·obtain ⟨g, c, hv, t0, hgl⟩ := ints_cell (Hb.out.same hsm (by simp)) hlt
   cases hv
   have Hset := Kd hset
   have Hsm := Kd hsm
   clear hset hsm
   go_wp2_with (at_mapUpdate; go_must (refine wp_kput intKey Hset.out Tryz.underlying266 rfl _ _ _ rfl vars[k] (.agg #[]) rfl rfl rfl ?_; intro W3 hset3 hs3; have Hset3 := Kd hset3; have Hs3 := Kd hs3; clear hset3 hs3))
   go_roundw
   case rel =>
    refine ⟨k + 1, hlt, by go_num, ?_, Hsm.out.then Hs3.out (fun x hx => by simp at hx; subst hx; exact .inr (Nat.le_refl _))⟩
    rw [List.take_succ_eq_append_getElem hlt, setOfI_snoc]; exact Hset3.out
   case measure => simp [intOf]; omega
  ·have hkk : k = vars.length := by omega
   subst hkk
   rw [List.take_length] at hset
   obtain ⟨w1, hw1⟩ : ∃ w1, w1 = wr := ⟨_, rfl⟩
   subst hw1
   have hsl := hset.lt
   have hsz := hsm.size
   have h1 : OnlyJ w w.heap.size w1.heap.size vars ps (.int .i64 0) (w1.alloc (.map #[] 0)) := ⟨0, Nat.zero_le _, rfl, hset.same (Same.alloc [] _ _) (by simp), KMap.new _ _ _, hsm.trans (Same.alloc _ _ _)⟩
   have H1 := Kd h1
   clear h1 H0 hset hsm hlt hk
   go_wp2
   go_loopw [29] (fun u wr => OnlyJ w w.heap.size w1.heap.size vars ps u wr) (fun u _ => ps.length - (intOf u).toNat)
   case atStart => exact H1.out
   case round =>
    obtain ⟨k, hk, rfl, hset, hps, hsm⟩ := hrel
    by_cases hlt : k < ps.length
    ·obtain ⟨g, c, hv, hcell⟩ := (Row.same Ha.out hsm (by simp)).elem (i := k) hlt (ys := encPr ps[k]) rfl (prCells_at ps k hlt) (by decide)
     have t0 := (hcell 0 (by decide)).1
     have t1 := (hcell 1 (by decide)).1
     simp only [encPr, List.getD_cons_zero, List.getD_cons_succ, Nat.add_zero] at t0 t1
     cases hv
     have hgl := World.block_lt_of_cell? _ _ t0
     clear hcell
     obtain ⟨e1, z1⟩ := get_setOfI vars ps[k].1
     obtain ⟨e2, z2⟩ := get_setOfI vars ps[k].2
     have hl1 := fun o => (hset.same (Same.alloc [] wr o) (by simp)).run_lookup (P := Tryz.prog) intKey Tryz.underlying266 (zeroUnit _) ps[k].1 true
     have hl2 := fun o o' => (hset.same ((Same.alloc [] wr o).trans (Same.alloc [] _ o')) (by simp)).run_lookup (P := Tryz.prog) intKey Tryz.underlying266 (zeroUnit _) ps[k].2 true
     rw [if_pos rfl, z1, e1] at hl1
     rw [if_pos rfl, z2, e2] at hl2
     have Hset := Kd hset
     have Hps := Kd hps
     have Hsm := Kd hsm
     obtain ⟨x1, hx1⟩ : ∃ x1, vars.contains ps[k].1 = x1 := ⟨_, rfl⟩
     obtain ⟨x2, hx2⟩ : ∃ x2, vars.contains ps[k].2 = x2 := ⟨_, rfl⟩
     rw [hx1] at hl1
     rw [hx2] at hl2
     have Hx1 := Kd hx1
     have Hx2 := Kd hx2
     unfold intV at hl1 hl2
     clear hset hps hsm e1 z1 e2 z2 hx1 hx2
     cases x1 <;> cases x2
     ·go_wp2
      have hs4 : ∀ o o' o'', Same [] wr (((wr.alloc o).alloc o').alloc o'') := fun o o' o'' => ((Same.alloc [] wr o).trans (Same.alloc [] _ o')).trans (Same.alloc [] _ o'')
      refine ⟨⟨k + 1, hlt, by go_num, Hset.out.same (hs4 _ _ _) (by simp), ?_, Hsm.out.trans (hs4 _ _ _)⟩, by simp [intOf]; omega⟩
      rw [List.take_succ_eq_append_getElem hlt, List.filter_append, List.foldl_append]
      simp only [List.filter_cons, List.filter_nil, Hx1.out, Hx2.out, Bool.and_false, Bool.and_true, Bool.and_self, Bool.false_eq_true, if_false, List.foldl_nil]
      exact Hps.out.same (hs4 _ _ _) (by simp)
     ·go_wp2
      have hs4 : ∀ o o' o'', Same [] wr (((wr.alloc o).alloc o').alloc o'') := fun o o' o'' => ((Same.alloc [] wr o).trans (Same.alloc [] _ o')).trans (Same.alloc [] _ o'')
      refine ⟨⟨k + 1, hlt, by go_num, Hset.out.same (hs4 _ _ _) (by simp), ?_, Hsm.out.trans (hs4 _ _ _)⟩, by simp [intOf]; omega⟩
      rw [List.take_succ_eq_append_getElem hlt, List.filter_append, List.foldl_append]
      simp only [List.filter_cons, List.filter_nil, Hx1.out, Hx2.out, Bool.and_false, Bool.and_true, Bool.and_self, Bool.false_eq_true, if_false, List.foldl_nil]
      exact Hps.out.same (hs4 _ _ _) (by simp)
     ·go_wp2
      have hs4 : ∀ o o' o'', Same [] wr (((wr.alloc o).alloc o').alloc o'') := fun o o' o'' => ((Same.alloc [] wr o).trans (Same.alloc [] _ o')).trans (Same.alloc [] _ o'')
      refine ⟨⟨k + 1, hlt, by go_num, Hset.out.same (hs4 _ _ _) (by simp), ?_, Hsm.out.trans (hs4 _ _ _)⟩, by simp [intOf]; omega⟩
      rw [List.take_succ_eq_append_getElem hlt, List.filter_append, List.foldl_append]
      simp only [List.filter_cons, List.filter_nil, Hx1.out, Hx2.out, Bool.and_false, Bool.and_true, Bool.and_self, Bool.false_eq_true, if_false, List.foldl_nil]
      exact Hps.out.same (hs4 _ _ _) (by simp)
     ·have hput := fun W (hW : PSet W _ _) => put_calls w1.heap.size (((ps.take k).filter fun p => vars.contains p.1 && vars.contains p.2).foldl putK []) ps[k] W hW
      have hs3a : ∀ o o' o'', Same [] wr (((wr.alloc o).alloc o').alloc o'') := fun o o' o'' => ((Same.alloc [] wr o).trans (Same.alloc [] _ o')).trans (Same.alloc [] _ o'')
      go_wp2_with (go_at_call 158; go_must (refine (hput _ (Hps.out.same (hs3a _ _ _) (by simp))).mono ?_; rintro e W3 ⟨⟨v3, rfl⟩, hset3, hs3⟩; have Hset3 := Kd hset3; have Hs3 := Kd hs3; clear hset3 hs3))
      go_roundw
      case rel =>
       have hs4 : Same [w1.heap.size] wr W3 := Same.trans ((hs3a _ _ _).mono (by simp)) Hs3.out
       refine ⟨k + 1, hlt, by go_num, Hset.out.same hs4 (by simp; omega), ?_, Hsm.out.then hs4 (fun x hx => by simp at hx; subst hx; exact .inr (by omega))⟩
       rw [List.take_succ_eq_append_getElem hlt, List.filter_append, List.foldl_append]
       simp only [List.filter_cons, List.filter_nil, Hx1.out, Hx2.out, Bool.and_self, if_true, List.foldl_cons, List.foldl_nil]
       exact Hset3.out
      case measure => simp [intOf]; omega
    ·have hkk : k = ps.length := by omega
     subst hkk
     rw [List.take_length] at hps
     have hlen := foldK_len (ps.filter fun p => vars.contains p.1 && vars.contains p.2) []
     have hfl := List.length_filter_le (fun p : Pr => vars.contains p.1 && vars.contains p.2) ps
     have hinv : PInv ((ps.filter fun p => vars.contains p.1 && vars.contains p.2).foldl putK []) (onlyP ps vars) := PInv.nil.fold _
     have hlist := fun W (hW : PSet W _ _) => list_calls w1.heap.size ((ps.filter fun p => vars.contains p.1 && vars.contains p.2).foldl putK []) (onlyP ps vars) hinv (by rw [List.length_nil] at hlen; omega) W hW
     have Hset' := Kd hps
     have Hsm' := Kd hsm
     clear hset hps hsm hinv hlen hfl hlt hk
     go_wp2_with (go_at_call 159; go_must (refine (hlist _ Hset'.out).mono ?_; rintro e W4 ⟨v4, rfl, hr4, hs4, hv4⟩))
     go_ret
     exact ⟨_, rfl, hr4, Hsm'.out.trans hs4, fun b hb => by have := hv4 b hb; have := Hsm'.out.size; omega⟩
def insI (x : Int) : List Int → List Int
 | [] => [x]
 | y :: r => if x < y then x :: y :: r else y :: insI x r
def varsStep (vars : Int → Bool) (out : List Int) (x : Int) : List Int := if out.contains x then out else if vars x then insI x out else out
def varsOf (e : List Int) (vars : Int → Bool) : List Int := e.foldl (varsStep vars) []
def Tbl.isVar (T : Tbl) (n : Int) : Bool := decide (0 ≤ n) && ((T.syms[n.toNat]?).map (·.2)).getD false
abbrev Rising (l : List Int) : Prop := l.Pairwise (· < ·)
theorem mem_insI {x y : Int} : ∀ {l : List Int}, y ∈ insI x l ↔ y = x ∨ y ∈ l
 | [] => by simp [insI]
 | z :: r => by
  unfold insI
  split
  ·simp
  ·simp only [List.mem_cons, mem_insI (l := r)]
   constructor
   ·rintro (h | h | h) <;> simp [h]
   ·rintro (h | h | h) <;> simp [h]
theorem rising_insI {x : Int} : ∀ {l : List Int}, Rising l → x ∉ l → Rising (insI x l)
 | [], _, _ => by simp [insI, Rising]
 | z :: r, h, hn => by
  unfold Rising at h ⊢
  rw [List.pairwise_cons] at h
  simp only [List.mem_cons, not_or] at hn
  unfold insI
  split
  ·rename_i hlt
   rw [List.pairwise_cons, List.pairwise_cons]
   refine ⟨fun y hy => ?_, h⟩
   rcases List.mem_cons.1 hy with rfl | hy
   ·exact hlt
   ·have := h.1 y hy; omega
  ·rw [List.pairwise_cons]
   refine ⟨fun y hy => ?_, rising_insI (l := r) h.2 hn.2⟩
   rcases mem_insI.1 hy with rfl | hy
   ·omega
   ·exact h.1 y hy
theorem insAt_insI {x : Int} : ∀ {l : List Int}, Rising l → x ∉ l → insAt l (l.countP (· < x)) x = insI x l
 | [], _, _ => by simp [insAt, insI]
 | z :: r, h, hn => by
  unfold Rising at h
  rw [List.pairwise_cons] at h
  simp only [List.mem_cons, not_or] at hn
  have ih := insAt_insI (l := r) h.2 hn.2
  unfold insI
  by_cases hlt : x < z
  ·rw [if_pos hlt]
   have h0 : (z :: r).countP (· < x) = 0 := by
    rw [List.countP_eq_zero]
    intro y hy
    rcases List.mem_cons.1 hy with rfl | hy
    ·simp; omega
    ·have := h.1 y hy; simp; omega
   rw [h0]
   simp [insAt]
  ·rw [if_neg hlt, ← ih]
   have hz : z < x := by omega
   rw [List.countP_cons_of_pos (by simpa using hz)]
   simp [insAt]
theorem insI_len (x : Int) : ∀ l : List Int, (insI x l).length = l.length + 1
 | [] => rfl
 | y :: r => by
  unfold insI
  split
  ·rfl
  ·simp [insI_len x r]
theorem BinSearch_calls (v : Value) (zs : List Int) (x : Int) (w : World) (h : Row w 3 1 v zs.length (intCells zs)) (hs : Rising zs) (hn : zs.length ≤ 1000000) :
  Calls Tryz.prog 175 #[v, .int .i64 x] w fun e w' => e = .returned (.tuple #[.int .i64 (zs.countP (· < x) : Nat), .bool (zs.contains x)]) ∧ Same [] w w' := by
 rcases h.2 with ⟨rfl, h0⟩ | ⟨g, c, cur, rfl, h2, h3, h4, h5, h6, h7⟩
 ·have hz : zs = [] := List.eq_nil_of_length_eq_zero h0
  subst hz
  refine (Tryz.slices_BinarySearch_int_empty none 0 x w).mono ?_
  rintro e w' ⟨rfl, rfl⟩
  exact ⟨by simp, Same.refl _ _⟩
 ·have hc := Tryz.slices_BinarySearch_int g 0 zs.length c zs x w (Nat.le_refl _) (by omega) (fun j hj => by
   obtain ⟨g', c', hv, h8, _⟩ := ints_cell0 h hj
   cases hv
   rw [Nat.zero_add, h8]
   simp [List.getD_eq_getElem?_getD, hj]) (by rw [List.take_length]; exact hs.imp (fun {a b} h => by omega))
  rw [List.take_length] at hc
  refine hc.mono ?_
  rintro e w' ⟨rfl, q, rfl⟩
  exact ⟨rfl, Same.drewN _ _ _⟩
structure VarsAt (w : World) (e : List Int) (vars : Int → Bool) (k : Nat) (out : List Int) (v : Value) (W : World) : Prop where
 eq : (e.take k).foldl (varsStep vars) [] = out
 row : Row W 3 1 v out.length (intCells out)
 own : ∀ b, v.ownBlock = some b → w.heap.size ≤ b
 base : Same [] w W
 rise : Rising out
 len : out.length ≤ k
def VarsI (w : World) (e : List Int) (vars : Int → Bool) (v u : Value) (W : World) : Prop := ∃ k out, k ≤ e.length ∧ u = .int .i64 (k : Nat) ∧ VarsAt w e vars k out v W
def IntsR (s : List Int) (w : World) (e : Ending) (w' : World) : Prop := ∃ v, e = .returned v ∧ Row w' 3 1 v s.length (intCells s) ∧ Same [] w w' ∧ (∀ b, v.ownBlock = some b → w.heap.size ≤ b)
theorem VarsAt.next {w W W' : World} {e : List Int} {vars : Int → Bool} {k : Nat} {out : List Int} {v : Value} (h : VarsAt w e vars k out v W) (hk : k < e.length) (hs : Same [] W W') (hsame : varsStep vars out e[k] = out) : VarsI w e vars v (.int .i64 ((k : Int) + 1)) W' :=
 ⟨k + 1, out, hk, by go_num, by rw [List.take_succ_eq_append_getElem hk, List.foldl_append, h.eq]; exact hsame, h.row.same hs (by simp), h.own, h.base.trans hs, h.rise, by have := h.len; omega⟩
theorem VarsAt.ins {w W W1 W' : World} {e : List Int} {vars : Int → Bool} {k : Nat} {out : List Int} {v v1 : Value} (h : VarsAt w e vars k out v W) (hk : k < e.length) (hs : Same [] W W1) (hc : out.contains e[k] = false) (hv : vars e[k] = true)
  (hr : Row W' 3 1 v1 (out.length + 1) (intCells (insAt out (out.countP (· < e[k])) e[k]))) (hs1 : Same v.ownBlock.toList W1 W') (ho : v1.ownBlock = v.ownBlock ∨ ∃ b, v1.ownBlock = some b ∧ W1.heap.size ≤ b) : VarsI w e vars v1 (.int .i64 ((k : Int) + 1)) W' := by
 have hnm : e[k] ∉ out := by simpa using hc
 have hst : varsStep vars out e[k] = insI e[k] out := by unfold varsStep; rw [if_neg (by simpa using hnm), if_pos hv]
 have hz1 := h.base.size
 have hz2 := hs.size
 refine ⟨k + 1, insI e[k] out, hk, by go_num, by rw [List.take_succ_eq_append_getElem hk, List.foldl_append, h.eq]; exact hst, ?_, ?_, ?_, rising_insI h.rise hnm, by rw [insI_len]; have := h.len; omega⟩
 ·rw [insAt_insI h.rise hnm] at hr
  rw [insI_len]
  exact hr
 ·intro b hb
  rcases ho with ho | ⟨c, hc', hle⟩
  ·exact h.own b (by rw [← ho]; exact hb)
  ·rw [hc'] at hb; cases hb; omega
 ·exact (h.base.trans hs).then hs1 (fun x hx => .inr (h.own x (Option.mem_toList.1 hx)))
theorem Vars_calls (va : Value) (e : List Int) (t : Nat) (A : TA) (T : Tbl) (w : World) (ha : Row w 3 1 va e.length (intCells e)) (hT : TblAt w t A T) (hn : e.length ≤ 1000000) :
  Calls Tryz.prog 162 #[va, .func (.func 27) #[.pointer (some ⟨t, 0, none⟩)] #[]] w (IntsR (varsOf e T.isVar) w) := by
 obtain ⟨Aa, ca, rfl⟩ := ha.shape
 have Ha := Kd ha
 have HT := Kd hT
 have hiv := fun (W : World) (hW : Same [] w W) (x : Int) => IsVar_calls W t A T (hT.same hW (by simp)) x
 clear ha hT
 go_enter Tryz.func162, Tryz.ntmps162
 go_wp2
 have h0 : VarsI w e T.isVar (.slice none 0 0) (.int .i64 0) w := ⟨0, [], Nat.zero_le _, rfl, rfl, World.ownsRow_nil _ _ _ _, by simp [Value.ownBlock], Same.refl _ _, by simp, by simp⟩
 have H0 := Kd h0
 clear h0
 go_loopw [5, 12] (fun v u wr => VarsI w e T.isVar v u wr) (fun _ u _ => e.length - (intOf u).toNat)
 case atStart => exact H0.out
 case round =>
  obtain ⟨k, out, hk, rfl, hat⟩ := hrel
  obtain ⟨Av, cv, rfl⟩ := hat.row.shape
  have hol := hat.len
  by_cases hlt : k < e.length
  ·obtain ⟨g, c, hv, t0, hgl⟩ := ints_cell (Ha.out.same hat.base (by simp)) hlt
   cases hv
   have Hat := Kd hat
   clear hat
   have hcnt : out.countP (· < e[k]) ≤ out.length := List.countP_le_length
   cases hc : out.contains e[k] with
   | true =>
    have Hc := Kd hc
    have hbs := BinSearch_calls (.slice Av out.length cv) out e[k] wr Hat.out.row Hat.out.rise (by omega)
    rw [hc] at hbs
    clear hc
    go_wp2_with (go_at_call 175; refine hbs.mono ?_; rintro e' W3 ⟨rfl, hs3⟩; have Hs3 := Kd hs3; clear hs3)
    go_roundw
    case rel => exact Hat.out.next hlt Hs3.out (by unfold varsStep; rw [if_pos Hc.out])
    case measure => simp [intOf]; omega
   | false =>
    have hbs := BinSearch_calls (.slice Av out.length cv) out e[k] wr Hat.out.row Hat.out.rise (by omega)
    rw [hc] at hbs
    have Hc := Kd hc
    clear hc
    cases hv : T.isVar e[k] with
    | false =>
     have hivk := fun W hW => hiv W hW e[k]
     have : (decide (0 ≤ e[k]) && ((T.syms[e[k].toNat]?).map (·.2)).getD false) = false := hv
     rw [this] at hivk
     have Hv := Kd hv
     clear hv this
     go_wp2_with (first
      | (go_at_call 175; refine hbs.mono ?_; rintro e' W3 ⟨rfl, hs3⟩; have Hs3 := Kd hs3; clear hs3)
      | (go_at_call 27; go_must (refine (hivk _ (Hat.out.base.trans Hs3.out)).mono ?_; rintro e' W4 ⟨rfl, hw4⟩; obtain rfl := hw4)))
     go_roundw
     case rel => exact Hat.out.next hlt Hs3.out (by unfold varsStep; rw [if_neg (by rw [Hc.out]; simp), if_neg (by rw [Hv.out]; simp)])
     case measure => simp [intOf]; omega
    | true =>
     have hivk := fun W hW => hiv W hW e[k]
     have : (decide (0 ≤ e[k]) && ((T.syms[e[k].toNat]?).map (·.2)).getD false) = true := hv
     rw [this] at hivk
     have Hv := Kd hv
     clear hv this
     obtain ⟨cnt, hcn⟩ : ∃ cnt, out.countP (· < e[k]) = cnt := ⟨_, rfl⟩
     rw [hcn] at hbs hcnt
     have Hcn := Kd hcn
     clear hcn
     go_wp2_with (first
      | (go_at_call 175; refine hbs.mono ?_; rintro e' W3 ⟨rfl, hs3⟩; have Hs3 := Kd hs3; clear hs3)
      | (go_at_call 27; go_must (refine (hivk _ (Hat.out.base.trans Hs3.out)).mono ?_; rintro e' W4 ⟨rfl, hw4⟩; obtain rfl := hw4))
      | (go_at_call 176; go_must (refine (Insert_calls (.slice Av out.length cv) out cnt e[k] W3.heap.size _ ((Hat.out.row.same Hs3.out (by simp)).same (Same.alloc [] _ _) (by simp)) hcnt (by omega) (blk_new _ _) (fun hb => by have := (Hat.out.row.same Hs3.out (by simp)).lt hb; omega)).mono ?_; rintro e' W5 ⟨v5, rfl, hr5, hs5, ho5⟩; obtain ⟨A5, c5, rfl⟩ := hr5.shape; have Hr5 := Kd hr5; have Hs5 := Kd hs5; have Ho5 := Kd ho5; clear hr5 hs5 ho5)))
     go_roundw
     case rel =>
      have hr5 := Hr5.out
      rw [← Hcn.out] at hr5
      exact Hat.out.ins hlt (Hs3.out.trans (Same.alloc [] W3 _)) Hc.out Hv.out hr5 Hs5.out Ho5.out
     case measure => simp [intOf]; omega
  ·have hkk : k = e.length := by omega
   subst hkk
   have Hat := Kd hat
   clear hat
   go_wp2
   go_ret
   have heq := Hat.out.eq
   rw [List.take_length] at heq
   have : varsOf e T.isVar = out := heq
   rw [this]
   exact ⟨.slice Av out.length cv, rfl, Hat.out.row, Hat.out.base, Hat.out.own⟩
end Go.Proofs.YtdhkmfpfbjcdiaaGreatDoor
namespace Go.Proofs.YtdhkmfpfbjcdiaaGreatDoor
structure Hy where
 label : ByteArray
 floating : Bool
 var : Int
 expr : List Int
structure Sc where
 hyps : List Hy
 pairs : List Pr
def typeOf : List Hy → Int → Option Int
 | [], _ => none
 | h :: r, v => if h.floating = true ∧ h.var = v then some (h.expr.headD 0) else typeOf r v
def typeS : List Sc → Int → Option Int
 | [], _ => none
 | s :: r, v => match typeOf s.hyps v with | some t => some t | none => typeS r v
def onLast (f : Sc → Sc) : List Sc → List Sc
 | [] => []
 | [s] => [f s]
 | s :: r => s :: onLast f r
def declS (s : List Sc) (h : Hy) : List Sc := onLast (fun x => { x with hyps := x.hyps ++ [h] }) s
def floatS (vars : Int → Bool) (s : List Sc) (label : ByteArray) (t v : Int) : Nat × List Sc :=
 if vars v = false then (71, s) else if vars t = true then (72, s) else if (typeS s v).isSome then (70, s)
 else (0, declS s ⟨label, true, v, [t, v]⟩)
def checkS (vars : Int → Bool) (s : List Sc) (e : List Int) : Nat :=
 match e with
 | [] => 72
 | x :: _ => if vars x = true then 72 else if (varsOf e vars).all (fun v => (typeS s v).isSome) then 0 else 70
def essS (vars : Int → Bool) (s : List Sc) (label : ByteArray) (e : List Int) : Nat × List Sc :=
 if checkS vars s e ≠ 0 then (checkS vars s e, s) else (0, declS s ⟨label, false, -1, e⟩)
def activeS (s : List Sc) : List Pr := s.foldl (fun out x => unionP out x.pairs) []
def distS (vars : Int → Bool) (s : List Sc) (l : List Int) : Nat × List Sc :=
 if l.all vars = false then (71, s)
 else if ¬ l.Nodup then (50, s)
 else if 256 < l.length ∨ 256 < l.length * (l.length - 1) / 2 then (22, s)
 else if 256 < (unionP (activeS s) (allP l)).length then (22, s)
 else (0, onLast (fun x => { x with pairs := unionP x.pairs (allP l) }) s)
def openS' (s : List Sc) : List Sc := if s.length - 1 = 16 then s else s ++ [⟨[], []⟩]
def closeS' (s : List Sc) : List Sc := if s.length - 1 = 0 then s else s.dropLast
def scopeHyps (s : List Sc) : List Hy := s.flatMap (·.hyps)
def mandS (vars : Int → Bool) (s : List Sc) (goal : List Int) : List Int := varsOf goal vars ++ ((scopeHyps s).filter fun h => !h.floating).flatMap fun h => varsOf h.expr vars
def frameHyps (vars : Int → Bool) (s : List Sc) (goal : List Int) : List Hy := (scopeHyps s).filter fun h => !h.floating || (mandS vars s goal).contains h.var
def frameVars (l : List Hy) : List Int := (l.filter fun h => h.floating).map (·.var)
def framePairs (vars : Int → Bool) (s : List Sc) (goal : List Int) : List Pr := onlyP (activeS s) (frameVars (frameHyps vars s goal))
structure Asr where
 number : Nat
 label : ByteArray
 isThm : Bool
 hyps : List Hy
 pairs : List Pr
 goal : List Int
 shyps : List Hy
 spairs : List Pr
 proof : List Tk
 at_ : Tk
 end_ : Tk
structure Ld where
 tbl : Tbl
 scs : List Sc
 asserts : List Asr
 finds : List (ByteArray × Nat)
 hyps : List (ByteArray × Hy)
 labels : Nat
def Ld.new : Ld := ⟨Tbl.empty, [⟨[], []⟩], [], [], [], 0⟩
abbrev Ex := Except (Tk × Nat)
def needE (t : Tk) (e : Nat) : Ex Unit := if e = 0 then .ok () else .error (t, e)
def Ld.taken (L : Ld) (s : ByteArray) : Bool := (aget s L.finds).isSome || (aget s L.hyps).isSome
def Ld.label (L : Ld) (t : Tk) : Ex Unit :=
 if nameOK t.text = false then .error (t, 21) else if L.taken t.text = true then .error (t, 20) else if 1024 ≤ L.labels then .error (t, 22) else .ok ()
def Ld.symbol (L : Ld) (t : Tk) : Ex Int := match aget t.text L.tbl.active with | some n => .ok n | none => .error (t, 30)
def Ld.variable_ (L : Ld) (t : Tk) : Ex Int := (L.symbol t).bind fun n => if L.tbl.isVar n = true then .ok n else .error (t, 71)
def Ld.floatGo (L : Ld) : List Tk → List Int → Ex (List Int)
 | [], e => .ok e
 | w :: r, e => if e = [] then (L.symbol w).bind fun n => if L.tbl.isVar n = true then .error (w, 72) else L.floatGo r [n]
  else (L.variable_ w).bind fun n => if (typeS L.scs n).isSome then .error (w, 70) else L.floatGo r (e ++ [n])
def Ld.exprGo (L : Ld) : List Tk → List Int → Ex (List Int)
 | [], e => .ok e
 | w :: r, e => if e.length = 200 then .error (w, 31) else (L.symbol w).bind fun n =>
  if L.tbl.isVar n = true then (if e = [] then .error (w, 72) else if (typeS L.scs n).isSome then L.exprGo r (e ++ [n]) else .error (w, 70))
  else L.exprGo r (e ++ [n])
def addKey {α : Type} [DecidableEq α] (ps : List α) (p : α) : List α := if p ∈ ps then ps else ps ++ [p]
def Ld.apartGo (L : Ld) : List Tk → List Int → List Pr → Ex (List Int)
 | [], v, _ => .ok v
 | w :: r, v, ps => (L.variable_ w).bind fun n => if v.contains n then .error (w, 50) else
  let ps' := (unionP (v.map fun x => (x, n)) []).foldl addKey ps
  if 256 < ps'.length then .error (w, 22) else L.apartGo r (v ++ [n]) ps'
def Ld.apart (L : Ld) (ws : List Tk) : Ex (List Int) := L.apartGo ws [] ((activeS L.scs).foldl addKey [])
def Ld.constGo (L : Ld) : List Tk → Ex Ld
 | [] => .ok L
 | w :: r => (needE w (L.tbl.const w.text).2.1).bind fun _ => Ld.constGo { L with tbl := (L.tbl.const w.text).2.2 } r
def Ld.varGo (L : Ld) : List Tk → Ex Ld
 | [] => .ok L
 | w :: r => (needE w (L.tbl.var w.text).2.1).bind fun _ => Ld.varGo { L with tbl := (L.tbl.var w.text).2.2 } r
def Ld.hyp (L : Ld) (s : St) (h : Hy) : Ex Ld :=
 (needE s.label (L.tbl.label h.label).1).bind fun _ => .ok { L with labels := L.labels + 1, tbl := (L.tbl.label h.label).2, hyps := aput h.label h L.hyps }
def Ld.assert (L : Ld) (s : St) (goal : List Int) : Ex Ld :=
  let vars := L.tbl.isVar
  (needE s.end_ (checkS vars L.scs goal)).bind fun _ => (needE s.label (L.tbl.label s.label.text).1).bind fun _ =>
    .ok { L with labels := L.labels + 1, tbl := (L.tbl.label s.label.text).2, finds := aput s.label.text L.asserts.length L.finds
                 asserts := L.asserts ++ [⟨L.asserts.length, s.label.text, decide (s.kind = 7), frameHyps vars L.scs goal, framePairs vars L.scs goal, goal, scopeHyps L.scs, activeS L.scs, s.proof, s.label, s.end_⟩] }
def St.whole (s : St) : Bool := decide (s.end_.text.size ≠ 0)
def Ld.act (L : Ld) (s : St) : Ex Ld :=
 if s.kind = 8 then (needE s.key L.tbl.openS.1).bind fun _ => .ok { L with tbl := L.tbl.openS.2, scs := openS' L.scs }
 else if s.kind = 9 then (needE s.key L.tbl.close.1).bind fun _ => .ok { L with tbl := L.tbl.close.2, scs := closeS' L.scs }
 else if s.kind = 1 then (if 0 < L.tbl.scopes.length then .error (s.key, 80) else L.constGo s.words)
 else if s.kind = 2 then L.varGo s.words
 else if s.kind = 5 then (L.apart s.words).bind fun v => if s.whole then
   (needE s.end_ (distS L.tbl.isVar L.scs v).1).bind fun _ => .ok { L with scs := (distS L.tbl.isVar L.scs v).2 } else .ok L
 else if s.kind = 3 then (L.floatGo s.words []).bind fun e => if s.whole then
   (L.hyp s ⟨s.label.text, true, e.getD 1 0, e⟩).bind fun M =>
    (needE s.end_ (floatS M.tbl.isVar M.scs s.label.text (e.getD 0 0) (e.getD 1 0)).1).bind fun _ => .ok { M with scs := (floatS M.tbl.isVar M.scs s.label.text (e.getD 0 0) (e.getD 1 0)).2 } else .ok L
 else if s.kind = 4 then (L.exprGo s.words []).bind fun e => if s.whole then
   (L.hyp s ⟨s.label.text, false, -1, e⟩).bind fun M =>
    (needE s.end_ (essS M.tbl.isVar M.scs s.label.text e).1).bind fun _ => .ok { M with scs := (essS M.tbl.isVar M.scs s.label.text e).2 } else .ok L
 else if s.kind = 6 ∨ s.kind = 7 then (L.exprGo s.words []).bind fun e => if s.whole then L.assert s e else .ok L
 else .ok L
def Ld.take (L : Ld) (s : St) : Ex Ld := if s.label.text.size ≠ 0 then (L.label s.label).bind fun _ => L.act s else L.act s
def Ld.takeAll (L : Ld) : List St → Ex Ld
 | [] => .ok L
 | s :: r => (L.take s).bind fun M => M.takeAll r
def readOf (t : ByteArray) : List St × Option Flt :=
 match readGo (scanOf t).1 ⟨[], none, none, 9, false⟩ with
 | (r, some (w, e)) => (r.all, some ⟨w.at_, w.text, e⟩)
 | (r, none) => (r.all, if (scanOf t).2.isNone ∧ (r.now.isSome ∨ r.label.isSome) then some ⟨⟨t.size, 1 + Lib.countByte t.data.toList 10, (t.size - Lib.lastIndexByte t 10).toNat⟩, ⟨#[]⟩, 63⟩ else fltOf (scanOf t).2)
def numbersOf (T : Tbl) : List (ByteArray × Nat) := T.syms.zipIdx.foldl (fun m p => aput p.1.1 p.2 m) []
structure Bs where
 text : ByteArray
 stmts : List St
 ld : Ld
def loadOf (t : ByteArray) : Except Flt Bs :=
 match Ld.new.takeAll (readOf t).1 with
 | .error (w, e) => .error ⟨w.at_, w.text, e⟩
 | .ok L => match (readOf t).2 with
  | some f => .error f
  | none => if 0 < L.tbl.scopes.length then .error ⟨⟨t.size, 1 + Lib.countByte t.data.toList 10, (t.size - Lib.lastIndexByte t 10).toNat⟩, ⟨#[]⟩, 23⟩ else .ok ⟨t, (readOf t).1, L⟩
end Go.Proofs.YtdhkmfpfbjcdiaaGreatDoor
