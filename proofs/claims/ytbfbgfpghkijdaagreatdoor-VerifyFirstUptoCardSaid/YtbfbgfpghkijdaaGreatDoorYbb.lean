/- lemmalaw texts, part 28. -/
import Derived.Test.YtbfbgfpghkijdaaGreatDoorYaa
import Derived.Test.YtbfbgfpghkijdaaGreatDoorYai
import Derived.Test.YtbfbgfpghkijdaaGreatDoorYaj
import Derived.Test.YtbfbgfpghkijdaaGreatDoorYba
set_option maxRecDepth 100000
set_option linter.unusedVariables false
set_option linter.unusedSimpArgs false
set_option maxHeartbeats 32000000
namespace Go.Proofs.YtbfbgfpghkijdaaGreatDoor
open Go.RowKit Go.Shelf Go.Lib Go.Sort
section
variable {α : Type} [Inhabited α] (enc : α → List Value) (k : Nat) (hk : ∀ x, (enc x).length = k) (hk0 : 0 < k)
include hk
omit [Inhabited α] in
theorem ES (l : List α) : (l.flatMap enc).length = l.length * k := by
 induction l with
 | nil => simp
 | cons a l ih => simp only [List.flatMap_cons, List.length_append, ih, hk, List.length_cons, Nat.succ_mul]; omega
include hk0
theorem ML : ∀ (l : List α) (t : Nat), t < l.length * k → (l.flatMap enc).toArray[t]! = (enc l.toArray[t / k]!)[t % k]!
 | [], t, h => by simp at h
 | p :: l, t, h => by
  rcases Nat.lt_or_ge t k with h2 | h2
  ·have hp : t < (enc p).length := by rw [hk]; exact h2
   rw [Nat.div_eq_of_lt h2, Nat.mod_eq_of_lt h2]
   simp [List.getElem?_append_left hp, hp]
  ·have ih := ML l (t - k) (by simp only [List.length_cons, Nat.succ_mul] at h; omega)
   have e1 : ((p :: l).flatMap enc).toArray[t]! = (l.flatMap enc).toArray[t - k]! := by
    simp only [Array.getElem!_eq_getD, Array.getD_eq_getD_getElem?, List.getElem?_toArray, List.flatMap_cons]
    rw [List.getElem?_append_right (by rw [hk]; exact h2), hk]
   have e3 : t / k = (t - k) / k + 1 := by
    conv => lhs; rw [show t = t - k + k by omega]
    exact Nat.add_div_right _ hk0
   have e4 : t % k = (t - k) % k := by
    conv => lhs; rw [show t = t - k + k by omega]
    exact Nat.add_mod_right _ _
   have e2 : ((p :: l).toArray[t / k]!) = l.toArray[(t - k) / k]! := by rw [e3]; simp
   rw [e1, ih, e2, e4]
theorem JC (l : List α) : Go.Sort.flatK enc k l.toArray = (l.flatMap enc).toArray := by
 refine Go.Sort.ext_get! (by simp [ES enc k hk]) (fun t ht => ?_)
 have ht' : t < l.length * k := by simpa using ht
 rw [Go.Sort.get_flatK _ _ _ _ (by simpa using ht'), ML enc k hk hk0 l t ht']
theorem Row.holdsK {w : World} {e g c : Nat} {l : List α} (h : Row w e k (.slice (some ⟨g, 0, none⟩) l.length c) l.length (l.flatMap enc)) : Go.Sort.HoldsK enc k w g 0 l.toArray := by
 unfold Go.Sort.HoldsK
 rw [JC enc k hk hk0]
 intro j hj
 have hj' : j < l.length * k := by simpa [ES enc k hk] using hj
 obtain ⟨g', c', hv, h1, h2⟩ := h.cell (j := j) hj'
 cases hv
 rw [Nat.zero_add]
 refine ⟨?_, h2⟩
 have hjl : j < (l.flatMap enc).length := by rw [ES enc k hk]; exact hj'
 rw [h1]
 simp only [List.getD_eq_getElem?_getD, Array.getElem!_eq_getD, Array.getD_eq_getD_getElem?, List.getElem?_toArray, List.getElem?_eq_getElem hjl, Option.getD_some]
 rfl
theorem Row.sortedK {w : World} {e g c n : Nat} {l s : List α} {os : Array Obj} (h : Row w e k (.slice (some ⟨g, 0, none⟩) l.length c) l.length (l.flatMap enc)) (hl : s.length = l.length) :
  Row (sortWorldK enc k w g 0 n s.toArray os) e k (.slice (some ⟨g, 0, none⟩) l.length c) l.length (s.flatMap enc) ∧ Ad [g] w (sortWorldK enc k w g 0 n s.toArray os) := by
 rcases h.2 with ⟨h1, _⟩ | ⟨g', cap, cur, h1, h2, h3, h4, h5, h6, h7⟩
 ·simp at h1
 ·cases h1
  have hg : g < w.heap.size := Af h3
  have hheap : (sortWorldK enc k w g 0 n s.toArray os).heap[g]? = some (.cells (Go.Sort.putCells id 0 (s.flatMap enc).toArray cur) e (0, 0)) := by
   unfold sortWorldK Go.Sort.putRowK
   rw [JC enc k hk hk0, Go.Sort.heap_grow_old _ _ (by simpa [Go.Sort.putRow, Go.Sort.mapBlock, Go.Sort.ahead] using hg)]
   exact zq116
  refine ⟨⟨by rw [ES enc k hk, hl], .inr ⟨g, c, _, rfl, h2, hheap, h4, h5, by simp [Go.Sort.putCells, h6], ?_⟩⟩, rfl, rfl, rfl, by simp [sortWorldK, Go.Sort.putRowK, Go.Sort.putRow, Go.Sort.mapBlock, Go.Sort.ahead, Go.Sort.grow], ?_⟩
  ·have := Gx cur (s.flatMap enc) (by rw [ES enc k hk, hl, h6]; exact Nat.mul_le_mul_right _ h4)
   rw [ES enc k hk, hl] at this
   exact this
  ·exact zq60
end
abbrev Bn := (Int × List Int) × (Option Addr × Nat × Nat)
def Bn.sl (x : Bn) : Value := .slice x.2.1 x.2.2.1 x.2.2.2
def GZ (x : Bn) : List Value := [.int .i64 x.1.1, x.sl]
theorem LL (z : List Bn) : Cg (z.map (·.1)) (z.map Bn.sl) = z.flatMap GZ := by
 induction z with
 | nil => rfl
 | cons x z ih => simp only [List.map_cons, Cg, ih, List.flatMap_cons]; rfl
def Mo (x y : Bn) : Int := Iv x.1.1 y.1.1
theorem QV (x y : Bn) : ltOf Mo x y = decide (x.1.1 < y.1.1) := by
 unfold ltOf Mo Iv
 by_cases h : x.1.1 < y.1.1
 ·simp [h]
 ·by_cases h2 : y.1.1 < x.1.1 <;> simp [h, h2]
theorem RM : Go.Sort.SWO (ltOf Mo) := {
 irrefl x := by rw [QV]; simp
 trans x y z h1 h2 := by rw [QV] at *; simp at *; omega
 ntrans x y z h1 h2 := by rw [QV] at *; simp at *; omega }
theorem No (x y : Int) (a b : Value) (W : World) : Calls Tryz.prog 182 #[.agg #[.int .i64 x, a], .agg #[.int .i64 y, b]] W fun e w' => e = .returned (.int .i64 (Iv x y)) ∧ ∃ n os', w' = Go.Sort.grow (W.drewN n) os' := by
 unfold Iv
 rcases Int.lt_trichotomy x y with h | h | h
 ·rw [if_pos h]
  have h1 : decide (x < y) = true := decide_eq_true h
  clear h
  go_enter Tryz.func182, Tryz.ntmps182
  go_wp2
  exact zq47
 ·subst h
  rw [if_neg (by omega), if_neg (by omega)]
  have h1 : decide (x < x) = false := decide_eq_false (by omega)
  go_enter Tryz.func182, Tryz.ntmps182
  go_wp2
  exact zq47
 ·rw [if_neg (by omega), if_pos h]
  have h1 : decide (x < y) = false := decide_eq_false (by omega)
  have h2 : decide (y < x) = true := decide_eq_true h
  clear h
  go_enter Tryz.func182, Tryz.ntmps182
  go_wp2
  exact zq47
theorem Tryz.cmpLaysBn (blk off size : Nat) (w : World) : CmpLays Tryz.prog 182 #[] GZ 2 Mo blk off size w :=
 fun _ _ _ _ x y => No x.1.1 y.1.1 _ _ _
theorem L1 (v : Value) (z : List Bn) (hl : z.length < 4611686018427387904) (w : World) (hr : Row w 291 2 v z.length (z.flatMap GZ)) :
  Calls Tryz.prog 181 #[v, .func (.func 182) #[] #[]] w fun e w' => e = .returned (.tuple #[]) ∧ ∃ z' : List Bn, z'.Perm z ∧ (z'.map (·.1.1)).Pairwise (· ≤ ·) ∧ Row w' 291 2 v z'.length (z'.flatMap GZ) ∧ Ad v.ownBlock.toList w w' := by
 rcases hr.2 with ⟨rfl, h0⟩ | ⟨g, cap, cur, rfl, h2, h3, h4, h5, h6, h7⟩
 ·have hln : z = [] := List.eq_nil_of_length_eq_zero h0
  subst hln
  have hc := AnyF.slices_SortFunc_none (P := Tryz.prog) { Tryz.sortBn with } none 0 (.func (.func 182) #[] #[]) w
  refine hc.mono ?_
  rintro e w' ⟨rfl, rfl⟩
  exact ⟨rfl, [], List.Perm.refl _, by simp, hr, Ad.refl _ _⟩
 ·have eg : ∀ args w, (callFunc 182 args).run Tryz.prog w = .ok (.enter 182 args) w := enters_of Tryz.func182 (by kernel_rfl) rfl
  have hc := AnyQ.slices_SortFunc Tryz.sortBn 2 Tryz.isAgg291 Tryz.sizeOf291 GZ (fun _ => rfl) (fun x v hv => by simp [GZ] at hv; rcases hv with rfl | rfl <;> rfl) Mo RM 182 #[] g 0 cap z.toArray w eg (Tryz.cmpLaysBn g 0 z.toArray.size w) (hr.holdsK GZ 2 (fun _ => rfl) (by decide)) (Af h3) (by simpa using hl)
  refine Calls.mono hc ?_
  rintro e w' ⟨rfl, d', n, os, hp, hs, rfl⟩
  obtain ⟨z', rfl⟩ : ∃ z' : List Bn, d' = z'.toArray := ⟨d'.toList, by simp⟩
  have hzl : z'.length = z.length := by have := hp.1; simpa using this
  have := hr.sortedK GZ 2 (fun _ => rfl) (by decide) (s := z') (n := n) (os := os) hzl
  refine ⟨rfl, z', ?_, ?_, by rw [hzl]; exact this.1, by simpa [Value.ownBlock] using this.2⟩
  ·have h1 := hp.2.2
   have e1 : (z'.toArray.extract 0 z.toArray.size).toList = z' := by simp [← hzl]
   have e2 : (z.toArray.extract 0 z.toArray.size).toList = z := by simp
   rw [e1, e2] at h1
   exact h1
  ·rw [List.pairwise_map, List.pairwise_iff_getElem]
   intro i j hi hj hij
   have h1 := hs i j (Nat.zero_le _) hij (by simp only [List.size_toArray]; omega)
   rw [QV] at h1
   simp only [Array.getElem!_eq_getD, Array.getD_eq_getD_getElem?, List.getElem?_toArray, List.getElem?_eq_getElem hi, List.getElem?_eq_getElem hj, Option.getD_some] at h1
   simpa using h1
theorem Tryz.infoBind : (Tryz.prog.info? 291).map (fun i => (i.zero, i.size, i.bytes)) = some (some (.agg #[.int .i64 0, .slice none 0 0]), 2, 32) := by kernel_rfl
def R0 (w : World) (l : Bx) (v u : Value) (W : World) : Prop :=
 ∃ (k : Nat) (z : List Bn), k ≤ l.length ∧ u = .int .i64 k ∧ z.map (·.1) = l.take k ∧ Row W 291 2 v k (z.flatMap GZ) ∧ (∀ x ∈ z, Row W 3 1 x.sl x.1.2.length (Ay x.1.2)) ∧ (∀ b, v.ownBlock = some b → w.heap.size ≤ b) ∧
  W.heap[w.heap.size]? = some (.cells #[.slice none 0 0] 262 (0, 0)) ∧ Ad [] w W
def Q7 (l : Bx) (w : World) (e : Ending) (w' : World) : Prop := Ad [] w w' ∧
 if (l.map (·.1)).Nodup then ∃ v s, e = .returned (.tuple #[.agg #[v], .int .i64 0]) ∧ E3 w' v s ∧ s.Perm l
 else e = .returned (.tuple #[.agg #[.slice none 0 0], .int .i64 40])
theorem N4 (w : World) (v : Value) (evs : List Value) (l : Bx) (h : Dk w v evs l) (hn : l.length ≤ 100000) (hen : ∀ b ∈ l, b.2.length ≤ 1000000) : Calls Tryz.prog 165 #[v] w (Q7 l w) := by
 obtain ⟨Av, cv, rfl⟩ := h.row.shape
 have H := Kd h
 have Hen := Kd hen
 obtain ⟨i, hi, hz0, hz1, hz2⟩ := Co Tryz.infoBind
 have hby : i.bytes * l.length ≤ 281474976710656 := by rw [hz2]; omega
 have hml : l.length ≤ maxLen := by unfold maxLen; omega
 clear h hen
 go_enter Tryz.func165, Tryz.ntmps165
 go_wp2_with (at_make; go_must (refine wpList_make_own (w.alloc (.cells #[.slice none 0 0] 262)) rfl _ _ 260 rfl 0 291 i _ 2 Tryz.underlying260 hi hz0 hz1 .i64 .i64 l.length l.length rfl rfl rfl hby hml (Nat.zero_le _) ?_; intro W2 hr2 hg2; have hs2 := Ad.of_grown hg2; have Hr2 := Kd hr2; have Hs2 : Hid (Ad [] (w.alloc (.cells #[.slice none 0 0] 262)) W2) := Kd hs2; clear hr2 hg2 hs2))
 have h0 : R0 w l (.slice (some ⟨(w.alloc (.cells #[.slice none 0 0] 262)).heap.size, 0, none⟩) 0 l.length) (.int .i64 0) W2 := ⟨0, [], Nat.zero_le _, rfl, by simp, Hr2.out, by simp, fun b hb => by cases hb; simp, Hs2.out.get (Aj _ _) (by simp), (Ad.alloc [] _ _).trans Hs2.out⟩
 rw [AA] at h0
 have H0 := Kd h0
 clear h0
 go_loopw [4, 13] (fun o u wr => R0 w l o u wr) (fun _ u _ => l.length - (intOf u).toNat)
 case atStart => exact H0.out
 case round =>
  obtain ⟨k, z, hk, rfl, hz, hrow, hex, hfr, hbr, hsm⟩ := hrel
  obtain ⟨Ao, co, rfl⟩ := hrow.shape
  by_cases hlt : k < l.length
  ·obtain ⟨g, c, ev, hv, hse, t0, t1, hgl⟩ := (H.out.same hsm).at hlt
   cases hv
   obtain ⟨Ae, ce, rfl⟩ := hse.shape
   have hcl := fun (W : World) (hW : Ad [] wr W) => Cb _ _ W (hse.same hW) (Hen.out l[k] (List.getElem_mem hlt))
   have Hz := Kd hz
   have Hrow := Kd hrow
   have Hex := Kd hex
   have Hfr := Kd hfr
   have Hbr := Kd hbr
   have Hsm := Kd hsm
   clear hz hrow hex hfr hbr hsm hse H0
   go_wp2
   refine AD (.read 0 (.read 1 (.read 2 (.read 3 (.read 4 (.one 5 [0, 1, 2] (.read 6 (.one 7 [0] (.one 8 [] (.one 9 [] (.done))))))))))) (by kernel_rfl) (by kernel_rfl) ?_
   iterate 5 (refine An rfl (fun K hK => ?_); go_simp; (try go_bits); (try (rw [if_pos (by omega)]; go_simp)); refine hK _ ?_; clear hK K)
   refine Ak rfl ?_
   go_wp2_with (go_at_call 51; go_must (refine (hcl _ ((Ad.alloc [] _ _).trans (Ad.drew [] _))).mono ?_; rintro e3 W3 ⟨v3, rfl, hr3, hs3, hf3⟩; obtain ⟨A3, c3, rfl⟩ := hr3.shape))
   have hB3 := hs3.get ((K3 _ _).trans (Aj wr (.cells #[.int .i64 l[k].1, .slice Ae l[k].2.length ce] 291))) (by simp)
   have hsw : Ad [] wr W3 := ((Ad.alloc [] _ _).trans (Ad.drew [] _)).trans hs3
   have HB3 := Kd hB3
   obtain ⟨c0, c1, cf⟩ := Fh HB3.out
   have bl := Af HB3.out
   have Hr3 := Kd hr3
   have Hsw := Kd hsw
   clear hB3 hr3 hs3 hf3 hsw hcl
   refine EQ.A ?_
   iterate 1 (refine An rfl (fun K hK => ?_); go_simp; (try go_bits); (try (rw [if_pos (by omega)]; go_simp)); refine hK _ ?_; clear hK K)
   refine Ak rfl ?_
   go_wp2
   refine EQ.A ?_
   refine Ak rfl ?_
   go_wp2_with (at_builtin; refine Bh (W := W3) rfl _ _ 260 rfl 291 2 32 _ Tryz.underlying260 Tryz.infoBind rfl (by decide) (.slice Ao k co) _ _ rfl (Hrow.out.same Hsw.out (by simp)) [.int .i64 l[k].1, .slice A3 l[k].2.length c3] rfl rfl (by simp [Value.oneCell']) (by omega) (by decide) ?_; go_must (intro v6 W6 hr6 hs6 ho6; obtain ⟨A6, c6, rfl⟩ := hr6.shape; have Hr6 := Kd hr6; have Hs6 := Kd hs6; have Ho6 := Kd ho6; clear hr6 hs6 ho6))
   refine EQ.A ?_
   refine Ak rfl ?_
   go_wp2
   refine EQ.A ?_
   refine AB ?_
   go_wp2
   go_roundw
   case rel =>
    have hne : ∀ {e : List Int} {u : Value}, Row W3 3 1 u e.length (Ay e) → Row W6 3 1 u e.length (Ay e) := fun hu => hu.same Hs6.out fun b hb hm => by
     have := Option.mem_toList.1 hm
     exact (Hrow.out.same Hsw.out (by simp)).ne_row hu (by decide) hb this
    have hb3 := Hsw.out.get Hbr.out (by simp)
    refine ⟨k + 1, z ++ [(l[k], (A3, l[k].2.length, c3))], hlt, by go_num, ?_, ?_, ?_, ?_, ?_, ?_⟩
    ·rw [List.map_append, Hz.out, List.take_succ_eq_append_getElem hlt]; rfl
    ·rw [List.flatMap_append]
     exact Hr6.out
    ·intro x hx
     rcases List.mem_append.1 hx with h | h
     ·exact hne ((Hex.out x h).same Hsw.out (by simp))
     ·rw [List.mem_singleton] at h
      subst h
      exact hne Hr3.out
    ·intro b hb
     rcases Ho6.out with ho | ⟨c', hc', hle⟩
     ·exact Hfr.out b (by rw [← ho]; exact hb)
     ·rw [hc'] at hb; cases hb; have := Hsm.out.size; have := Hsw.out.size; omega
    ·exact Hs6.out.get hb3 fun hm => (Hrow.out.same Hsw.out (by simp)).ne hb3 (by decide) (Option.mem_toList.1 hm)
    ·exact (Hsm.out.trans Hsw.out).then Hs6.out fun x hx => .inr (Hfr.out x (Option.mem_toList.1 hx))
   case measure => simp [intOf]; omega
  ·have hkk : k = l.length := by omega
   subst hkk
   rw [List.take_length] at hz
   have hzl : z.length = l.length := by rw [← hz, List.length_map]
   have hso := L1 (.slice Ao l.length co) z (by omega) wr (by rw [hzl]; exact hrow)
   have Hz := Kd hz
   have Hrow := Kd hrow
   have Hex := Kd hex
   have Hfr := Kd hfr
   have Hbr := Kd hbr
   have Hsm := Kd hsm
   clear hz hrow hex hfr hbr hsm H0
   go_wp2_with (go_at_call 181; go_must (refine hso.mono ?_; rintro e3 W3 ⟨rfl, z', hp, hle, hr3, hs3⟩))
   obtain ⟨s, evs', hperm, hrw, hrx, hle', hen'⟩ : ∃ (s : Bx) (evs' : List Value), s.Perm l ∧ Row W3 291 2 (.slice Ao l.length co) s.length (Cg s evs') ∧ Bm (fun (b : Int × List Int) ev => Row W3 3 1 ev b.2.length (Ay b.2)) s evs' ∧ (s.map (·.1)).Pairwise (· ≤ ·) ∧ ∀ b ∈ s, b.2.length ≤ 1000000 := by
    have hperm : (z'.map (·.1)).Perm l := by rw [← Hz.out]; exact hp.map _
    refine ⟨z'.map (·.1), z'.map Bn.sl, hperm, by rw [List.length_map, LL]; exact hr3, ?_, by rw [List.map_map]; exact hle, fun b hb => Hen.out b (hperm.mem_iff.1 hb)⟩
    have key : ∀ y : List Bn, (∀ x ∈ y, x ∈ z') → Bm (fun (b : Int × List Int) ev => Row W3 3 1 ev b.2.length (Ay b.2)) (y.map (·.1)) (y.map Bn.sl) := by
     intro y
     induction y with
     | nil => intro _; trivial
     | cons x y ih =>
      intro hy
      have h1 := Hex.out x (hp.mem_iff.1 (hy x (List.mem_cons_self ..)))
      exact ⟨h1.same hs3 fun b hb hm => Hrow.out.ne_row h1 (by decide) hb (Option.mem_toList.1 hm), ih fun u hu => hy u (List.mem_cons_of_mem _ hu)⟩
    exact key z' fun _ h => h
   have hb3 := hs3.get Hbr.out fun hm => Hrow.out.ne Hbr.out (by decide) (Option.mem_toList.1 hm)
   have hs13 : Ad [] w W3 := Hsm.out.then hs3 fun x hx => .inr (Hfr.out x (Option.mem_toList.1 hx))
   have hsl : s.length = l.length := hperm.length_eq
   rw [← hsl] at hrw hn ⊢
   have Hbi : Hid (Dk W3 (.slice Ao s.length co) evs' s) := Kd ⟨hrw, hrx.imp fun _ _ h => Seg.of_row h⟩
   have Hrw := Kd hrw
   have Hrx := Kd hrx
   have Hperm := Kd hperm
   have Hle := Kd hle'
   have Hen2 := Kd hen'
   have Hb3 := Kd hb3
   have Hs13 := Kd hs13
   clear hso hp hle hr3 hs3 hzl hperm hrw hrx hb3 hs13 hle' hen' hsl Hz Hrow Hex Hfr Hbr Hsm H Hen hlt
   go_wp2
   have h0 : ∃ j : Nat, j ≤ s.length ∧ Value.int .i64 1 = .int .i64 ((j : Int) + 1) ∧ Ad [] W3 W3 ∧ ∀ i (h2 : i + 1 < s.length), i < j → s[i].1 ≠ s[i + 1].1 := ⟨0, Nat.zero_le _, rfl, Ad.refl _ _, fun i _ h => absurd h (Nat.not_lt_zero _)⟩
   have H0 := Kd h0
   clear h0
   go_loopw [7] (fun u wr => ∃ j : Nat, j ≤ s.length ∧ u = .int .i64 ((j : Int) + 1) ∧ Ad [] W3 wr ∧ ∀ i (h2 : i + 1 < s.length), i < j → s[i].1 ≠ s[i + 1].1) (fun u _ => s.length + 1 - (intOf u).toNat)
   case atStart => exact H0.out
   case round =>
    obtain ⟨j, hj, rfl, hsm, had⟩ := hrel
    by_cases hlt : j + 1 < s.length
    ·obtain ⟨g, c, ev, hv, hse, t0, t1, hgl⟩ := (Hbi.out.same hsm).at hlt
     obtain ⟨g', c', ev', hv', hse', u0, u1, hgl'⟩ := (Hbi.out.same hsm).at (k := j) (by omega)
     rw [hv] at hv'
     cases hv'
     cases hv
     have hlt' : (j : Int) + 1 < s.length := by omega
     have Hsm := Kd hsm
     by_cases he : s[j + 1].1 = s[j].1
     ·have hnd : ¬ (l.map (·.1)).Nodup := fun h => by
       have h1 : (s.map (·.1)).Nodup := ((Hperm.out.map _).nodup_iff).2 h
       have := (List.pairwise_iff_getElem.1 h1) j (j + 1) (by simp; omega) (by simpa using hlt) (Nat.lt_succ_self _)
       simp only [List.getElem_map] at this
       exact this he.symm
      have Hnd := Kd hnd
      rw [he] at t0
      have hb3r := Af (hsm.get Hb3.out (by simp))
      have hb3c := Ai (i := 0) (v := .slice none 0 0) (hsm.get Hb3.out (by simp))
      have hb3f := AE (hsm.get Hb3.out (by simp))
      clear he hnd had hsm H0 hse hse'
      go_wp2
      go_quiet (fail)
      go_wp2
      refine bodyPost_ret_by (v := .tuple #[.agg #[.slice none 0 0], .int .i64 40]) (by simp [results, Tryz.f165, go_sem, hb3c]) rfl ?_
      refine ⟨((Hs13.out.trans Hsm.out).trans (Ad.drewN _ _ _)).setNew _ _ (Nat.le_refl _), ?_⟩
      rw [if_neg Hnd.out]
     ·have hne : (s[j + 1].1 == s[j].1) = false := by simpa using he
      have He := Kd he
      have Had := Kd had
      generalize s[j + 1].1 = a at t0 hne
      generalize s[j].1 = b at u0 hne
      clear he had hsm H0 hse hse'
      go_wp2
      go_quiet (fail)
      go_wp2
      go_roundw
      case rel =>
       refine ⟨j + 1, by omega, by go_num, Hsm.out.trans (Ad.drewN _ _ _), fun i h2 h3 => ?_⟩
       rcases Nat.lt_or_ge i j with h | h
       ·exact Had.out i h2 h
       ·obtain rfl : i = j := by omega
        exact fun e => He.out e.symm
      case measure => simp [intOf]; omega
    ·have hlt' : ¬ (j : Int) + 1 < s.length := by omega
     have Hsm := Kd hsm
     have hrise : Ea s := by
      unfold Ea
      rw [List.pairwise_iff_getElem]
      have step : ∀ i (h2 : i + 1 < s.length), s[i].1 < s[i + 1].1 := fun i h2 => by
       have h1 := List.pairwise_iff_getElem.1 Hle.out i (i + 1) (by simp; omega) (by simpa using h2) (Nat.lt_succ_self _)
       simp only [List.getElem_map] at h1
       have := had i h2 (by omega)
       omega
      have far : ∀ d i (h2 : i + 1 + d < s.length), s[i].1 < s[i + 1 + d].1 := fun d => by
       induction d with
       | zero => intro i h2; exact step i h2
       | succ d ih =>
        intro i h2
        have h1 := ih i (by omega)
        have h3 := step (i + 1 + d) (by omega)
        have e : i + 1 + d + 1 = i + 1 + (d + 1) := by omega
        simp only [e] at h3
        omega
      intro i k hi hk hik
      simp only [List.getElem_map]
      have := far (k - i - 1) i (by simp at hk; omega)
      have e : i + 1 + (k - i - 1) = k := by omega
      simp only [e] at this
      exact this
     have hnd : (l.map (·.1)).Nodup := ((Hperm.out.map _).nodup_iff).1 hrise.nodup
     have hb3 := hsm.get Hb3.out (by simp)
     have hb3c := Ai (i := 0) (v := .slice none 0 0) hb3
     have hb3f := AE hb3
     have hb3l := Af hb3
     have Hnd := Kd hnd
     have Hrise := Kd hrise
     clear hnd had hsm H0 hb3 hrise
     go_wp2
     refine bodyPost_ret_by (v := .tuple #[.agg #[.slice Ao s.length co], .int .i64 0]) (by simp [results, Tryz.f165, go_sem, hb3c]) rfl ?_
     refine ⟨(Hs13.out.trans Hsm.out).setNew _ _ (Nat.le_refl _), ?_⟩
     rw [if_pos Hnd.out]
     have hset : Ad [w.heap.size] W3 (wr.setCell ⟨w.heap.size, 0, none⟩ (.slice Ao s.length co)) := (Hsm.out.mono (by simp)).trans (Ad.setCell _ _ _ (by simp))
     refine ⟨.slice Ao s.length co, s, rfl, ⟨⟨evs', Hrw.out.same hset fun b hb hm => Hrw.out.ne Hb3.out (by decide) (by rw [List.mem_singleton] at hm; rw [← hm]; exact hb), Hrx.out.imp fun b ev h => h.same hset fun c hc hm => h.ne Hb3.out (by decide) (by rw [List.mem_singleton] at hm; rw [← hm]; exact hc)⟩, Hrise.out, by omega, Hen2.out⟩, Hperm.out⟩
end Go.Proofs.YtbfbgfpghkijdaaGreatDoor
