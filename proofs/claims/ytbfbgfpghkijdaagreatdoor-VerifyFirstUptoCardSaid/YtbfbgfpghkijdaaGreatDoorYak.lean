/- lemmalaw texts, part 11. -/
import Derived.Test.YtbfbgfpghkijdaaGreatDoorYaa
import Derived.Test.YtbfbgfpghkijdaaGreatDoorYaf
import Derived.Test.YtbfbgfpghkijdaaGreatDoorYaj
set_option maxRecDepth 100000
set_option linter.unusedVariables false
set_option linter.unusedSimpArgs false
set_option maxHeartbeats 32000000
namespace Go.Proofs.YtbfbgfpghkijdaaGreatDoor
open Go.RowKit Go.Shelf Go.Lib Go.Sort
theorem BS {w : World} {v : Value} {l : List Int} (h : Row w 3 1 v l.length (Ay l)) {k : Nat} (hk : k < l.length) : ∃ g c, v = .slice (some ⟨g, 0, none⟩) l.length c ∧ w.cell? ⟨g, k, none⟩ = some (.int .i64 l[k]) ∧ g < w.heap.size := by
 obtain ⟨g, c, hv, h1, _⟩ := h.cell (j := k) (by omega)
 exact ⟨g, c, hv, by rw [h1, Mp l k hk], World.block_lt_of_cell? _ _ h1⟩
theorem Of {w : World} {v : Value} {l : List Int} (h : Row w 3 1 v l.length (Ay l)) {k : Nat} (hk : k < l.length) : ∃ g c, v = .slice (some ⟨g, 0, none⟩) l.length c ∧ w.cell? ⟨g, k, none⟩ = some (.int .i64 l[k]) ∧ g < w.heap.size := BS h hk
theorem CK (b : Nat) : ∀ (vs : List Value) (o : Nat) (w : World) (cur : Array Value) (t : TypeId) (fr : Nat × Nat), w.heap[b]? = some (.cells cur t fr) → (w.setCells b o vs).heap[b]? = some (.cells (setMany cur o vs) t fr)
 | [], _, _, _, _, _, h => h
 | v :: r, o, w, cur, t, fr, h => by
  rw [World.setCells, setMany]
  exact CK b r (o + 1) _ _ t fr (AI h o v)
theorem Ad.setCells (b : Nat) {S : List Nat} (hb : b ∈ S) : ∀ (vs : List Value) (o : Nat) (w : World), Ad S w (w.setCells b o vs)
 | [], _, w => Ad.refl _ _
 | v :: r, o, w => by
  rw [World.setCells]
  exact (Ad.setCell w ⟨b, o, none⟩ v hb).trans (Ad.setCells b hb r (o + 1) _)
theorem F5 {F : Array Value} {l : List Value} (hl : l.length ≤ F.size) (h : ∀ t, t < l.length → F[t]! = l.getD t undef) : F.toList.take l.length = l := by
 apply List.ext_getElem?
 intro j
 by_cases hj : j < l.length
 ·rw [List.getElem?_take_of_lt hj, Array.getElem?_toList, Array.getElem?_eq_getElem (by omega), List.getElem?_eq_getElem hj]
  have := h j hj
  rw [getElem!_pos F j (by omega)] at this
  rw [this]
  simp [List.getD_eq_getElem?_getD, hj]
 ·rw [List.getElem?_take_eq_none (by omega), List.getElem?_eq_none (by omega)]
def DL (zs : List Int) (i : Nat) (x : Int) : List Int := zs.take i ++ x :: zs.drop i
theorem OR (zs : List Int) (i : Nat) (x : Int) (hi : i ≤ zs.length) : (DL zs i x).length = zs.length + 1 := by
 simp [DL]; omega
theorem IA (zs : List Int) (i : Nat) (x : Int) (hi : i ≤ zs.length) (t : Nat) (ht : t < zs.length + 1) : (Ay (DL zs i x)).getD t undef = if t < i then (Ay zs).getD t undef else if t = i then .int .i64 x else (Ay zs).getD (t - 1) undef := by
 have hm : Ay (DL zs i x) = (Ay zs).take i ++ Value.int .i64 x :: (Ay zs).drop i := by simp [Ay, DL]
 rw [hm]
 have hl : ((Ay zs).take i).length = i := by rw [List.length_take, AQ]; omega
 simp only [List.getD_eq_getElem?_getD]
 by_cases h1 : t < i
 ·rw [if_pos h1, List.getElem?_append_left (by omega), List.getElem?_take_of_lt h1]
 ·rw [if_neg h1, List.getElem?_append_right (by omega), hl]
  by_cases h2 : t = i
  ·subst h2; simp
  ·rw [if_neg h2]
   obtain ⟨u, rfl⟩ : ∃ u, t = i + 1 + u := ⟨t - i - 1, by omega⟩
   rw [show i + 1 + u - i = u + 1 by omega, List.getElem?_cons_succ, List.getElem?_drop, show i + 1 + u - 1 = i + u by omega]
theorem Lr {cur : Array Value} {zs : List Int} {c : Nat} (h6 : cur.size = c * 1) (hnc : zs.length ≤ c) (h7 : cur.toList.take (zs.length * 1) = Ay zs) (t : Nat) (ht : t < zs.length) : cur[t]! = (Ay zs).getD t undef := by
 rw [← h7, List.getD_eq_getElem?_getD, List.getElem?_take_of_lt (by omega), Array.getElem?_toList, Array.getElem?_eq_getElem (by omega), getElem!_pos cur t (by omega)]
 rfl
theorem OB (l : List Int) : ∀ v ∈ Ay l, v.oneCell' = true := by
 intro v hv
 simp only [Ay, List.mem_map] at hv
 obtain ⟨x, _, rfl⟩ := hv
 rfl
theorem zq135 {P : Prop} (h : P := by
 simp only [e2]
 rw [List.getElem?_eq_getElem (by rw [AQ]; omega)]
 rfl) : P := h
theorem Le (v : Value) (zs : List Int) (i : Nat) (x : Int) (vb : Nat) (w : World) (h : Row w 3 1 v zs.length (Ay zs)) (hi : i ≤ zs.length) (hn : zs.length ≤ 1000000) (hx : w.heap[vb]? = some (.cells #[.int .i64 x] 3 (0, 0))) (hvb : v.ownBlock ≠ some vb) :
  Calls Tryz.prog 176 #[v, .int .i64 i, .slice (some ⟨vb, 0, none⟩) 1 1] w fun e w' => ∃ v', e = .returned v' ∧ Row w' 3 1 v' (zs.length + 1) (Ay (DL zs i x)) ∧ Ad v.ownBlock.toList w w' ∧ (v'.ownBlock = v.ownBlock ∨ ∃ b, v'.ownBlock = some b ∧ w.heap.size ≤ b) := by
 have hvs : ∀ j u, [Value.int .i64 x][j]? = some u → w.cell? ⟨vb, 0 + j, none⟩ = some u := fun j u hj => by rw [Nat.zero_add, Cc hx]; simpa using hj
 have h1v : ∀ u ∈ [Value.int .i64 x], u.oneCell' = true := by simp [Value.oneCell']
 have hln := OR zs i x hi
 rcases h.2 with ⟨rfl, h0⟩ | ⟨g, c, cur, rfl, h2, h3, h4, h5, h6, h7⟩
 ·have hzs : zs = [] := List.eq_nil_of_length_eq_zero h0
  subst hzs
  have hi0 : i = 0 := by simpa using hi
  subst hi0
  have hc := Any2.slices_Insert_int_end_grow Tryz.insertL none 0 0 vb 0 1 1 [] [.int .i64 x] w (by omega) (Nat.le_refl _) (by omega) (by omega) rfl rfl (fun _ => rfl) (by simp) hvs h1v
  rw [show Tryz.insertL_ren.t 3 = 3 from rfl] at hc
  refine Calls.mono hc ?_
  rintro e w' ⟨rfl, rfl⟩
  have hg := grownCap_ge w (0 + 1) 0 3
  have hm := grownCap_le_maxLen w (0 + 1) 0 3 (by unfold maxLen; omega)
  refine ⟨_, rfl, ⟨rfl, .inr ⟨w.heap.size, _, _, rfl, Nat.zero_le _, Aj w.drew _, hg, hm, ?_, ?_⟩⟩, ?_, .inr ⟨_, rfl, Nat.le_refl _⟩⟩
  ·simp only [Nat.zero_add] at hg ⊢
   simp [Builtin.zeroCells, Value.cells]
   omega
  ·simp [DL, Ay]
  ·exact (Ad.drew _ w).trans (Ad.alloc _ _ _)
 ·have hb1 : ∀ j u, (Ay zs)[j]? = some u → w.cell? ⟨g, 0 + j, none⟩ = some u := fun j u hj => by
   have hj2 : j < zs.length := by have := (List.getElem?_eq_some_iff.1 hj).1; rwa [AQ] at this
   rw [Nat.zero_add, Cc h3, Array.getElem?_eq_getElem (by omega)]
   have := Lr h6 h4 h7 j hj2
   rw [getElem!_pos cur j (by omega)] at this
   rw [this]
   simp [List.getD_eq_getElem?_getD, hj]
  have hvg : vb ≠ g := fun e => hvb (by rw [e]; rfl)
  by_cases hic : i = zs.length
  ·subst hic
   by_cases hroom : zs.length + 1 ≤ c
   ·have hc := Any2.slices_Insert_int_end_room Tryz.insertL g 0 zs.length c vb 0 1 1 [.int .i64 x] w (by omega) hroom (by unfold maxLen at h5; omega) rfl (fun j hj => by
     rw [Cc h3, Array.getElem?_eq_getElem (by omega)]; rfl) (fun j hj => AE h3 _) hvs h1v
    refine Calls.mono hc ?_
    rintro e w' ⟨rfl, rfl⟩
    refine ⟨_, rfl, ⟨by rw [AQ, hln]; simp, .inr ⟨g, c, _, rfl, h2, CK _ _ _ _ _ _ _ h3, hroom, h5, by simp [h6], ?_⟩⟩, Ad.setCells _ (by simp [Value.ownBlock]) _ _ _, .inl rfl⟩
    have e1 : (zs.length + 1) * 1 = (Ay (DL zs zs.length x)).length := by rw [AQ, hln]; simp
    rw [e1]
    refine F5 (by rw [AQ, hln]; simp [h6]; omega) (fun t ht => ?_)
    rw [AQ, hln] at ht
    rw [IA _ _ _ (Nat.le_refl _) _ ht, get_setMany _ _ _ _ (by rw [h6]; omega)]
    by_cases h1 : t < zs.length
    ·rw [if_neg (by simp; omega), if_pos h1, Lr h6 h4 h7 t h1]
    ·have : t = zs.length := by omega
     subst this
     rw [if_pos (by simp), if_neg h1, if_pos rfl]
     simp
   ·have hc := Any2.slices_Insert_int_end_grow Tryz.insertL (some ⟨g, 0, none⟩) zs.length c vb 0 1 1 (Ay zs) [.int .i64 x] w (by omega) h4 (by omega) (by omega) (AQ _) rfl (by simp) (fun a ha j u hj => by
     cases ha
     have e1 : (⟨g, 0, none⟩ : Addr).add j = ⟨g, j, none⟩ := by unfold Addr.add; split <;> simp_all
     rw [e1]
     have := hb1 j u hj
     rwa [Nat.zero_add] at this) hvs h1v
    rw [show Tryz.insertL_ren.t 3 = 3 from rfl] at hc
    refine Calls.mono hc ?_
    rintro e w' ⟨rfl, rfl⟩
    have hg := grownCap_ge w (zs.length + 1) c 3
    have hm := grownCap_le_maxLen w (zs.length + 1) c 3 (by unfold maxLen; omega)
    refine ⟨_, rfl, ⟨by rw [AQ, hln]; simp, .inr ⟨w.heap.size, _, _, rfl, Nat.zero_le _, Aj w.drew _, hg, hm, ?_, ?_⟩⟩, (Ad.drew _ w).trans (Ad.alloc _ _ _), .inr ⟨_, rfl, Nat.le_refl _⟩⟩
    ·simp [Builtin.zeroCells, Value.cells, AQ]
     omega
    ·rw [show DL zs zs.length x = zs ++ [x] by simp [DL], Cq, Array.toList_append]
     exact List.take_left' (by simp [AQ])
  ·have hlt : i < zs.length := by omega
   by_cases hroom : zs.length + 1 ≤ c
   ·have hc := Any2.slices_Insert_int_shift Tryz.insertL g 0 zs.length c i vb 0 1 1 (Ay zs) [.int .i64 x] w hlt (by omega) hroom (by unfold maxLen at h5; omega) hvg (AQ _) rfl hb1 (fun j hj => by
     rw [Cc h3, Array.getElem?_eq_getElem (by omega)]; rfl) (fun j hj => AE h3 _) hvs (OB zs) h1v 3 3 1 (c * 1) (by simp [World.shape?, hx]) (by simp [World.shape?, h3, h6]) (by omega) (AE hx _) (AE hx _)
    refine Calls.mono hc ?_
    rintro e w' ⟨rfl, rfl⟩
    refine ⟨_, rfl, ⟨by rw [AQ, hln]; simp, .inr ⟨g, c, _, rfl, h2, CK _ _ _ _ _ _ _ (CK _ _ _ _ _ _ _ (by exact h3)), hroom, h5, by simp [h6], ?_⟩⟩, ?_, .inl rfl⟩
    ·have e1 : (zs.length + 1) * 1 = (Ay (DL zs i x)).length := by rw [AQ, hln]; simp
     rw [e1]
     refine F5 (by rw [AQ, hln]; simp [h6]; omega) (fun t ht => ?_)
     rw [AQ, hln] at ht
     rw [IA _ _ _ hi _ ht, get_setMany _ _ _ _ (by simp [h6]; omega), get_setMany _ _ _ _ (by rw [h6]; omega)]
     have hdl : ((Ay zs).drop i).length = zs.length - i := by rw [List.length_drop, AQ]
     by_cases h1 : t < i
     ·rw [if_pos h1, if_neg (by simp; omega), if_neg (by omega), Lr h6 h4 h7 t (by omega)]
     ·rw [if_neg h1]
      by_cases h2' : t = i
      ·subst h2'
       rw [if_pos rfl, if_pos (by simp)]
       simp
      ·rw [if_neg h2', if_neg (by simp; omega), if_pos (by rw [hdl]; omega)]
       have hlt2 : t - (0 + (i + 1)) < ((Ay zs).drop i).length := by rw [hdl]; omega
       rw [getElem!_pos ((Ay zs).drop i) _ hlt2, List.getElem_drop, List.getD_eq_getElem?_getD]
       have e2 : i + (t - (0 + (i + 1))) = t - 1 := by omega
       exact zq135
    ·exact ((Ad.drew _ w).trans (Ad.setCells _ (by simp [Value.ownBlock]) _ _ _)).trans (Ad.setCells _ (by simp [Value.ownBlock]) _ _ _)
   ·have hc := Any2.slices_Insert_int_grow Tryz.insertL g 0 zs.length c i vb 0 1 1 (Ay zs) [.int .i64 x] w hlt (by omega) h4 (by omega) (by omega) (AQ _) rfl hb1 hvs (OB zs) h1v
    rw [show Tryz.insertL_ren.t 3 = 3 from rfl] at hc
    refine Calls.mono hc ?_
    rintro e w' ⟨rfl, rfl⟩
    have hg := grownCap_ge w (zs.length + 1) c 3
    have hm := grownCap_le_maxLen w (zs.length + 1) c 3 (by unfold maxLen; omega)
    have hz : ∀ m : Nat, (Builtin.zeroCells (Value.int .i64 0).cells m).size = m := fun m => by simp [Builtin.zeroCells, Value.cells]
    have hlt3 : (((Ay zs).take i).toArray ++ Builtin.zeroCells (Value.int .i64 0).cells (zs.length + 1 - i) ++ Builtin.zeroCells (Value.int .i64 0).cells (grownCap w (zs.length + 1) c 3 - (zs.length + 1))).size = grownCap w (zs.length + 1) c 3 := by
     rw [Array.size_append, Array.size_append, hz, hz]
     simp [AQ]
     omega
    refine ⟨_, rfl, ⟨by rw [AQ, hln]; simp, .inr ⟨w.heap.size, _, _, rfl, Nat.zero_le _, CK _ _ _ _ _ _ _ (CK _ _ _ _ _ _ _ (Aj w _)), hg, hm, ?_, ?_⟩⟩, ?_, .inr ⟨_, rfl, Nat.le_refl _⟩⟩
    ·rw [size_setMany, size_setMany, hlt3]; simp
    ·have e1 : (zs.length + 1) * 1 = (Ay (DL zs i x)).length := by rw [AQ, hln]; simp
     rw [e1]
     refine F5 (by rw [AQ, hln, size_setMany, size_setMany, hlt3]; exact hg) (fun t ht => ?_)
     rw [AQ, hln] at ht
     rw [IA _ _ _ hi _ ht, get_setMany _ _ _ _ (by rw [size_setMany, hlt3]; omega), get_setMany _ _ _ _ (by rw [hlt3]; omega)]
     have hdl : ((Ay zs).drop i).length = zs.length - i := by rw [List.length_drop, AQ]
     by_cases h1 : t < i
     ·rw [if_pos h1, if_neg (by rw [hdl]; omega), if_neg (by simp; omega)]
      have : t < ((Ay zs).take i).length := by rw [List.length_take, AQ]; omega
      rw [getElem!_pos _ _ (by rw [hlt3]; omega), Array.getElem_append_left (by rw [Array.size_append]; simp only [List.size_toArray]; omega), Array.getElem_append_left (by simpa using this)]
      simp only [List.getElem_toArray, List.getElem_take]
      rw [List.getD_eq_getElem?_getD, List.getElem?_eq_getElem (by rw [AQ]; omega)]
      rfl
     ·rw [if_neg h1]
      by_cases h2' : t = i
      ·subst h2'
       rw [if_pos rfl, if_neg (by rw [hdl]; omega), if_pos (by simp)]
       simp
      ·rw [if_neg h2', if_pos (by rw [hdl]; omega)]
       have hlt2 : t - (i + 1) < ((Ay zs).drop i).length := by rw [hdl]; omega
       rw [getElem!_pos ((Ay zs).drop i) _ hlt2, List.getElem_drop, List.getD_eq_getElem?_getD]
       have e2 : i + (t - (i + 1)) = t - 1 := by omega
       exact zq135
    ·have hS : ∀ (o : Nat) (vs : List Value) (W : World), w.heap.size < W.heap.size → Ad (Value.slice (some ⟨g, 0, none⟩) zs.length c).ownBlock.toList w W → Ad (Value.slice (some ⟨g, 0, none⟩) zs.length c).ownBlock.toList w (W.setCells w.heap.size o vs) := fun o vs W _ hW =>
      hW.then (Ad.setCells w.heap.size (S := [w.heap.size]) (by simp) vs o W) (fun y hy => by simp at hy; subst hy; exact .inr (Nat.le_refl _))
     have h01 := (Ad.alloc (Value.slice (some ⟨g, 0, none⟩) zs.length c).ownBlock.toList w (.cells ((((Ay zs).take i).toArray ++ Builtin.zeroCells (Value.int .i64 0).cells (zs.length + 1 - i) ++ Builtin.zeroCells (Value.int .i64 0).cells (grownCap w (zs.length + 1) c 3 - (zs.length + 1)))) 3)).trans (Ad.drew _ _)
     have h02 := hS i [.int .i64 x] _ (by simp) h01
     have h03 := h02.trans (Ad.drew _ _)
     have := hS (i + 1) ((Ay zs).drop i) _ (by have := h03.size; have h04 := (Ad.setCells w.heap.size (S := [w.heap.size]) (by simp) [Value.int .i64 x] i ((w.alloc (.cells ((((Ay zs).take i).toArray ++ Builtin.zeroCells (Value.int .i64 0).cells (zs.length + 1 - i) ++ Builtin.zeroCells (Value.int .i64 0).cells (grownCap w (zs.length + 1) c 3 - (zs.length + 1)))) 3)).drew)).size; simp at h04 ⊢ <;> omega) h03
     exact this
end Go.Proofs.YtbfbgfpghkijdaaGreatDoor
namespace Go.Proofs.YtbfbgfpghkijdaaGreatDoor
open Go.RowKit
def Ce : List Int → List Int → List Pr
 | _, [] => []
 | before, v :: r => before.map (fun w => (v, w)) ++ Ce (before ++ [v]) r
def FM (vars : List Int) : List Pr := (Ce [] vars).foldl Fk []
theorem G4 (v : Int) : ∀ (l b : List Int), Ce b (l ++ [v]) = Ce b l ++ (b ++ l).map (fun w => (v, w))
 | [], b => by simp [Ce]
 | a :: l, b => by
  have := G4 v l (b ++ [a])
  simp only [List.cons_append, Ce, this, List.append_assoc]
  simp
theorem Gc : ∀ (l b : List Int), (Ce b l).length ≤ l.length * (b.length + l.length)
 | [], b => by simp [Ce]
 | a :: l, b => by
  have := Gc l (b ++ [a])
  simp only [Ce, List.length_append, List.length_map, List.length_cons, List.length_nil] at this ⊢
  have e : l.length * (b.length + (0 + 1) + l.length) = l.length * (b.length + (l.length + 1)) := by congr 1; omega
  rw [e] at this
  rw [Nat.succ_mul]
  omega
def Qo (w : World) (b : Nat) (vars : List Int) (u : Value) (W : World) : Prop :=
 ∃ k : Nat, k ≤ vars.length ∧ u = .int .i64 k ∧ EY W b ((Ce [] (vars.take k)).foldl Cr []) ∧ Ad [] w W
def Qt (w : World) (b : Nat) (vars : List Int) (k : Nat) (x : Int) (u : Value) (W : World) : Prop :=
 ∃ j : Nat, j ≤ k ∧ u = .int .i64 j ∧ EY W b ((Ce [] (vars.take k) ++ (vars.take j).map (fun y => (x, y))).foldl Cr []) ∧ Ad [] w W
theorem Qt.step {w W W' : World} {b : Nat} {vars : List Int} {k j : Nat} {x : Int} (hk : k ≤ vars.length) (hj : j < k) (hs : Ad [] w W) (hb : w.heap.size ≤ b) (h : EY W' b (Cr ((Ce [] (vars.take k) ++ (vars.take j).map (fun y => (x, y))).foldl Cr []) (x, vars[j]'(by omega)))) (hs' : Ad [b] W W') : Qt w b vars k x (.int .i64 ((j : Int) + 1)) W' := by
 refine ⟨j + 1, hj, by go_num, ?_, hs.then hs' (fun x hx => by simp at hx; subst hx; exact .inr hb)⟩
 rw [List.take_succ_eq_append_getElem (by omega), List.map_append, ← List.append_assoc, List.foldl_append]
 exact h
theorem Qo.step {w W : World} {b : Nat} {vars : List Int} {k : Nat} (hk : k < vars.length) (hs : Ad [] w W) (h : EY W b ((Ce [] (vars.take k) ++ (vars.take k).map (fun y => (vars[k], y))).foldl Cr [])) : Qo w b vars (.int .i64 ((k : Int) + 1)) W := by
 refine ⟨k + 1, hk, by go_num, ?_, hs⟩
 rw [List.take_succ_eq_append_getElem hk, G4]
 exact h
def RH (vars : List Int) (w : World) (e : Ending) (w' : World) : Prop := ∃ v, e = .returned (.tuple #[v, .int .i64 0]) ∧ Row w' 47 2 v (FM vars).length (AT (FM vars)) ∧ Ad [] w w' ∧ (∀ b, v.ownBlock = some b → w.heap.size ≤ b)
theorem Po (va : Value) (vars : List Int) (w : World) (ha : Row w 3 1 va vars.length (Ay vars)) (hn : vars.length ≤ 300) (hnd : vars.Nodup) :
  Calls Tryz.prog 117 #[va] w (RH vars w) := by
 have hmm := @run_makeMap Tryz.prog
 obtain ⟨Aa, ca, rfl⟩ := ha.shape
 have Ha := Kd ha
 have Hnd := Kd hnd
 clear ha hnd
 go_enter Tryz.func117, Tryz.ntmps117
 go_wp2
 have h0 : Qo w w.heap.size vars (.int .i64 0) (w.alloc (.map #[] 0)) := ⟨0, Nat.zero_le _, rfl, Cn.new _ _ _, Ad.alloc _ _ _⟩
 have H0 := Kd h0
 clear h0
 go_loopw [15] (fun u wr => Qo w w.heap.size vars u wr) (fun u _ => vars.length - (intOf u).toNat)
 case atStart => exact H0.out
 case round =>
  obtain ⟨k, hk, rfl, hset, hsm⟩ := hrel
  by_cases hlt : k < vars.length
  ·obtain ⟨g, c, hv, t0, hgl⟩ := BS (Ha.out.same hsm (by simp)) hlt
   cases hv
   have hcap : vars.length ≤ ca := by
    rcases Ha.out.2 with ⟨h1, h2⟩ | ⟨g', cap, cur, h1, h2, h3, h4, _⟩
    ·cases h1
    ·cases h1; exact h4
   have h0 : Qt w w.heap.size vars k vars[k] (.int .i64 0) wr := ⟨0, Nat.zero_le _, rfl, by simpa using hset, hsm⟩
   have HJ := Kd h0
   obtain ⟨w1, hw1⟩ : ∃ w1, w1 = wr := ⟨_, rfl⟩
   subst hw1
   clear h0 hset hsm
   go_wp2
   go_loopw [24] (fun u wr => Qt w w.heap.size vars k vars[k] u wr) (fun u _ => k - (intOf u).toNat)
   case atStart => exact HJ.out
   case round =>
    obtain ⟨j, hj, rfl, hset, hsm⟩ := hrel
    by_cases hjk : j < k
    ·obtain ⟨g2, c2, hv2, s0, hgl2⟩ := BS (Ha.out.same hsm (by simp)) (k := j) (by omega)
     cases hv2
     have hne : (vars[k] == vars[j]) = false := by
      rw [beq_eq_false_iff_ne]
      exact fun e => List.pairwise_iff_getElem.1 Hnd.out j k (by omega) hlt hjk e.symm
     have Hset := Kd hset
     have Hsm := Kd hsm
     clear hset hsm
     have hput := fun W (hW : EY W _ _) => EU w.heap.size ((Ce [] (vars.take k) ++ (vars.take j).map (fun y => (vars[k], y))).foldl Cr []) (vars[k], vars[j]) W hW
     go_wp2_with (go_at_call 150; go_must (refine (hput _ Hset.out).mono ?_; rintro e W3 ⟨⟨v3, rfl⟩, hset3, hs3⟩; have Hset3 := Kd hset3; have Hs3 := Kd hs3; clear hset3 hs3))
     go_roundw
     case rel => exact Qt.step hk hjk Hsm.out (Nat.le_refl _) Hset3.out Hs3.out
     case measure => simp [intOf]; omega
    ·have hjj : j = k := by omega
     subst hjj
     have Hset := Kd hset
     have Hsm := Kd hsm
     clear hset hsm
     go_wp2
     go_roundw
     case rel => exact Qo.step hlt Hsm.out Hset.out
     case measure => simp [intOf]; omega
  ·have hkk : k = vars.length := by omega
   subst hkk
   rw [List.take_length] at hset
   have hlen := Gg (Ce [] vars) []
   have hpl := Gc vars []
   have hb : vars.length * (([] : List Int).length + vars.length) ≤ 300 * 300 := Nat.mul_le_mul hn (by simpa using hn)
   have hinv : Ff ((Ce [] vars).foldl Cr []) (FM vars) := Ff.nil.fold _
   have hlist := fun W (hW : EY W _ _) => GH w.heap.size ((Ce [] vars).foldl Cr []) (FM vars) hinv (by simp at hlen; omega) W hW
   have Hset' := Kd hset
   have Hsm' := Kd hsm
   clear hset hsm hinv hlen hpl hb hlt hk
   go_wp2_with (go_at_call 151; go_must (refine (hlist _ Hset'.out).mono ?_; rintro e W4 ⟨v4, rfl, hr4, hs4, hv4⟩))
   go_ret2
   exact ⟨_, rfl, hr4, Hsm'.out.trans hs4, fun b hb => by have := hv4 b hb; have := Hsm'.out.size; omega⟩
def E4 (l : List Pr) (vars : List Int) : List Pr := (l.filter fun p => vars.contains p.1 && vars.contains p.2).foldl Fk []
theorem EW (w : World) : (zeroValue 248).run Tryz.prog w = .ok (.agg #[]) w := by kernel_rfl
abbrev R1 (w : World) (b : Nat) (l : List (Int × Value)) : Prop := Cn EN w b l
def El (l : List Int) : List (Int × Value) := l.foldl (fun m x => Bd x (Value.agg #[]) m) []
theorem Cp {α β : Type} [DecidableEq α] {k x : α} {v : β} : ∀ {l : List (α × β)}, AJ x (Bd k v l) = if x = k then some v else AJ x l
 | [] => by simp [Bd, AJ]
 | (k', v') :: r => by
  have ih := Cp (k := k) (x := x) (v := v) (l := r)
  exact zq67
theorem Fl (l : List Int) (x : Int) : (AJ x (El l)).isSome = l.contains x ∧ (AJ x (El l)).getD (.agg #[]) = .agg #[] := by
 unfold El
 have key : ∀ (l : List Int) (m : List (Int × Value)), (AJ x (l.foldl (fun m x => Bd x (Value.agg #[]) m) m)).isSome = (l.contains x || (AJ x m).isSome) ∧ ((AJ x m).getD (.agg #[]) = .agg #[] → (AJ x (l.foldl (fun m x => Bd x (Value.agg #[]) m) m)).getD (.agg #[]) = .agg #[]) := by
  intro l
  induction l with
  | nil => intro m; simp
  | cons a l ih =>
   intro m
   have h := ih (Bd a (.agg #[]) m)
   rw [Cp] at h
   simp only [List.foldl_cons]
   by_cases ha : x = a
   ·subst ha
    refine ⟨by rw [h.1]; simp, fun _ => h.2 (by simp)⟩
   ·rw [if_neg ha] at h
    refine ⟨?_, fun hm => h.2 hm⟩
    rw [h.1]
    simp [ha]
 have h := key l []
 exact ⟨by rw [h.1]; simp [AJ], h.2 (by simp [AJ])⟩
theorem F6 (l : List Int) (x : Int) : El (l ++ [x]) = Bd x (.agg #[]) (El l) := by simp [El]
def Rg (w : World) (b : Nat) (vars : List Int) (u : Value) (W : World) : Prop :=
 ∃ k : Nat, k ≤ vars.length ∧ u = .int .i64 k ∧ R1 W b (El (vars.take k)) ∧ Ad [] w W
def Ri (w : World) (b b2 : Nat) (vars : List Int) (ps : List Pr) (u : Value) (W : World) : Prop :=
 ∃ k : Nat, k ≤ ps.length ∧ u = .int .i64 k ∧ R1 W b (El vars) ∧ EY W b2 (((ps.take k).filter fun p => vars.contains p.1 && vars.contains p.2).foldl Cr []) ∧ Ad [] w W
theorem zq27 {P : Prop} (h : P := by
 go_wp2
 have hs4 : ∀ o o' o'', Ad [] wr (((wr.alloc o).alloc o').alloc o'') := fun o o' o'' => ((Ad.alloc [] wr o).trans (Ad.alloc [] _ o')).trans (Ad.alloc [] _ o'')
 refine ⟨⟨k + 1, hlt, by go_num, Hset.out.same (hs4 _ _ _) (by simp), ?_, Hsm.out.trans (hs4 _ _ _)⟩, by simp [intOf]; omega⟩
 rw [List.take_succ_eq_append_getElem hlt, List.filter_append, List.foldl_append]
 simp only [List.filter_cons, List.filter_nil, Hx1.out, Hx2.out, Bool.and_false, Bool.and_true, Bool.and_self, Bool.false_eq_true, if_false, List.foldl_nil]
 exact Hps.out.same (hs4 _ _ _) (by simp)) : P := h
theorem N8 (va vb : Value) (ps : List Pr) (vars : List Int) (w : World) (ha : Row w 47 2 va ps.length (AT ps)) (hb : Row w 3 1 vb vars.length (Ay vars)) (hn : ps.length ≤ 1000000) (hnv : vars.length ≤ 1000000000) :
  Calls Tryz.prog 156 #[va, vb] w (GP (E4 ps vars) w) := by
 have hmm := @run_makeMap Tryz.prog
 obtain ⟨Aa, ca, rfl⟩ := ha.shape
 obtain ⟨Ab, cb, rfl⟩ := hb.shape
 have Ha := Kd ha
 have Hb := Kd hb
 clear ha hb
 go_enter Tryz.func156, Tryz.ntmps156
 go_wp2
 have h0 : Rg w w.heap.size vars (.int .i64 0) (w.alloc (.map #[] 0)) := ⟨0, Nat.zero_le _, rfl, Cn.new _ _ _, Ad.alloc _ _ _⟩
 have H0 := Kd h0
 clear h0
 go_loopw [18] (fun u wr => Rg w w.heap.size vars u wr) (fun u _ => vars.length - (intOf u).toNat)
 case atStart => exact H0.out
 case round =>
  obtain ⟨k, hk, rfl, hset, hsm⟩ := hrel
  by_cases hlt : k < vars.length
  ·obtain ⟨g, c, hv, t0, hgl⟩ := BS (Hb.out.same hsm (by simp)) hlt
   cases hv
   have Hset := Kd hset
   have Hsm := Kd hsm
   clear hset hsm
   go_wp2_with (at_mapUpdate; go_must (refine C7 CX Hset.out Tryz.underlying306 rfl _ _ _ rfl vars[k] (.agg #[]) rfl rfl rfl ?_; intro W3 hset3 hs3; have Hset3 := Kd hset3; have Hs3 := Kd hs3; clear hset3 hs3))
   go_roundw
   case rel =>
    refine ⟨k + 1, hlt, by go_num, ?_, Hsm.out.then Hs3.out (fun x hx => by simp at hx; subst hx; exact .inr (Nat.le_refl _))⟩
    rw [List.take_succ_eq_append_getElem hlt, F6]; exact Hset3.out
   case measure => simp [intOf]; omega
  ·have hkk : k = vars.length := by omega
   subst hkk
   rw [List.take_length] at hset
   obtain ⟨w1, hw1⟩ : ∃ w1, w1 = wr := ⟨_, rfl⟩
   subst hw1
   have hsl := hset.lt
   have hsz := hsm.size
   have h1 : Ri w w.heap.size w1.heap.size vars ps (.int .i64 0) (w1.alloc (.map #[] 0)) := ⟨0, Nat.zero_le _, rfl, hset.same (Ad.alloc [] _ _) (by simp), Cn.new _ _ _, hsm.trans (Ad.alloc _ _ _)⟩
   have H1 := Kd h1
   clear h1 H0 hset hsm hlt hk
   go_wp2
   go_loopw [29] (fun u wr => Ri w w.heap.size w1.heap.size vars ps u wr) (fun u _ => ps.length - (intOf u).toNat)
   case atStart => exact H1.out
   case round =>
    obtain ⟨k, hk, rfl, hset, hps, hsm⟩ := hrel
    by_cases hlt : k < ps.length
    ·obtain ⟨g, c, hv, hcell⟩ := (Row.same Ha.out hsm (by simp)).elem (i := k) hlt (ys := BT ps[k]) rfl (CG ps k hlt) (by decide)
     have t0 := (hcell 0 (by decide)).1
     have t1 := (hcell 1 (by decide)).1
     simp only [BT, List.getD_cons_zero, List.getD_cons_succ, Nat.add_zero] at t0 t1
     cases hv
     have hgl := World.block_lt_of_cell? _ _ t0
     clear hcell
     obtain ⟨e1, z1⟩ := Fl vars ps[k].1
     obtain ⟨e2, z2⟩ := Fl vars ps[k].2
     have hl1 := fun o => (hset.same (Ad.alloc [] wr o) (by simp)).run_lookup (P := Tryz.prog) CX Tryz.underlying306 (EW _) ps[k].1 true
     have hl2 := fun o o' => (hset.same ((Ad.alloc [] wr o).trans (Ad.alloc [] _ o')) (by simp)).run_lookup (P := Tryz.prog) CX Tryz.underlying306 (EW _) ps[k].2 true
     rw [if_pos rfl, z1, e1] at hl1
     rw [if_pos rfl, z2, e2] at hl2
     have Hset := Kd hset
     have Hps := Kd hps
     have Hsm := Kd hsm
     obtain ⟨x1, hx1⟩ : ∃ x1, vars.contains ps[k].1 = x1 := ⟨_, rfl⟩
     obtain ⟨x2, hx2⟩ : ∃ x2, vars.contains ps[k].2 = x2 := ⟨_, rfl⟩
     rw [hx1] at hl1
     rw [hx2] at hl2
     have Hx1 := Kd hx1
     have Hx2 := Kd hx2
     unfold EN at hl1 hl2
     clear hset hps hsm e1 z1 e2 z2 hx1 hx2
     cases x1 <;> cases x2
     ·exact zq27
     ·exact zq27
     ·exact zq27
     ·have hput := fun W (hW : EY W _ _) => EU w1.heap.size (((ps.take k).filter fun p => vars.contains p.1 && vars.contains p.2).foldl Cr []) ps[k] W hW
      have hs3a : ∀ o o' o'', Ad [] wr (((wr.alloc o).alloc o').alloc o'') := fun o o' o'' => ((Ad.alloc [] wr o).trans (Ad.alloc [] _ o')).trans (Ad.alloc [] _ o'')
      go_wp2_with (go_at_call 150; go_must (refine (hput _ (Hps.out.same (hs3a _ _ _) (by simp))).mono ?_; rintro e W3 ⟨⟨v3, rfl⟩, hset3, hs3⟩; have Hset3 := Kd hset3; have Hs3 := Kd hs3; clear hset3 hs3))
      go_roundw
      case rel =>
       have hs4 : Ad [w1.heap.size] wr W3 := Ad.trans ((hs3a _ _ _).mono (by simp)) Hs3.out
       refine ⟨k + 1, hlt, by go_num, Hset.out.same hs4 (by simp; omega), ?_, Hsm.out.then hs4 (fun x hx => by simp at hx; subst hx; exact .inr (by omega))⟩
       rw [List.take_succ_eq_append_getElem hlt, List.filter_append, List.foldl_append]
       simp only [List.filter_cons, List.filter_nil, Hx1.out, Hx2.out, Bool.and_self, if_true, List.foldl_cons, List.foldl_nil]
       exact Hset3.out
      case measure => simp [intOf]; omega
    ·have hkk : k = ps.length := by omega
     subst hkk
     rw [List.take_length] at hps
     have hlen := Gg (ps.filter fun p => vars.contains p.1 && vars.contains p.2) []
     have hfl := List.length_filter_le (fun p : Pr => vars.contains p.1 && vars.contains p.2) ps
     have hinv : Ff ((ps.filter fun p => vars.contains p.1 && vars.contains p.2).foldl Cr []) (E4 ps vars) := Ff.nil.fold _
     have hlist := fun W (hW : EY W _ _) => GH w1.heap.size ((ps.filter fun p => vars.contains p.1 && vars.contains p.2).foldl Cr []) (E4 ps vars) hinv (by rw [List.length_nil] at hlen; omega) W hW
     have Hset' := Kd hps
     have Hsm' := Kd hsm
     clear hset hps hsm hinv hlen hfl hlt hk
     exact zq68
end Go.Proofs.YtbfbgfpghkijdaaGreatDoor
