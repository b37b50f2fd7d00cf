/- lemmalaw texts, part 38. -/
import Derived.Test.YtbfbgfpghkijdaaGreatDoorYbb
import Derived.Test.YtbfbgfpghkijdaaGreatDoorYbk
set_option maxRecDepth 100000
set_option linter.unusedVariables false
set_option linter.unusedSimpArgs false
set_option maxHeartbeats 32000000
namespace Go.Proofs.YtbfbgfpghkijdaaGreatDoor
open Go.RowKit
def Kx (l : List Pr) : List (Pr × Value) := l.foldl Cr []
theorem PG (l : List Pr) (q : Pr) : (AJ (BB q) (Kx l)).isSome = Fy l q ∧ (AJ (BB q) (Kx l)).getD (.agg #[]) = .agg #[] := by
 have key : ∀ (l : List Pr) (m : List (Pr × Value)), (AJ (BB q) (l.foldl Cr m)).isSome = (Fy l q || (AJ (BB q) m).isSome) ∧ ((AJ (BB q) m).getD (.agg #[]) = .agg #[] → (AJ (BB q) (l.foldl Cr m)).getD (.agg #[]) = .agg #[]) := by
  intro l
  induction l with
  | nil => intro m; simp [Fy]
  | cons a l ih =>
   intro m
   have h := ih (Cr m a)
   have hd : Fy (a :: l) q = ((a.1 != a.2 && BB a == BB q) || Fy l q) := by simp [Fy]
   rw [List.foldl_cons, hd]
   unfold Cr at h ⊢
   by_cases ha : a.1 = a.2
   ·rw [if_pos ha] at h ⊢
    have : (a.1 != a.2) = false := by simp [ha]
    rw [this, Bool.false_and, Bool.false_or]
    exact h
   ·rw [if_neg ha] at h ⊢
    have hne : (a.1 != a.2) = true := by simp [ha]
    rw [Cp] at h
    rw [hne, Bool.true_and]
    by_cases ht : BB q = BB a
    ·rw [if_pos ht] at h
     have : (BB a == BB q) = true := by simp [ht]
     exact ⟨by rw [h.1, this]; simp, fun _ => h.2 rfl⟩
    ·rw [if_neg ht] at h
     have : (BB a == BB q) = false := by rw [beq_eq_false_iff_ne]; exact fun e => ht e.symm
     exact ⟨by rw [h.1, this]; simp, h.2⟩
 have h := key l []
 exact ⟨by rw [Kx, h.1]; simp [AJ], h.2 (by simp [AJ])⟩
def Cw (vars : Int → Bool) (s : Bx) (have_ : List Pr) (p : Pr) : Bool := match Gs (ofP vars (BH s p.1)) (ofP vars (BH s p.2)) with
 | none => true
 | some L => L.any fun q => !Fy have_ q
theorem Dy {vars : Int → Bool} {x : Int} {e : List Int} : x ∈ Cu e vars ↔ x ∈ e ∧ vars x = true := by
 have key : ∀ (e out : List Int), x ∈ e.foldl (CD vars) out ↔ x ∈ out ∨ (x ∈ e ∧ vars x = true) := by
  intro e
  induction e with
  | nil => intro out; simp
  | cons n e ih =>
   intro out
   rw [List.foldl_cons, ih, List.mem_cons]
   unfold CD
   split
   ·rename_i h
    have hn : n ∈ out := by simpa using h
    constructor
    ·rintro (h1 | h1)
     ·exact .inl h1
     ·exact .inr ⟨.inr h1.1, h1.2⟩
    ·rintro (h1 | ⟨rfl | h1, h2⟩)
     ·exact .inl h1
     ·exact .inl hn
     ·exact .inr ⟨h1, h2⟩
   ·split
    ·rename_i hv
     rw [Kg]
     constructor
     ·rintro ((rfl | h1) | h1)
      ·exact .inr ⟨.inl rfl, hv⟩
      ·exact .inl h1
      ·exact .inr ⟨.inr h1.1, h1.2⟩
     ·rintro (h1 | ⟨rfl | h1, h2⟩)
      ·exact .inl (.inr h1)
      ·exact .inl (.inl rfl)
      ·exact .inr ⟨h1, h2⟩
    ·rename_i hv
     constructor
     ·rintro (h1 | h1)
      ·exact .inl h1
      ·exact .inr ⟨.inr h1.1, h1.2⟩
     ·rintro (h1 | ⟨rfl | h1, h2⟩)
      ·exact .inl h1
      ·exact absurd h2 hv
      ·exact .inr ⟨h1, h2⟩
 have := key e []
 simpa [Cu] using this
theorem Li (vars : Int → Bool) (s : Bx) (hl : List Pr) (p : Pr) : Cw vars s hl p = !C8 vars hl s p := by
 rw [Bool.eq_iff_iff]
 unfold Cw C8
 simp only [Bool.not_eq_true', List.all_eq_false, Bool.not_eq_true, Bool.and_eq_false_iff, bne_eq_false_iff_eq]
 by_cases hx : ∃ x, x ∈ ofP vars (BH s p.1) ∧ x ∈ ofP vars (BH s p.2)
 ·obtain ⟨x, h1, h2⟩ := hx
  rw [K8 h1 h2]
  exact ⟨fun _ => ⟨x, Dy.2 (Ey.1 h1), x, Dy.2 (Ey.1 h2), .inl rfl⟩, fun _ => rfl⟩
 ·have hd : ∀ x ∈ ofP vars (BH s p.1), x ∉ ofP vars (BH s p.2) := fun x h1 h2 => hx ⟨x, h1, h2⟩
  rw [KY hd]
  simp only [List.any_eq_true, Bool.not_eq_true']
  constructor
  ·rintro ⟨q, hq, h⟩
   obtain ⟨a, ha, hq⟩ := List.mem_flatMap.1 hq
   obtain ⟨b, hb, rfl⟩ := List.mem_map.1 hq
   exact ⟨a, Dy.2 (Ey.1 ha), b, Dy.2 (Ey.1 hb), .inr h⟩
  ·rintro ⟨a, ha, b, hb, h⟩
   have ha' := Ey.2 (Dy.1 ha)
   have hb' := Ey.2 (Dy.1 hb)
   rcases h with rfl | h
   ·exact absurd hb' (hd _ ha')
   ·exact ⟨(a, b), List.mem_flatMap.2 ⟨a, ha', List.mem_map.2 ⟨b, hb', rfl⟩⟩, h⟩
theorem On {α : Type} {f : α → Bool} : ∀ {l : List α} {k : Nat} (hk : k < l.length), (∀ x ∈ l.take k, f x = false) → f l[k] = true → l.find? f = some l[k]
 | a :: l, 0, _, _, hx => by simp at hx; simp [hx]
 | a :: l, k + 1, hk, h, hx => by
  have ha : f a = false := h a (by simp)
  rw [List.find?_cons, ha]
  exact On (l := l) (by simpa using hk) (fun x hm => h x (by simp [hm])) (by simpa using hx)
structure BrS (w : World) (v : Value) (l : List (Pr × Value)) (W : World) : Prop where
 sub : W.heap[w.heap.size]? = some (.cells #[v] 262 (0, 0))
 res : W.heap[w.heap.size + 1]? = some (.cells #[.int .i64 0, .int .i64 0] 47 (0, 0))
 set : EY W (w.heap.size + 2) l
 base : Ad [] w W
theorem BrS.same {w W W' : World} {v : Value} {l : List (Pr × Value)} (h : BrS w v l W) (hs : Ad [] W W') : BrS w v l W' := ⟨hs.get h.sub (by simp), hs.get h.res (by simp), h.set.same hs (by simp), h.base.trans hs⟩
theorem BrS.put {w W W' : World} {v : Value} {l l' : List (Pr × Value)} (h : BrS w v l W) (hp : EY W' (w.heap.size + 2) l') (hs : Ad [w.heap.size + 2] W W') : BrS w v l' W' :=
 ⟨hs.get h.sub (by simp), hs.get h.res (by simp), hp, h.base.then hs fun x hx => .inr (by simp at hx; omega)⟩
def OA (o : Option Pr) (w : World) (e : Ending) (w' : World) : Prop := e = .returned (.tuple #[.agg #[.int .i64 (o.getD (0, 0)).1, .int .i64 (o.getD (0, 0)).2], .bool o.isSome]) ∧ Ad [] w w'
theorem zq127 {P : Prop} (h : P := by
 rw [Hf.out]
 exact ⟨rfl, (Hb3.out.base.setNew _ _ (by simp)).setNew _ _ (by simp)⟩) : P := h
theorem LO (w : World) (nb : Nat) (vars : Int → Bool) (hv : Ik w nb vars) (v : Value) (s : Bx) (h : E3 w v s) (hsl : ∀ x, (BH s x).length ≤ 100000) (vl vh : Value) (l hl : List Pr) (hr : Row w 47 2 vl l.length (AT l)) (hh : Row w 47 2 vh hl.length (AT hl))
  (hn : l.length ≤ 1000000) (hn2 : hl.length ≤ 1000000) :
  Calls Tryz.prog 145 #[vl, .agg #[v], fnB nb, vh] w (OA (l.find? (Cw vars s hl)) w) := by
 have hask := fun (W : World) (hW : Ad [] w W) (p : Pr) => N6 W nb vars (hv.same hW) v s (h.same hW) p _ _ rfl rfl (Nat.le_trans (Gf _ _) (hsl _)) (Nat.le_trans (Gf _ _) (hsl _))
 have hmm := @run_makeMap Tryz.prog
 unfold Rj fnB at hask
 unfold fnB
 obtain ⟨Al, cl, rfl⟩ := hr.shape
 obtain ⟨Ah, ch, rfl⟩ := hh.shape
 have Hask := Kd hask
 have Hr := Kd hr
 have Hh := Kd hh
 have h0 : BrS w v [] (((w.alloc (.cells #[v] 262)).alloc (.cells #[.int .i64 0, .int .i64 0] 47)).alloc (.map #[] 0)) := by
  have e1 : (w.alloc (.cells #[v] 262)).heap.size = w.heap.size + 1 := AA _ _
  have e2 : ((w.alloc (.cells #[v] 262)).alloc (.cells #[.int .i64 0, .int .i64 0] 47)).heap.size = w.heap.size + 2 := by rw [AA, e1]
  refine ⟨AR (AR (Aj _ _) _) _, AR (by rw [← e1]; exact Aj _ _) _, ?_, ((Ad.alloc [] _ _).trans (Ad.alloc [] _ _)).trans (Ad.alloc [] _ _)⟩
  rw [← e2]
  exact Cn.new _ _ _
 have H0 := Kd h0
 clear hask hr hh h hv h0
 go_enter Tryz.func145, Tryz.ntmps145
 go_wp2
 go_loopw [24] (fun u wr => ∃ k : Nat, k ≤ hl.length ∧ u = .int .i64 k ∧ BrS w v (Kx (hl.take k)) wr) (fun u _ => hl.length - (intOf u).toNat)
 case atStart => exact ⟨0, Nat.zero_le _, rfl, H0.out⟩
 case round =>
  obtain ⟨k, hk, rfl, hbr⟩ := hrel
  by_cases hlt : k < hl.length
  ·obtain ⟨g, c, hv, hcell⟩ := (Hh.out.same hbr.base (by simp)).elem (i := k) hlt (ys := BT hl[k]) rfl (CG hl k hlt) (by decide)
   have t0 := (hcell 0 (by decide)).1
   have t1 := (hcell 1 (by decide)).1
   simp only [BT, List.getD_cons_zero, List.getD_cons_succ, Nat.add_zero] at t0 t1
   cases hv
   have hgl := World.block_lt_of_cell? _ _ t0
   have hput := fun W hW => EU (w.heap.size + 2) (Kx (hl.take k)) hl[k] W hW
   have e1 : Kx (hl.take (k + 1)) = Cr (Kx (hl.take k)) hl[k] := by unfold Kx; rw [List.take_succ_eq_append_getElem hlt, List.foldl_append]; rfl
   have Hbr := Kd hbr
   have He := Kd e1
   clear hcell hbr e1 H0
   go_wp2_with (go_at_call 150; go_must (refine (hput _ (Hbr.out.set.same (Ad.alloc [] _ _) (by simp))).mono ?_; rintro e W3 ⟨⟨v3, rfl⟩, hset3, hs3⟩; have Hset3 := Kd hset3; have Hs3 := Kd hs3; clear hset3 hs3))
   go_roundw
   case rel => exact ⟨k + 1, hlt, by go_num, by rw [He.out]; exact (Hbr.out.same (Ad.alloc [] _ _)).put Hset3.out Hs3.out⟩
   case measure => simp [intOf]; omega
  ·have hkk : k = hl.length := by omega
   subst hkk
   rw [List.take_length] at hbr
   have Hbr := Kd hbr
   clear hbr H0
   obtain ⟨w1, hw1⟩ : ∃ w1, w1 = wr := ⟨_, rfl⟩
   subst hw1
   go_wp2
   go_loopw [34] (fun u wr => ∃ k : Nat, k ≤ l.length ∧ u = .int .i64 k ∧ (∀ p ∈ l.take k, Cw vars s hl p = false) ∧ BrS w v (Kx hl) wr) (fun u _ => l.length - (intOf u).toNat)
   case atStart => exact ⟨0, Nat.zero_le _, rfl, by simp, Hbr.out⟩
   case round =>
    obtain ⟨k, hk, rfl, hno, hbr⟩ := hrel
    by_cases hlt : k < l.length
    ·obtain ⟨g, c, hv, hcell⟩ := (Hr.out.same hbr.base (by simp)).elem (i := k) hlt (ys := BT l[k]) rfl (CG l k hlt) (by decide)
     have t0 := (hcell 0 (by decide)).1
     have t1 := (hcell 1 (by decide)).1
     simp only [BT, List.getD_cons_zero, List.getD_cons_succ, Nat.add_zero] at t0 t1
     cases hv
     have hgl := World.block_lt_of_cell? _ _ t0
     have hfi := fun h => On (f := Cw vars s hl) hlt hno h
     obtain ⟨p, hp⟩ : ∃ p, l[k] = p := ⟨_, rfl⟩
     have htk : ∀ h : Cw vars s hl p = false, ∀ q ∈ l.take (k + 1), Cw vars s hl q = false := fun h q hq => by
      rw [List.take_succ_eq_append_getElem hlt, hp] at hq
      rcases List.mem_append.1 hq with hq | hq
      ·exact hno q hq
      ·rw [List.mem_singleton] at hq; rw [hq]; exact h
     rw [hp] at t0 t1 hfi
     have s0 := Ai (i := 0) (v := v) hbr.sub
     have sl := Af hbr.sub
     have hasp := fun (W : World) (hW : Ad [] wr W) => Hask.out W (hbr.base.trans hW) p
     have hB0 : (wr.alloc (.cells #[.int .i64 p.1, .int .i64 p.2] 47)).heap[wr.heap.size]? = some (.cells #[.int .i64 p.1, .int .i64 p.2] 47 (0, 0)) := Aj _ _
     have HB0 := Kd hB0
     have Hbr2 := Kd hbr
     have Htk := Kd htk
     have Hfi := Kd hfi
     clear hcell hbr hno hp htk hfi hB0 Hbr
     cases ha : Gs (ofP vars (BH s p.1)) (ofP vars (BH s p.2)) with
     | none =>
      rw [ha] at hasp
      have hbk : Cw vars s hl p = true := by unfold Cw; rw [ha]
      have Hf := Kd (Hfi.out hbk)
      dsimp only at hasp
      clear ha hbk
      go_wp2_with (go_at_call 167; go_must (refine (hasp _ (Ad.alloc [] _ _)).mono ?_; rintro e3 W3 ⟨hs3, rfl⟩; have hb3 := (Hbr2.out.same (Ad.alloc [] _ _)).same hs3; obtain ⟨c0, c1, cf⟩ := Fh (hs3.get HB0.out (by simp)); have cl := Af (hs3.get HB0.out (by simp)); obtain ⟨r0, r1, rf⟩ := Fh hb3.res; have rl := Af hb3.res; have Hb3 := Kd hb3; clear hs3 hb3))
      have hy := AI (AI Hb3.out.res 0 (.int .i64 p.1)) 1 (.int .i64 p.2)
      simp only [List.setIfInBounds_toArray, List.set_cons_zero, List.set_cons_succ] at hy
      obtain ⟨y0, y1, yf⟩ := Fh hy
      refine bodyPost_ret_by (v := .tuple #[.agg #[.int .i64 p.1, .int .i64 p.2], .bool true]) (by simp [results, Tryz.f145, go_sem, y0, y1]) rfl ?_
      exact zq127
     | some L =>
      rw [ha] at hasp
      dsimp only at hasp
      have hbk : Cw vars s hl p = L.any fun q => !Fy hl q := by unfold Cw; rw [ha]
      have Hbk := Kd hbk
      have hLl : L.length ≤ 10000000000 := by
       unfold Gs at ha
       split at ha
       ·cases ha
       ·cases ha
        rw [J2]
        have h1 := Nat.le_trans (Gf vars (BH s p.1)) (hsl p.1)
        have h2 := Nat.le_trans (Gf vars (BH s p.2)) (hsl p.2)
        have h3 := Nat.mul_le_mul h1 h2
        omega
      clear ha hbk
      go_wp2_with (go_at_call 167; go_must (refine (hasp _ (Ad.alloc [] _ _)).mono ?_; rintro e3 W3 ⟨hs3, v3, rfl, hr3, hf3⟩; obtain ⟨A3, c3, rfl⟩ := hr3.shape; have Hb3 := Kd ((Hbr2.out.same (Ad.alloc [] _ _)).same hs3); have HB3 := Kd (hs3.get HB0.out (by simp)); have Hr3 := Kd hr3; clear hs3 hr3 hf3))
      go_loopw [50] (fun u wr => ∃ j : Nat, j ≤ L.length ∧ u = .int .i64 j ∧ (∀ q ∈ L.take j, Fy hl q = true) ∧ BrS w v (Kx hl) wr ∧ Ad [] W3 wr) (fun u _ => L.length - (intOf u).toNat)
      case atStart => exact ⟨0, Nat.zero_le _, rfl, by simp, Hb3.out, Ad.refl _ _⟩
      case round =>
       obtain ⟨j, hj, rfl, hnj, hbj, hsj⟩ := hrel
       obtain ⟨c0, c1, cf⟩ := Fh (hsj.get HB3.out (by simp))
       have cl := Af (hsj.get HB3.out (by simp))
       by_cases hjt : j < L.length
       ·obtain ⟨g2, c2, hv2, hcell2⟩ := (Hr3.out.same hsj (by simp)).elem (i := j) hjt (ys := BT L[j]) rfl (CG L j hjt) (by decide)
        have u0 := (hcell2 0 (by decide)).1
        have u1 := (hcell2 1 (by decide)).1
        simp only [BT, List.getD_cons_zero, List.getD_cons_succ, Nat.add_zero] at u0 u1
        cases hv2
        have hgl2 := World.block_lt_of_cell? _ _ u0
        have hm : L[j] ∈ L := List.getElem_mem hjt
        obtain ⟨q, hq⟩ : ∃ q, L[j] = q := ⟨_, rfl⟩
        have htk : Fy hl q = true → ∀ x ∈ L.take (j + 1), Fy hl x = true := fun h x hx => by
         rw [List.take_succ_eq_append_getElem hjt, hq] at hx
         rcases List.mem_append.1 hx with hx | hx
         ·exact hnj x hx
         ·rw [List.mem_singleton] at hx; rw [hx]; exact h
        rw [hq] at u0 u1 hm
        obtain ⟨e1, z1⟩ := PG hl q
        have htu := H8 q
        have Hbj := Kd hbj
        have Hsj := Kd hsj
        have Htk2 := Kd htk
        cases hh : Fy hl q with
        | true =>
         rw [hh] at e1
         have Hh2 := Kd hh
         have hlk := fun (W : World) (hW : Ad [] wr W) => (Hbj.out.set.same hW (by simp)).run_lookup (P := Tryz.prog) Mc Tryz.underlying279 (EW _) (BB q) true
         simp only [if_true, z1, e1] at hlk
         clear hcell2 hbj hsj hq htk e1 z1 hnj hh hm
         go_wp2_with (go_at_call 168; go_must (refine (htu _).mono ?_; rintro e4 W4 ⟨rfl, hs4⟩; have hs04 : Ad [] wr W4 := (Ad.alloc [] _ _).trans hs4; have hl4 := hlk W4 hs04; have Hs4 := Kd hs04; clear hs4 hs04))
         go_roundw
         case rel => exact ⟨j + 1, hjt, by go_num, Htk2.out Hh2.out, Hbj.out.same (Hs4.out.trans (Ad.alloc [] _ _)), Hsj.out.trans (Hs4.out.trans (Ad.alloc [] _ _))⟩
         case measure => simp [intOf]; omega
        | false =>
         rw [hh] at e1
         have hbt : Cw vars s hl p = true := by rw [Hbk.out]; exact List.any_eq_true.2 ⟨q, hm, by rw [hh]; rfl⟩
         have Hf := Kd (Hfi.out hbt)
         have hlk := fun (W : World) (hW : Ad [] wr W) => (Hbj.out.set.same hW (by simp)).run_lookup (P := Tryz.prog) Mc Tryz.underlying279 (EW _) (BB q) true
         simp only [if_true, z1, e1] at hlk
         have HBj := Kd (hsj.get HB3.out (by simp))
         clear hcell2 hbj hsj hq htk e1 z1 hnj hh hm hbt c0 c1 cf cl
         go_wp2_with (go_at_call 168; go_must (refine (htu _).mono ?_; rintro e4 W4 ⟨rfl, hs4⟩; have hs04 : Ad [] wr W4 := (Ad.alloc [] _ _).trans hs4; have hl4 := hlk W4 hs04; have hb4 := Hbj.out.same hs04; have Hb3 := Kd hb4; obtain ⟨c0, c1, cf⟩ := Fh (hs04.get HBj.out (by simp)); have cl := Af (hs04.get HBj.out (by simp)); obtain ⟨r0, r1, rf⟩ := Fh (Hbj.out.same hs04).res; have rl := Af (Hbj.out.same hs04).res; clear hs4 hs04 hb4))
         have hy := AI (AI Hb3.out.res 0 (.int .i64 p.1)) 1 (.int .i64 p.2)
         simp only [List.setIfInBounds_toArray, List.set_cons_zero, List.set_cons_succ] at hy
         obtain ⟨y0, y1, yf⟩ := Fh (AR hy (.cells #[] 248))
         refine bodyPost_ret_by (v := .tuple #[.agg #[.int .i64 p.1, .int .i64 p.2], .bool true]) (by simp [results, Tryz.f145, go_sem, y0, y1]) rfl ?_
         rw [Hf.out]
         exact ⟨rfl, ((Hb3.out.base.setNew _ _ (by simp)).setNew _ _ (by simp)).alloc' _⟩
       ·have hjj : j = L.length := by omega
        subst hjj
        rw [List.take_length] at hnj
        have hbf : Cw vars s hl p = false := by
         rw [Hbk.out, List.any_eq_false]
         intro q hq
         rw [hnj q hq]
         decide
        have Hno := Kd (Htk.out hbf)
        have Hbj := Kd hbj
        clear hbj hsj hnj hbf
        go_wp2
        go_roundw
        case rel => exact ⟨k + 1, hlt, by go_num, Hno.out, Hbj.out⟩
        case measure => simp [intOf]; omega
    ·have hkk : k = l.length := by omega
     subst hkk
     rw [List.take_length] at hno
     have hf : l.find? (Cw vars s hl) = none := List.find?_eq_none.2 fun x hx => by rw [hno x hx]; decide
     have Hf := Kd hf
     have Hb3 := Kd hbr
     obtain ⟨r0, r1, rf⟩ := Fh hbr.res
     have rl := Af hbr.res
     clear hbr hno hf Hbr
     go_wp2
     have hy := AI (AI Hb3.out.res 0 (.int .i64 0)) 1 (.int .i64 0)
     simp only [List.setIfInBounds_toArray, List.set_cons_zero, List.set_cons_succ] at hy
     obtain ⟨y0, y1, yf⟩ := Fh hy
     refine bodyPost_ret_by (v := .tuple #[.agg #[.int .i64 0, .int .i64 0], .bool false]) (by simp [results, Tryz.f145, go_sem, y0, y1]) rfl ?_
     exact zq127
def RX (w : World) (s : Bx) (e want : List Int) (v u : Value) (W : World) : Prop :=
 ∃ (k : Nat) (r : List Int), k ≤ e.length ∧ u = .int .i64 k ∧ want = A0 s (e.take k) ++ r ∧ Seg W v r ∧ Ad [] w W
theorem L5 {P m q r : List Int} (h : m ≠ r.take m.length) : (P ++ (m ++ q) == P ++ r) = false := by
 rw [beq_eq_false_iff_ne]
 intro e
 have e2 := List.append_cancel_left e
 exact h (by rw [← e2, List.take_left])
theorem zq17 {P : Prop} (h : P := by
 have hEq := fun (W : World) (va vb : Value) (lb : List Int) (h1 : Seg W va m) (h2 : Seg W vb lb) (h3 : lb.length ≤ 1000000) => FY W va vb m lb h1 h2 (by omega) h3
 have Hseg1 := Kd (Hseg.out.same Hs1.out)
 by_cases hml2 : m.length ≤ r.length
 ·have htl : (r.take m.length).length ≤ 1000000 := by rw [List.length_take]; omega
  have hgt : decide (r.length < m.length) = false := decide_eq_false (by omega)
  by_cases heq : m = r.take m.length
  ·have hd : decide (m = r.take m.length) = true := decide_eq_true heq
   have Heq := Kd heq
   clear heq
   go_wp2_with (first
    | (with_reducible refine I8 Tryz.elemInts Tryz.sizeInts _ none (some _) rfl (by simp [Region.wanted, yielded]) (l := r) rfl Hseg1.out 0 m.length (.inl ⟨rfl, rfl⟩) (.inr rfl) (Nat.zero_le _) hml2 ?_; intro A2 c2 hs2; simp only [Nat.sub_zero] at hs2 ⊢; have Hs2 := Kd hs2; clear hs2)
    | (go_at_call 140; go_must (refine (hEq _ _ _ _ (Seg.of_row Hr1.out) Hs2.out (by rw [List.drop_zero]; exact htl)).mono ?_; rintro e3 W3 ⟨rfl, hw3⟩; have hw4 := hw3.symm; subst hw4; clear hw3)))
   go_roundw
   case rel =>
    have hcut := Hseg1.out.cut (lo := m.length) (hi := r.length) hml2 (Nat.le_refl _)
    rw [List.take_length] at hcut
    have hdl : r.length - m.length = (r.drop m.length).length := by rw [List.length_drop]
    have hr : m ++ r.drop m.length = r := by have h := List.take_append_drop m.length r; rw [← Heq.out] at h; exact h
    refine ⟨⟨k + 1, r.drop m.length, hlt, by go_num, ?_, by simpa [sliced] using hcut, Hsm.out.trans Hs1.out⟩, Hs1.out.get Hbr.out (by simp)⟩
    rw [Hsn.out, Hat.out, List.append_assoc, hr]
    exact Hwr.out
   case measure => simp [intOf]; omega
  ·have hd : decide (m = r.take m.length) = false := decide_eq_false heq
   have Heq := Kd heq
   clear heq
   go_wp2_with (first
    | (with_reducible refine I8 Tryz.elemInts Tryz.sizeInts _ none (some _) rfl (by simp [Region.wanted, yielded]) (l := r) rfl Hseg1.out 0 m.length (.inl ⟨rfl, rfl⟩) (.inr rfl) (Nat.zero_le _) hml2 ?_; intro A2 c2 hs2; simp only [Nat.sub_zero] at hs2 ⊢; have Hs2 := Kd hs2; clear hs2)
    | (go_at_call 140; go_must (refine (hEq _ _ _ _ (Seg.of_row Hr1.out) Hs2.out (by rw [List.drop_zero]; exact htl)).mono ?_; rintro e3 W3 ⟨rfl, hw3⟩; have hw4 := hw3.symm; subst hw4; clear hw3)))
   go_ret
   refine ⟨B9 ?_, Hsm.out.trans Hs1.out⟩
   rw [Hse.out, Hwr.out, Hat.out]
   exact (L5 (fun h => Heq.out h)).symm
 ·have hgt : decide (r.length < m.length) = true := decide_eq_true (by omega)
  go_wp2
  go_ret
  refine ⟨B9 ?_, Hsm.out.trans Hs1.out⟩
  rw [Hse.out, Hwr.out, Hat.out]
  exact (L5 (fun h => hml2 (by have h2 := congrArg List.length h; rw [List.length_take] at h2; omega))).symm) : P := h
theorem Ku (w : World) (v : Value) (s : Bx) (h : E3 w v s) (hsl : ∀ x, (BH s x).length ≤ 100000) (ve vw : Value) (e want : List Int) (he : Seg w ve e) (hw : Seg w vw want) (hn : e.length ≤ 1000000) (hn2 : want.length ≤ 1000000) :
  Calls Tryz.prog 144 #[.agg #[v], ve, vw] w fun r w' => r = .returned (.bool (A0 s e == want)) ∧ Ad [] w w' := by
 have hof := fun (W : World) (hW : Ad [] w W) (x : Int) => Mj W v s (h.same hW) x
 unfold Q1 at hof
 obtain ⟨Ae, ce, rfl⟩ := he.shape
 obtain ⟨Aw, cw, rfl⟩ := hw.shape
 have He := Kd he
 have Hof := Kd hof
 have hbx : (w.alloc (.cells #[v] 262)).heap[w.heap.size]? = some (.cells #[v] 262 (0, 0)) := Aj _ _
 have Hbx := Kd hbx
 have h0 : RX w s e want (.slice Aw want.length cw) (.int .i64 0) (w.alloc (.cells #[v] 262)) := ⟨0, want, Nat.zero_le _, rfl, by simp [A0], hw.same (Ad.alloc [] _ _), Ad.alloc _ _ _⟩
 have H0 := Kd h0
 clear he hw hof h hbx h0
 go_enter Tryz.func144, Tryz.ntmps144
 go_wp2
 go_loopw [2, 13] (fun o u wr => RX w s e want o u wr ∧ wr.heap[w.heap.size]? = some (.cells #[v] 262 (0, 0))) (fun _ u _ => e.length - (intOf u).toNat)
 case atStart => exact ⟨H0.out, Hbx.out⟩
 case round =>
  obtain ⟨⟨k, r, hk, rfl, hwr, hseg, hsm⟩, hbr⟩ := hrel
  obtain ⟨Ar, cr, rfl⟩ := hseg.shape
  have b0 := Ai (i := 0) (v := v) hbr
  have bl := Af hbr
  have hrl : r.length ≤ 1000000 := by
   have : want.length = (A0 s (e.take k)).length + r.length := by rw [hwr, List.length_append]
   omega
  by_cases hlt : k < e.length
  ·obtain ⟨g, off, rfl, t0, hgl⟩ := (He.out.same hsm).cell hlt
   have hofx := Hof.out wr hsm e[k]
   have hat : BH s e[k] = (AJ e[k] s).getD [e[k]] := rfl
   have hml := hsl e[k]
   have hse : A0 s e = A0 s (e.take k) ++ (BH s e[k] ++ A0 s (e.drop (k + 1))) := by
    have hee : e.take k ++ (e[k] :: e.drop (k + 1)) = e := by rw [← List.drop_eq_getElem_cons hlt, List.take_append_drop]
    have h2 : A0 s (e.take k ++ (e[k] :: e.drop (k + 1))) = A0 s (e.take k) ++ (BH s e[k] ++ A0 s (e.drop (k + 1))) := by
     unfold A0
     rw [List.flatMap_append, List.flatMap_cons]
    rw [hee] at h2
    exact h2
   have hsn : A0 s (e.take (k + 1)) = A0 s (e.take k) ++ BH s e[k] := by rw [List.take_succ_eq_append_getElem hlt, ED]
   have Hsm := Kd hsm
   have Hbr := Kd hbr
   have Hseg := Kd hseg
   have Hwr := Kd hwr
   have Hse := Kd hse
   have Hsn := Kd hsn
   cases ha : AJ e[k] s with
   | none =>
    rw [ha] at hofx hat
    simp only [Option.getD_none, Option.isSome_none] at hofx hat
    obtain ⟨m, hm⟩ : ∃ m, [e[k]] = m := ⟨_, rfl⟩
    rw [hm] at hat
    rw [hat] at hml
    have Hat := Kd hat
    have Hm := Kd hm
    clear hsm hbr hseg hwr hse hsn hat ha H0 hm
    go_upto_region 7 with (go_at_call 166; go_must (refine hofx.mono ?_; rintro e1 W0 ⟨ev, rfl, hr1, hf1, hs1⟩; have Hs0 := Kd hs1; clear hs1 hr1 hf1))
    have hrow := Oy W0 e[k]
    have hs01 : Ad [] wr (W0.alloc (.cells #[.int .i64 e[k]] 3)) := Hs0.out.trans (Ad.alloc _ _ _)
    generalize W0.alloc (.cells #[.int .i64 e[k]] 3) = W1 at hrow hs01 ⊢
    generalize Value.slice (some ⟨W0.heap.size, 0, none⟩) 1 1 = vm at hrow ⊢
    have hrow : Row W1 3 1 vm m.length (Ay m) := by rw [← Hm.out]; exact hrow
    obtain ⟨A1, c1, rfl⟩ := hrow.shape
    have Hr1 := Kd hrow
    have Hs1 := Kd hs01
    clear hrow hs01 hofx Hm Hs0
    exact zq17
   | some m =>
    rw [ha] at hofx hat
    simp only [Option.getD_some, Option.isSome_some] at hofx hat
    rw [hat] at hml
    have Hat := Kd hat
    clear hsm hbr hseg hwr hse hsn hat ha H0
    go_upto_region 7 with (go_at_call 166; go_must (refine hofx.mono ?_; rintro e1 W1 ⟨ev, rfl, hr1, hf1, hs1⟩; obtain ⟨A1, c1, rfl⟩ := hr1.shape; have Hs1 := Kd hs1; have Hr1 := Kd hr1; clear hs1 hr1 hf1))
    clear hofx
    exact zq17
  ·have hkk : k = e.length := by omega
   subst hkk
   rw [List.take_length] at hwr
   have Hsm := Kd hsm
   have Hwr := Kd hwr
   clear hsm hbr hseg hwr H0
   go_wp2
   go_ret
   refine ⟨B9 ?_, Hsm.out⟩
   rw [Hwr.out]
   rw [Bool.eq_iff_iff]
   cases r <;> simp
   omega
end Go.Proofs.YtbfbgfpghkijdaaGreatDoor
