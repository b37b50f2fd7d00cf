/- lemmalaw texts, part 3. -/
import Derived.OrdersIn
import Derived.Orders
import Derived.StillTail
import Derived.Tactics
import Derived.TacticsIn
set_option maxRecDepth 100000
set_option linter.unusedVariables false
set_option linter.unusedSimpArgs false
set_option maxHeartbeats 32000000
namespace Go.Proofs.YtbfbgfpghkijdaaGreatDoor
abbrev LK (ops : Array Oper) (j i : Nat) : Bool := Region.waitsFor .any ops j i
def J8 (ops : Array Oper) (j i : Nat) : Bool := ((Region.before ops).getD j 0).testBit i
def Cv (ops : Array Oper) (i : Nat) : Option Tmp := (ops[i]?).bind (·.dst)
def looks (ops : Array Oper) (i : Nat) : List Tmp := ((ops[i]?).map (Oper.looksAt ops)).getD []
inductive OTree
 | done
 | read (q : Nat) (t : OTree)
 | one (q : Nat) (L : List Nat) (t : OTree)
 | two (q : Nat) (L : List Nat) (t : OTree) (q' : Nat) (L' : List Nat) (t' : OTree)
def IP (ops : Array Oper) (pre : List Nat) (q : Nat) : Bool :=
 !pre.contains q && ((ops[q]?).map fun o => o.after.all fun e => !Region.binds .any e || pre.contains e.on).getD false
def LA (ops : Array Oper) (pre : List Nat) (q : Nat) (L : List Nat) : Bool := pre.all fun u => L.contains u || J8 ops q u
def Qf (ops : Array Oper) (pre heads : List Nat) : Bool :=
 (List.range ops.size).all fun i => pre.contains i || heads.contains i || (List.range ops.size).any fun x => !pre.contains x && LK ops i x
def LN (ops : Array Oper) (q : Nat) : Bool := match Cv ops q with
 | none => true
 | some d => (List.range ops.size).all fun j => !(looks ops j).contains d || (q != j && J8 ops j q)
def DU (ops : Array Oper) : OTree → List Nat → Bool
 | .done, pre => (List.range ops.size).all fun i => pre.contains i
 | .read q t, pre => IP ops pre q && LN ops q && DU ops t (q :: pre)
 | .one q L t, pre => IP ops pre q && LA ops pre q L && Qf ops pre [q] && DU ops t (q :: pre)
 | .two q L t q' L' t', pre => IP ops pre q && LA ops pre q L && IP ops pre q' && LA ops pre q' L' && Qf ops pre [q, q'] && DU ops t (q :: pre) && DU ops t' (q' :: pre)
def FT (ops : Array Oper) : Bool :=
 (List.range ops.size).all fun i => match Cv ops i with
  | none => true
  | some d => (List.range ops.size).all fun j => i == j || Cv ops j != some d
def Iw (ops : Array Oper) (t : OTree) : Bool := DU ops t [] && FT ops
theorem Ih (acc : Array Nat) (i : Nat) : ∀ (l : List Edge) (s : Nat), (l.foldl (fun s e => if Region.binds .any e then s ||| 2 ^ e.on ||| acc.getD e.on 0 else s) s).testBit i = true →
  s.testBit i = true ∨ ∃ e ∈ l, Region.binds .any e = true ∧ (e.on = i ∨ (acc.getD e.on 0).testBit i = true)
 | [], s, h => .inl h
 | e :: l, s, h => by
  rw [List.foldl_cons] at h
  rcases Ih acc i l _ h with h1 | ⟨e', he', h2⟩
  ·by_cases hb : Region.binds .any e = true
   ·rw [if_pos hb, Nat.testBit_or, Nat.testBit_or, Bool.or_eq_true, Bool.or_eq_true] at h1
    rcases h1 with (h1 | h1) | h1
    ·exact .inl h1
    ·rw [Nat.testBit_two_pow] at h1
     exact .inr ⟨e, List.mem_cons_self .., hb, .inl (by simpa using h1)⟩
    ·exact .inr ⟨e, List.mem_cons_self .., hb, .inr h1⟩
   ·rw [if_neg hb] at h1; exact .inl h1
  ·exact .inr ⟨e', List.mem_cons_of_mem _ he', h2⟩
def Di (acc : Array Nat) (o : Oper) : Array Nat := acc.push (o.after.foldl (fun s e => if Region.binds .any e then s ||| 2 ^ e.on ||| acc.getD e.on 0 else s) 0)
theorem GS : ∀ (l : List Oper) (ops : List Oper) (acc : Array Nat), acc.size = ops.length →
  (∀ j i, (acc.getD j 0).testBit i = true → ∃ o, ops[j]? = some o ∧ ∃ e ∈ o.after, Region.binds .any e = true ∧ (e.on = i ∨ (e.on < j ∧ (acc.getD e.on 0).testBit i = true))) →
  ∀ j i, ((l.foldl Di acc).getD j 0).testBit i = true → ∃ o, (ops ++ l)[j]? = some o ∧ ∃ e ∈ o.after, Region.binds .any e = true ∧ (e.on = i ∨ (e.on < j ∧ ((l.foldl Di acc).getD e.on 0).testBit i = true))
 | [], ops, acc, hs, h, j, i, hb => by simpa using h j i hb
 | o :: l, ops, acc, hs, h, j, i, hb => by
  rw [List.foldl_cons] at hb ⊢
  have hold : ∀ k, k < acc.size → (Di acc o).getD k 0 = acc.getD k 0 := fun k hk => by
   simp [Di, Array.getD_eq_getD_getElem?, Array.getElem?_push, Nat.ne_of_lt hk]
  have := GS l (ops ++ [o]) (Di acc o) (by simp [Di, hs]) (fun j i hb => by
   by_cases hj : j < acc.size
   ·rw [hold j hj] at hb
    obtain ⟨o', ho', e, he, hbd, h1⟩ := h j i hb
    refine ⟨o', by rw [List.getElem?_append_left (by omega)]; exact ho', e, he, hbd, ?_⟩
    rcases h1 with h1 | ⟨h1, h2⟩
    ·exact .inl h1
    ·exact .inr ⟨h1, by rw [hold _ (by omega)]; exact h2⟩
   ·by_cases hj2 : j = acc.size
    ·subst hj2
     have hval : (Di acc o).getD acc.size 0 = o.after.foldl (fun s e => if Region.binds .any e then s ||| 2 ^ e.on ||| acc.getD e.on 0 else s) 0 := by
      simp [Di, Array.getD_eq_getD_getElem?]
     rw [hval, ← Array.foldl_toList] at hb
     rcases Ih acc i _ _ hb with h1 | ⟨e, he, hbd, h1⟩
     ·simp at h1
     ·refine ⟨o, by rw [hs, List.getElem?_append_right (Nat.le_refl _)]; simp, e, by simpa using he, hbd, ?_⟩
      rcases h1 with h1 | h1
      ·exact .inl h1
      ·have hlt : e.on < acc.size := by
        rcases Nat.lt_or_ge e.on acc.size with h' | h'
        ·exact h'
        ·rw [show acc.getD e.on 0 = 0 by simp [Array.getD_eq_getD_getElem?, Array.getElem?_eq_none h']] at h1
         simp at h1
       exact .inr ⟨hlt, by rw [hold _ hlt]; exact h1⟩
    ·have : (Di acc o).getD j 0 = 0 := by
      simp [Di, Array.getD_eq_getD_getElem?, Array.getElem?_push, hj2, Array.getElem?_eq_none (Nat.le_of_not_lt hj)]
     rw [this] at hb
     simp at hb) j i hb
  simpa using this
theorem MI {ops : Array Oper} {j i : Nat} (h : J8 ops j i = true) : ∃ o, ops[j]? = some o ∧ ∃ e ∈ o.after, Region.binds .any e = true ∧ (e.on = i ∨ (e.on < j ∧ J8 ops e.on i = true)) := by
 have e1 : Region.before ops = ops.toList.foldl Di #[] := by
  unfold Region.before
  rw [← Array.foldl_toList]
  rfl
 unfold J8 at h ⊢
 rw [e1] at h ⊢
 have := GS ops.toList [] #[] rfl (fun j i hb => by simp at hb) j i h
 simpa using this
def RC (ops : Array Oper) (D : Nat → Prop) : Prop := ∀ j, D j → ∀ i, LK ops j i = true → D i
theorem G8 {ops : Array Oper} {j : Nat} {o : Oper} {e : Edge} (ho : ops[j]? = some o) (he : e ∈ o.after) (hb : Region.binds .any e = true) : LK ops j e.on = true := by
 unfold LK Region.waitsFor
 rw [ho]
 exact Array.any_eq_true'.2 ⟨e, he, by simp [hb]⟩
theorem Gm {ops : Array Oper} {D : Nat → Prop} (hD : RC ops D) : ∀ (j i : Nat), J8 ops j i = true → (∀ k, LK ops j k = true → D k) → D i := by
 intro j
 induction j using Nat.strongRecOn with
 | _ j ih =>
  intro i h hp
  obtain ⟨o, ho, e, he, hb, h1⟩ := MI h
  have hw := G8 ho he hb
  rcases h1 with rfl | ⟨hlt, h2⟩
  ·exact hp _ hw
  ·exact ih _ hlt i h2 (fun k hk => hD _ (hp _ hw) _ hk)
def C3 (ops : Array Oper) (U : List (Nat × Value)) (a : Act) : Act := U.foldl (fun a p => a.put (Cv ops p.1) p.2) a
theorem EA (ops : Array Oper) (U V : List (Nat × Value)) (a : Act) : C3 ops (U ++ V) a = C3 ops V (C3 ops U a) := by simp [C3]
theorem Ec (ops : Array Oper) (p : Nat × Value) (V : List (Nat × Value)) (a : Act) : C3 ops (p :: V) a = C3 ops V (a.put (Cv ops p.1) p.2) := rfl
theorem Ew (a : Act) (d : Option Tmp) (v : Value) : (a.put d v).defers = a.defers := by cases d <;> rfl
theorem DK (ops : Array Oper) : ∀ (U : List (Nat × Value)) (a : Act), (C3 ops U a).defers = a.defers
 | [], a => rfl
 | p :: U, a => by rw [Ec, DK ops U]; exact Ew _ _ _
theorem JN (ops : Array Oper) (d : Option Tmp) (v : Value) : ∀ (U : List (Nat × Value)) (a : Act), (∀ p ∈ U, ∀ x, d = some x → Cv ops p.1 ≠ some x) → (C3 ops U a).put d v = C3 ops U (a.put d v)
 | [], a, _ => rfl
 | p :: U, a, h => by
  rw [Ec, Ec, JN ops d v U _ (fun q hq => h q (List.mem_cons_of_mem _ hq))]
  congr 1
  exact (Act.put_comm a v p.2 (h p (List.mem_cons_self ..))).symm
section core
variable (ops : Array Oper) (S : Nat → (Act → World → Prop) → Act → World → Prop) (Y : Nat → Value → Act → World → Prop) (QN : Act → World → Prop)
def Jo : Nat → Array Bool → Act → World → Prop
 | 0, l, a, w => Region.ready .any ops l = [] ∧ QN a w
 | f + 1, l, a, w => (Region.ready .any ops l = [] → QN a w) ∧ ∀ i ∈ Region.ready .any ops l, S i (Jo f (l.setIfInBounds i true)) a w
def FA : OTree → List (Nat × Value) → Act → World → Prop
 | .done, _, a, w => QN a w
 | .read i t, pd, a, w => ∃ v, Y i v a w ∧ FA t ((i, v) :: pd) (a.put (Cv ops i) v) w
 | .one i L t, pd, a, w => S i (fun a' w' => a'.defers = a.defers ∧ (∀ p ∈ pd, p.1 ∈ L → Y p.1 p.2 a' w') ∧ FA t pd a' w') a w
 | .two i L t i' L' t', pd, a, w => S i (fun a' w' => a'.defers = a.defers ∧ (∀ p ∈ pd, p.1 ∈ L → Y p.1 p.2 a' w') ∧ FA t pd a' w') a w ∧
   S i' (fun a' w' => a'.defers = a.defers ∧ (∀ p ∈ pd, p.1 ∈ L' → Y p.1 p.2 a' w') ∧ FA t' pd a' w') a w
structure GB : Prop where
 y_put : ∀ i v a w d x, (∀ t, d = some t → t ∉ looks ops i) → (Y i v (a.put d x) w ↔ Y i v a w)
 read : ∀ i v a w K, i < ops.size → Y i v a w → K (a.put (Cv ops i) v) w → S i K a w
 eff : ∀ i K K' (U : List (Nat × Value)) a w, i < ops.size → (∀ p ∈ U, ∀ t, Cv ops p.1 = some t → t ∉ looks ops i) → S i K (C3 ops U a) w →
  (∀ v w', K ((C3 ops U a).put (Cv ops i) v) w' → K' (a.put (Cv ops i) v) w') → (∀ a' w', K a' w' → a'.defers = a.defers) → S i K' a w
variable {ops S Y QN}
theorem Qk (hS : GB ops S Y) (i : Nat) (v : Value) (w : World) : ∀ (U : List (Nat × Value)) (a : Act), (∀ p ∈ U, ∀ t, Cv ops p.1 = some t → t ∉ looks ops i) → (Y i v (C3 ops U a) w ↔ Y i v a w)
 | [], a, _ => Iff.rfl
 | p :: U, a, h => by
  rw [Ec, Qk hS i v w U _ (fun q hq => h q (List.mem_cons_of_mem _ hq))]
  exact hS.y_put _ _ _ _ _ _ (h p (List.mem_cons_self ..))
theorem Fd {ops : Array Oper} {i j : Nat} (h : LN ops i = true) (hj : j < ops.size) {d : Tmp} (hd : Cv ops i = some d) (hm : d ∈ looks ops j) : i ≠ j ∧ J8 ops j i = true := by
 unfold LN at h
 rw [hd] at h
 have h2 := List.all_eq_true.1 h j (List.mem_range.2 hj)
 simp only [Bool.and_eq_true, Bool.or_eq_true, Bool.not_eq_true', bne_iff_ne, ne_eq, List.contains_eq_mem, decide_eq_false_iff_not] at h2
 rcases h2 with h3 | h3
 ·exact absurd hm h3
 ·exact h3
theorem Jn {ops : Array Oper} (h : FT ops = true) {i j : Nat} (hi : i < ops.size) (hj : j < ops.size) {d : Tmp} (hd : Cv ops i = some d) (hne : i ≠ j) : Cv ops j ≠ some d := by
 have h1 := List.all_eq_true.1 h i (List.mem_range.2 hi)
 rw [hd] at h1
 have h2 := List.all_eq_true.1 h1 j (List.mem_range.2 hj)
 simp only [Bool.or_eq_true, bne_iff_ne, ne_eq, beq_iff_eq] at h2
 rcases h2 with h3 | h3
 ·exact absurd h3 hne
 ·exact h3
structure GL (ops : Array Oper) (lD : Array Bool) (U : List (Nat × Value)) (pre : List Nat) : Prop where
 size : lD.size = ops.size
 lt : ∀ p ∈ U, p.1 < ops.size
 nodup : (U.map (·.1)).Nodup
 notD : ∀ p ∈ U, lD.getD p.1 false = false
 prem : ∀ i, i ∈ pre ↔ (i < ops.size ∧ (lD.getD i false = true ∨ i ∈ U.map (·.1)))
 down : RC ops (fun i => lD.getD i false = true)
 chain : ∀ U1 p U2, U = U1 ++ p :: U2 → ∀ i, LK ops p.1 i = true → lD.getD i false = true ∨ i ∈ U1.map (·.1)
 early : ∀ p ∈ U, LN ops p.1 = true
def Is (ops : Array Oper) (l : Array Bool) : Nat := (List.range ops.size).countP fun i => !l.getD i false
theorem CS {ops : Array Oper} {l : Array Bool} (hs : l.size = ops.size) {j : Nat} : j ∈ Region.ready .any ops l ↔ j < ops.size ∧ l.getD j false = false ∧ ∀ i, LK ops j i = true → l.getD i false = true := by
 rw [mem_ready]
 constructor
 ·rintro ⟨h0, o, ho, h⟩
  have hj : j < ops.size := (Array.getElem?_eq_some_iff.1 ho).1
  refine ⟨hj, getD_both h0, fun i hw => ?_⟩
  obtain ⟨oj, hoj, e, he, hb, rfl⟩ := Region.waitsFor_spec hw
  rw [ho] at hoj
  cases hoj
  exact h e he hb
 ·rintro ⟨hj, h0, h⟩
  refine ⟨getD_in (by omega) h0, ops[j], Array.getElem?_eq_getElem hj, fun e he hb => h _ (G8 (Array.getElem?_eq_getElem hj) he hb)⟩
theorem GL.ltD {ops : Array Oper} {lD : Array Bool} {U : List (Nat × Value)} {pre : List Nat} (h : GL ops lD U pre) {k : Nat} (hk : lD.getD k false = true) : k < ops.size := by
 rcases Nat.lt_or_ge k lD.size with h' | h'
 ·rw [← h.size]; exact h'
 ·simp [Array.getD_eq_getD_getElem?, Array.getElem?_eq_none h'] at hk
theorem GL.preDown {ops : Array Oper} {lD : Array Bool} {U : List (Nat × Value)} {pre : List Nat} (h : GL ops lD U pre) : RC ops (fun i => i ∈ pre) := by
 intro j hj i hw
 obtain ⟨hlt, hj2⟩ := (h.prem j).1 hj
 rcases hj2 with hj2 | hj2
 ·have := h.down j hj2 i hw
  exact (h.prem i).2 ⟨h.ltD this, .inl this⟩
 ·obtain ⟨p, hp, rfl⟩ := List.mem_map.1 hj2
  obtain ⟨U1, U2, hU⟩ := List.append_of_mem hp
  rcases h.chain U1 p U2 hU i hw with h1 | h1
  ·exact (h.prem i).2 ⟨h.ltD h1, .inl h1⟩
  ·refine (h.prem i).2 ⟨?_, .inr (by rw [hU]; simp only [List.map_append, List.mem_append]; exact .inl h1)⟩
   obtain ⟨q, hq, rfl⟩ := List.mem_map.1 h1
   exact h.lt q (by rw [hU]; exact List.mem_append_left _ hq)
theorem Iq {ops : Array Oper} {pre : List Nat} {q : Nat} (h : IP ops pre q = true) : q ∉ pre ∧ q < ops.size ∧ ∀ i, LK ops q i = true → i ∈ pre := by
 unfold IP at h
 simp only [Bool.and_eq_true, Bool.not_eq_true', List.contains_eq_mem, decide_eq_false_iff_not] at h
 cases ho : ops[q]? with
 | none => rw [ho] at h; simp at h
 | some o =>
  refine ⟨h.1, (Array.getElem?_eq_some_iff.1 ho).1, fun i hw => ?_⟩
  obtain ⟨oj, hoj, e, he, hb, rfl⟩ := Region.waitsFor_spec hw
  rw [ho] at hoj
  cases hoj
  have h2 := h.2
  rw [ho] at h2
  simp only [Option.map_some, Option.getD_some] at h2
  have := (Array.all_eq_true_iff_forall_mem.1 h2) e he
  simpa [hb] using this
theorem If {l : Array Bool} {i j : Nat} (hi : i < l.size) : (l.setIfInBounds i true).getD j false = if i = j then true else l.getD j false := by
 by_cases h : i = j
 ·subst h; simp [hi]
 ·rw [getD_set_ne false h, if_neg h]
theorem IC (p p' : Nat → Bool) (i : Nat) (hp : p i = true) (hp' : p' i = false) (hne : ∀ j, j ≠ i → p' j = p j) : ∀ (l : List Nat), l.Nodup → i ∈ l → l.countP p = l.countP p' + 1
 | [], _, h => by cases h
 | x :: l, hn, h => by
  rw [List.nodup_cons] at hn
  by_cases hx : x = i
  ·subst hx
   rw [List.countP_cons_of_pos hp, List.countP_cons_of_neg (by simp [hp'])]
   congr 1
   exact (List.countP_congr fun y hy => by rw [hne y (fun e => hn.1 (e ▸ hy))]).symm
  ·have hi : i ∈ l := by
    rcases List.mem_cons.1 h with h | h
    ·exact absurd h.symm hx
    ·exact h
   have := IC p p' i hp hp' hne l hn.2 hi
   rw [List.countP_cons, List.countP_cons, hne x hx, this]
   omega
theorem M0 {ops : Array Oper} {l : Array Bool} {i : Nat} (hs : l.size = ops.size) (hi : i < ops.size) (h0 : l.getD i false = false) : Is ops l = Is ops (l.setIfInBounds i true) + 1 := by
 refine IC _ _ i (by simp [h0]) ?_ (fun j hj => ?_) _ List.nodup_range (List.mem_range.2 hi)
 ·rw [If (by omega)]; simp
 ·rw [If (by omega), if_neg (Ne.symm hj)]
theorem zq131 {P : Prop} (h : P := by
 rintro (h | h | h)
 · exact .inr (.inl h)
 · exact .inl h
 · exact .inr (.inr h)) : P := h
theorem Ny (hS : GB ops S Y) (hA : FT ops = true) {f : Nat} {t : OTree} {pd U : List (Nat × Value)} {lD : Array Bool} {aD : Act} {pre : List Nat} {w : World} (hI : GL ops lD U pre) (hf : f + 1 = Is ops lD)
    (hpd : ∀ p ∈ U, p ∈ pd) (hY : ∀ p ∈ U, Y p.1 p.2 (C3 ops U aD) w) (hC : FA ops S Y QN t pd (C3 ops U aD) w) {i : Nat} (hi : i ∈ Region.ready .any ops lD)
    (ih : ∀ (lD' : Array Bool) (aD' : Act) (U' : List (Nat × Value)), GL ops lD' U' pre → f = Is ops lD' → (∀ p ∈ U', p ∈ pd) → (∀ p ∈ U', Y p.1 p.2 (C3 ops U' aD') w) → FA ops S Y QN t pd (C3 ops U' aD') w → Jo ops S QN f lD' aD' w)
    (hiU : i ∈ U.map (·.1)) : S i (Jo ops S QN f (lD.setIfInBounds i true)) aD w := by
  obtain ⟨hlt, h0, hpr⟩ := (CS hI.size).1 hi
  obtain ⟨p, hp, rfl⟩ := List.mem_map.1 hiU
  obtain ⟨U1, U2, hU⟩ := List.append_of_mem hp
  have hnd := hI.nodup
  have hne : ∀ u ∈ U1 ++ U2, u.1 ≠ p.1 := by
    rw [hU] at hnd
    simp only [List.map_append, List.map_cons] at hnd
    intro u hu e
    rcases List.mem_append.1 hu with h1 | h1
    · exact (List.nodup_append.1 hnd).2.2 u.1 (List.mem_map.2 ⟨u, h1, rfl⟩) p.1 (List.mem_cons_self ..) e
    · have := (List.nodup_cons.1 (List.nodup_append.1 hnd).2.1).1
      exact this (List.mem_map.2 ⟨u, h1, e⟩)
  have hsub : ∀ u ∈ U1 ++ U2, u ∈ U := fun u hu => by
    rw [hU]
    rcases List.mem_append.1 hu with h1 | h1
    · exact List.mem_append_left _ h1
    · exact List.mem_append_right _ (List.mem_cons_of_mem _ h1)
  have hap : ∀ u ∈ U, ∀ t, Cv ops u.1 = some t → t ∉ looks ops p.1 := fun u hu t ht hm => by
    have h1 := Fd (hI.early u hu) hlt ht hm
    have h2 := Gm hI.down p.1 u.1 h1.2 hpr
    rw [hI.notD u hu] at h2
    cases h2
  have hputs : C3 ops (U1 ++ U2) (aD.put (Cv ops p.1) p.2) = C3 ops U aD := by
    rw [hU, EA, EA, Ec, JN]
    intro u hu x hx e
    exact Jn hA hlt (hI.lt u (hsub u (List.mem_append_left _ hu))) hx (hne u (List.mem_append_left _ hu)).symm e
  refine hS.read p.1 p.2 aD w _ hlt ((Qk hS p.1 p.2 w U aD hap).1 (hY p hp)) ?_
  have hset : ∀ j, (lD.setIfInBounds p.1 true).getD j false = if p.1 = j then true else lD.getD j false := fun j => If (by rw [hI.size]; exact hlt)
  have hmem : ∀ j, j ∈ U.map (·.1) ↔ j = p.1 ∨ j ∈ (U1 ++ U2).map (·.1) := fun j => by
    rw [hU]
    simp only [List.map_append, List.map_cons, List.mem_append, List.mem_cons]
    constructor
    · exact zq131
    · exact zq131
  refine ih _ _ (U1 ++ U2) ⟨by simp [hI.size], fun u hu => hI.lt u (hsub u hu), ?_, ?_, ?_, ?_, ?_, fun u hu => hI.early u (hsub u hu)⟩ ?_ (fun u hu => hpd u (hsub u hu)) (fun u hu => by rw [hputs]; exact hY u (hsub u hu)) (by rw [hputs]; exact hC)
  · rw [hU] at hnd
    simp only [List.map_append, List.map_cons] at hnd ⊢
    exact hnd.sublist (List.Sublist.append_left (List.sublist_cons_self ..) _)
  · intro u hu
    rw [hset, if_neg (hne u hu).symm]
    exact hI.notD u (hsub u hu)
  · intro j
    rw [hI.prem j, hset]
    constructor
    · rintro ⟨h1, h2 | h2⟩
      · exact ⟨h1, .inl (by split <;> simp_all)⟩
      · rcases (hmem j).1 h2 with h3 | h3
        · exact ⟨h1, .inl (by rw [if_pos h3.symm])⟩
        · exact ⟨h1, .inr h3⟩
    · rintro ⟨h1, h2 | h2⟩
      · by_cases hpj : p.1 = j
        · exact ⟨h1, .inr ((hmem j).2 (.inl hpj.symm))⟩
        · rw [if_neg hpj] at h2; exact ⟨h1, .inl h2⟩
      · exact ⟨h1, .inr ((hmem j).2 (.inr h2))⟩
  · intro j hj k hw
    show (lD.setIfInBounds p.1 true).getD k false = true
    rw [hset]
    by_cases hpk : p.1 = k
    · rw [if_pos hpk]
    · rw [if_neg hpk]
      have hj' : (if p.1 = j then true else lD.getD j false) = true := by rw [← hset]; exact hj
      by_cases hpj : p.1 = j
      · subst hpj; exact hpr k hw
      · rw [if_neg hpj] at hj'; exact hI.down j hj' k hw
  · intro V1 q V2 hV k hw
    rw [hset]
    by_cases hpk : p.1 = k
    · rw [if_pos hpk]; exact .inl rfl
    · rw [if_neg hpk]
      rcases List.append_eq_append_iff.1 hV with ⟨as, h1, h2⟩ | ⟨bs, h1, h2⟩
      · have := hI.chain (U1 ++ p :: as) q V2 (by rw [hU, h2]; simp) k hw
        rcases this with h3 | h3
        · exact .inl h3
        · refine .inr ?_
          rw [h1]
          simp only [List.map_append, List.map_cons, List.mem_append, List.mem_cons] at h3 ⊢
          rcases h3 with h3 | h3 | h3
          · exact .inl h3
          · exact absurd h3.symm hpk
          · exact .inr h3
      · cases bs with
        | nil =>
          have := hI.chain (U1 ++ [p]) q V2 (by rw [hU]; simp at h2; rw [← h2]; simp) k hw
          rcases this with h3 | h3
          · exact .inl h3
          · refine .inr ?_
            simp at h1
            rw [h1] at h3
            simp only [List.map_append, List.map_cons, List.map_nil, List.mem_append, List.mem_cons, List.not_mem_nil, or_false] at h3
            rcases h3 with h3 | h3
            · exact h3
            · exact absurd h3.symm hpk
        | cons b bs =>
          simp only [List.cons_append, List.cons.injEq] at h2
          obtain ⟨rfl, h2⟩ := h2
          exact hI.chain V1 q (bs ++ p :: U2) (by rw [hU, h1]; simp) k hw
  · have := M0 hI.size hlt h0
    omega
theorem Og (hS : GB ops S Y) (hA : FT ops = true) {f : Nat} {t : OTree} {pd U : List (Nat × Value)} {lD : Array Bool} {aD : Act} {pre : List Nat} {w : World} (hI : GL ops lD U pre) (hf : f + 1 = Is ops lD)
  (hpd : ∀ p ∈ U, p ∈ pd) {i : Nat} {L : List Nat} (hC : S i (fun a' w' => a'.defers = (C3 ops U aD).defers ∧ (∀ p ∈ pd, p.1 ∈ L → Y p.1 p.2 a' w') ∧ FA ops S Y QN t pd a' w') (C3 ops U aD) w)
  (hi : i ∈ Region.ready .any ops lD) (hip : i ∉ pre) (hk : LA ops pre i L = true)
  (ih : ∀ (lD' : Array Bool) (aD' : Act) (w' : World), GL ops lD' U (i :: pre) → f = Is ops lD' → (∀ p ∈ U, p ∈ pd) → (∀ p ∈ U, Y p.1 p.2 (C3 ops U aD') w') → FA ops S Y QN t pd (C3 ops U aD') w' → Jo ops S QN f lD' aD' w') :
  S i (Jo ops S QN f (lD.setIfInBounds i true)) aD w := by
 obtain ⟨hlt, h0, hpr⟩ := (CS hI.size).1 hi
 have hUne : ∀ u ∈ U, u.1 ≠ i := fun u hu e => hip ((hI.prem i).2 ⟨hlt, .inr (List.mem_map.2 ⟨u, hu, e⟩)⟩)
 have hap : ∀ u ∈ U, ∀ t, Cv ops u.1 = some t → t ∉ looks ops i := fun u hu t ht hm => by
  have h1 := Fd (hI.early u hu) hlt ht hm
  have h2 := Gm hI.down i u.1 h1.2 hpr
  rw [hI.notD u hu] at h2
  cases h2
 refine hS.eff i _ _ U aD w hlt hap hC ?_ (fun a' w' hk => by rw [hk.1, DK])
 rintro v w' ⟨_, hre, hC'⟩
 have hputs : C3 ops U (aD.put (Cv ops i) v) = (C3 ops U aD).put (Cv ops i) v :=
  (JN ops _ v U aD (fun u hu x hx e => Jn hA hlt (hI.lt u hu) hx (hUne u hu).symm e)).symm
 have hset : ∀ j, (lD.setIfInBounds i true).getD j false = if i = j then true else lD.getD j false := fun j => If (by rw [hI.size]; exact hlt)
 refine ih (lD.setIfInBounds i true) (aD.put (Cv ops i) v) w' ⟨by simp [hI.size], hI.lt, hI.nodup, ?_, ?_, ?_, ?_, hI.early⟩ ?_ hpd ?_ (by rw [hputs]; exact hC')
 ·intro u hu
  rw [hset, if_neg (hUne u hu).symm]
  exact hI.notD u hu
 ·intro j
  rw [List.mem_cons, hI.prem j, hset]
  constructor
  ·rintro (rfl | ⟨g1, g2⟩)
   ·exact ⟨hlt, .inl (by simp)⟩
   ·refine ⟨g1, ?_⟩
    rcases g2 with g2 | g2
    ·exact .inl (by rw [g2]; simp)
    ·exact .inr g2
  ·rintro ⟨g1, g2⟩
   by_cases hij : i = j
   ·exact .inl hij.symm
   ·rw [if_neg hij] at g2; exact .inr ⟨g1, g2⟩
 ·intro j hj k hw
  show (lD.setIfInBounds i true).getD k false = true
  rw [hset]
  by_cases hik : i = k
  ·rw [if_pos hik]
  ·rw [if_neg hik]
   have hj' : (if i = j then true else lD.getD j false) = true := by rw [← hset]; exact hj
   by_cases hij : i = j
   ·subst hij; exact hpr k hw
   ·rw [if_neg hij] at hj'; exact hI.down j hj' k hw
 ·intro U1 p U2 hU k hw
  rw [hset]
  by_cases hik : i = k
  ·rw [if_pos hik]; exact .inl rfl
  ·rw [if_neg hik]; exact hI.chain U1 p U2 hU k hw
 ·have := M0 hI.size hlt h0
  omega
 ·intro p hp
  rw [hputs]
  have hL : p.1 ∈ L := by
   have hppre : p.1 ∈ pre := (hI.prem p.1).2 ⟨hI.lt p hp, .inr (List.mem_map.2 ⟨p, hp, rfl⟩)⟩
   have h2 := List.all_eq_true.1 hk p.1 hppre
   simp only [Bool.or_eq_true, List.contains_eq_mem, decide_eq_true_eq] at h2
   rcases h2 with h2 | h2
   ·exact h2
   ·have h3 := Gm hI.down i p.1 h2 hpr
    rw [hI.notD p hp] at h3
    cases h3
  exact hre p (hpd p hp) hL
theorem GL.head_ready {ops : Array Oper} {lD : Array Bool} {p : Nat × Value} {U : List (Nat × Value)} {pre : List Nat} (hI : GL ops lD (p :: U) pre) : p.1 ∈ Region.ready .any ops lD :=
 (CS hI.size).2 ⟨hI.lt p (List.mem_cons_self ..), hI.notD p (List.mem_cons_self ..), fun i hw => by
  rcases hI.chain [] p U rfl i hw with h1 | h1
  ·exact h1
  ·simp at h1⟩
theorem GL.q_ready {ops : Array Oper} {lD : Array Bool} {pre : List Nat} (hI : GL ops lD [] pre) {q : Nat} (hq : IP ops pre q = true) : q ∈ Region.ready .any ops lD := by
 obtain ⟨h1, h2, h3⟩ := Iq hq
 refine (CS hI.size).2 ⟨h2, ?_, fun i hw => ?_⟩
 ·cases hb : lD.getD q false with
  | false => rfl
  | true => exact absurd ((hI.prem q).2 ⟨h2, .inl hb⟩) h1
 ·have := ((hI.prem i).1 (h3 i hw)).2
  simpa using this
theorem K4 {ops : Array Oper} {lD : Array Bool} {U : List (Nat × Value)} {pre heads : List Nat} (hI : GL ops lD U pre) (h : Qf ops pre heads = true) {i : Nat} (hi : i ∈ Region.ready .any ops lD) (hip : i ∉ pre) : i ∈ heads := by
 obtain ⟨hlt, h0, hpr⟩ := (CS hI.size).1 hi
 have h1 := List.all_eq_true.1 h i (List.mem_range.2 hlt)
 simp only [Bool.or_eq_true, List.contains_eq_mem, decide_eq_true_eq] at h1
 rcases h1 with (h1 | h1) | h1
 ·exact absurd h1 hip
 ·exact h1
 ·obtain ⟨x, hx, hx2⟩ := List.any_eq_true.1 h1
  simp only [Bool.and_eq_true, Bool.not_eq_true', decide_eq_false_iff_not] at hx2
  have := hpr x hx2.2
  exact absurd ((hI.prem x).2 ⟨hI.ltD this, .inl this⟩) hx2.1
theorem zq88 {P : Prop} (h : P := by
 rcases ((hI.prem i).1 hip).2 with h | h
 · rw [h0] at h; cases h
 · exact h) : P := h
theorem zq90 {P : Prop} (h : P := by
 exfalso
 cases U with
 | nil => have := hI.q_ready hg1; rw [h] at this; cases this
 | cons p U => have := hI.head_ready; rw [h] at this; cases this) : P := h
theorem Fe (hS : GB ops S Y) (hA : FT ops = true) : ∀ (f : Nat) (t : OTree) (pd U : List (Nat × Value)) (lD : Array Bool) (aD : Act) (pre : List Nat) (w : World), GL ops lD U pre → DU ops t pre = true → f = Is ops lD →
    (∀ p ∈ U, p ∈ pd) → (∀ p ∈ U, Y p.1 p.2 (C3 ops U aD) w) → FA ops S Y QN t pd (C3 ops U aD) w → Jo ops S QN f lD aD w := by
  intro f
  induction f with
  | zero =>
    intro t
    induction t with
    | done =>
      intro pd U lD aD pre w hI hg hf hpd hY hC
      have hall : ∀ i, i < ops.size → lD.getD i false = true := fun i hi => by
        have := List.countP_eq_zero.1 hf.symm i (List.mem_range.2 hi)
        simpa using this
      have hU : U = [] := by
        cases U with
        | nil => rfl
        | cons p U =>
          have h1 := hI.notD p (List.mem_cons_self ..)
          rw [hall _ (hI.lt p (List.mem_cons_self ..))] at h1
          cases h1
      subst hU
      refine ⟨?_, hC⟩
      rw [List.eq_nil_iff_forall_not_mem]
      intro i hi
      obtain ⟨hlt, h0, _⟩ := (CS hI.size).1 hi
      rw [hall i hlt] at h0
      cases h0
    | _ =>
      all_goals
        intro pd U lD aD pre w hI hg hf hpd hY hC
        exfalso
        simp only [DU, Bool.and_eq_true] at hg
        have hq : ∃ q, IP ops pre q = true := by
          first
            | exact ⟨_, hg.1.1⟩
            | exact ⟨_, hg.1.1.1⟩
            | exact ⟨_, hg.1.1.1.1.1.1⟩
        obtain ⟨q, hq⟩ := hq
        obtain ⟨h1, h2, h3⟩ := Iq hq
        have := List.countP_eq_zero.1 hf.symm q (List.mem_range.2 h2)
        exact h1 ((hI.prem q).2 ⟨h2, .inl (by simpa using this)⟩)
  | succ f ih =>
    intro t
    induction t with
    | done =>
      intro pd U lD aD pre w hI hg hf hpd hY hC
      refine ⟨fun h => ?_, fun i hi => ?_⟩
      · cases U with
        | nil => exact hC
        | cons p U => have := hI.head_ready; rw [h] at this; cases this
      · obtain ⟨hlt, h0, _⟩ := (CS hI.size).1 hi
        have hip : i ∈ pre := by
          have := List.all_eq_true.1 hg i (List.mem_range.2 hlt)
          simpa using this
        have hiU : i ∈ U.map (·.1) := by
          exact zq88
        exact Ny hS hA hI hf hpd hY hC hi (fun lD' aD' U' hI' hf' hpd' hY' hC' => ih .done pd U' lD' aD' pre w hI' hg hf' hpd' hY' hC') hiU
    | read q t iht =>
      intro pd U lD aD pre w hI hg hf hpd hY hC
      simp only [DU, Bool.and_eq_true] at hg
      obtain ⟨⟨hg0, hge⟩, hg2⟩ := hg
      obtain ⟨hq1, hq2, hq3⟩ := Iq hg0
      obtain ⟨v, hv, hC'⟩ := hC
      have hself : ∀ t, Cv ops q = some t → t ∉ looks ops q := fun t ht hm => (Fd hge hq2 ht hm).1 rfl
      have hqn : lD.getD q false = false ∧ q ∉ U.map (·.1) := by
        constructor
        · cases hb : lD.getD q false with
          | false => rfl
          | true => exact absurd ((hI.prem q).2 ⟨hq2, .inl hb⟩) hq1
        · exact fun h => hq1 ((hI.prem q).2 ⟨hq2, .inr h⟩)
      have hold : ∀ p ∈ U, ∀ t, Cv ops q = some t → t ∉ looks ops p.1 := fun p hp t ht hm => by
        have h1 := Fd hge (hI.lt p hp) ht hm
        have hppre : p.1 ∈ pre := (hI.prem p.1).2 ⟨hI.lt p hp, .inr (List.mem_map.2 ⟨p, hp, rfl⟩)⟩
        exact hq1 (Gm hI.preDown p.1 q h1.2 (fun k hk => hI.preDown p.1 hppre k hk))
      refine iht ((q, v) :: pd) (U ++ [(q, v)]) lD aD (q :: pre) w ⟨hI.size, ?_, ?_, ?_, ?_, hI.down, ?_, ?_⟩ hg2 hf ?_ ?_ ?_
      · intro p hp
        rcases List.mem_append.1 hp with h1 | h1
        · exact hI.lt p h1
        · simp at h1; subst h1; exact hq2
      · rw [List.map_append, List.nodup_append]
        refine ⟨hI.nodup, by simp, ?_⟩
        intro a ha b hb e
        simp at hb
        subst hb
        subst e
        exact hqn.2 ha
      · intro p hp
        rcases List.mem_append.1 hp with h1 | h1
        · exact hI.notD p h1
        · simp at h1; subst h1; exact hqn.1
      · intro i
        rw [List.mem_cons, hI.prem i]
        simp only [List.map_append, List.map_cons, List.map_nil, List.mem_append, List.mem_cons, List.not_mem_nil, or_false]
        constructor
        · rintro (rfl | ⟨h1, h2⟩)
          · exact ⟨hq2, .inr (.inr rfl)⟩
          · rcases h2 with h2 | h2
            · exact ⟨h1, .inl h2⟩
            · exact ⟨h1, .inr (.inl h2)⟩
        · rintro ⟨h1, h2 | h2 | h2⟩
          · exact .inr ⟨h1, .inl h2⟩
          · exact .inr ⟨h1, .inr h2⟩
          · exact .inl h2
      · intro U1 p U2 hU i hw
        have last : ∀ p' : Nat × Value, p' = (q, v) → LK ops p'.1 i = true → lD.getD i false = true ∨ i ∈ U.map (·.1) := fun p' hp' hw' => by
          subst hp'
          exact ((hI.prem i).1 (hq3 i hw')).2
        rcases List.append_eq_append_iff.1 hU with ⟨as, h1, h2⟩ | ⟨bs, h1, h2⟩
        · cases as with
          | nil =>
            simp at h2
            have := last p h2.1.symm hw
            simpa [h1] using this
          | cons x as => simp at h2
        · cases bs with
          | nil =>
            simp at h2
            have := last p h2.1 hw
            simpa [h1] using this
          | cons b bs =>
            simp only [List.cons_append, List.cons.injEq] at h2
            obtain ⟨rfl, h2⟩ := h2
            exact hI.chain U1 p bs h1 i hw
      · intro p hp
        rcases List.mem_append.1 hp with h1 | h1
        · exact hI.early p h1
        · simp at h1; subst h1; exact hge
      · intro p hp
        rcases List.mem_append.1 hp with h1 | h1
        · exact List.mem_cons_of_mem _ (hpd p h1)
        · simp at h1; subst h1; exact List.mem_cons_self ..
      · intro p hp
        rw [EA]
        show Y p.1 p.2 ((C3 ops U aD).put (Cv ops q) v) w
        rcases List.mem_append.1 hp with h1 | h1
        · exact (hS.y_put _ _ _ _ _ _ (hold p h1)).2 (hY p h1)
        · simp at h1; subst h1; exact (hS.y_put _ _ _ _ _ _ hself).2 hv
      · rw [EA]; exact hC'
    | one q L t _ =>
      intro pd U lD aD pre w hI hg hf hpd hY hC
      have hC0 := hC
      simp only [DU, Bool.and_eq_true] at hg
      obtain ⟨⟨⟨hg1, hg2⟩, hg3⟩, hg4⟩ := hg
      refine ⟨fun h => ?_, fun i hi => ?_⟩
      · exact zq90
      · obtain ⟨hlt, h0, _⟩ := (CS hI.size).1 hi
        by_cases hip : i ∈ pre
        · have hiU : i ∈ U.map (·.1) := by
            exact zq88
          exact Ny hS hA hI hf hpd hY hC0 hi (fun lD' aD' U' hI' hf' hpd' hY' hC' => ih (.one q L t) pd U' lD' aD' pre w hI' (by simp only [DU, hg1, hg2, hg3, hg4, Bool.and_self]) hf' hpd' hY' hC') hiU
        · have : i = q := by simpa using K4 hI hg3 hi hip
          subst this
          exact Og hS hA hI hf hpd hC hi hip hg2 (fun lD' aD' w' hI' hf' hpd' hY' hC' => ih t pd U lD' aD' (i :: pre) w' hI' hg4 hf' hpd' hY' hC')
    | two q L t q' L' t' _ _ =>
      intro pd U lD aD pre w hI hg hf hpd hY hC
      have hC0 := hC
      simp only [DU, Bool.and_eq_true] at hg
      obtain ⟨⟨⟨⟨⟨⟨hg1, hg2⟩, hg1'⟩, hg2'⟩, hg3⟩, hg4⟩, hg4'⟩ := hg
      refine ⟨fun h => ?_, fun i hi => ?_⟩
      · exact zq90
      · obtain ⟨hlt, h0, _⟩ := (CS hI.size).1 hi
        by_cases hip : i ∈ pre
        · have hiU : i ∈ U.map (·.1) := by
            exact zq88
          exact Ny hS hA hI hf hpd hY hC0 hi (fun lD' aD' U' hI' hf' hpd' hY' hC' => ih (.two q L t q' L' t') pd U' lD' aD' pre w hI' (by simp only [DU, hg1, hg2, hg1', hg2', hg3, hg4, hg4', Bool.and_self]) hf' hpd' hY' hC') hiU
        · have : i = q ∨ i = q' := by simpa using K4 hI hg3 hi hip
          rcases this with rfl | rfl
          · exact Og hS hA hI hf hpd hC.1 hi hip hg2 (fun lD' aD' w' hI' hf' hpd' hY' hC' => ih t pd U lD' aD' (i :: pre) w' hI' hg4 hf' hpd' hY' hC')
          · exact Og hS hA hI hf hpd hC.2 hi hip hg2' (fun lD' aD' w' hI' hf' hpd' hY' hC' => ih t' pd U lD' aD' (i :: pre) w' hI' hg4' hf' hpd' hY' hC')
end core
def Ma (w : World) (K : Value → Prop) : Result Next → Prop
 | .ok (.value v) w' => w' = w ∧ K v
 | _ => False
@[go_sem] theorem P5 (w w' : World) (K : Value → Prop) (v : Value) : Ma w K (.ok (.value v) w') = (w' = w ∧ K v) := rfl
def B4 (P : Program) (ops : Array Oper) (o : Oper) (a : Act) (w : World) (K : Value → Prop) : Prop :=
 if Region.wanted o (yielded ops a.tmps) = true then Ma w K ((execOp a.eval o).run P w) else K undef
attribute [go_sem] B4
def YR (P : Program) (ops : Array Oper) (i : Nat) (v : Value) (a : Act) (w : World) : Prop := ∃ o, ops[i]? = some o ∧ B4 P ops o a w (fun u => u = v)
def QF (Q : Exit → Act → World → Prop) : Exit → Act → World → Prop
 | .normal, a, w => Q .normal a w
 | _, _, _ => False
theorem F4 {ops : Array Oper} {i : Nat} {o : Oper} (h : ops[i]? = some o) : looks ops i = o.looksAt ops := by simp [looks, h]
theorem Fg {ops : Array Oper} {i : Nat} {o : Oper} (h : ops[i]? = some o) : Cv ops i = o.dst := by simp [Cv, h]
theorem Gj {ops : Array Oper} {i : Nat} {o : Oper} (ho : ops[i]? = some o) (hs : ∀ cs b, o.op ≠ .select cs b) : ∀ (U : List (Nat × Value)) (a : Act), (∀ p ∈ U, ∀ t, Cv ops p.1 = some t → t ∉ looks ops i) →
  execOp (C3 ops U a).eval o = execOp a.eval o ∧ Region.wanted o (yielded ops (C3 ops U a).tmps) = Region.wanted o (yielded ops a.tmps)
 | [], a, _ => ⟨rfl, rfl⟩
 | p :: U, a, h => by
  have h1 := Gj ho hs U (a.put (Cv ops p.1) p.2) (fun q hq => h q (List.mem_cons_of_mem _ hq))
  have h2 := h p (List.mem_cons_self ..)
  rw [F4 ho] at h2
  rw [Ec, h1.1, h1.2]
  exact ⟨execOp_put o hs a _ _ h2, wanted_put o a _ _ h2⟩
theorem zq46 {P : Prop} (h : P := by
 obtain ⟨o, ho, h1⟩ := hy
 rw [Fg ho] at hK
 unfold wpOp
 simp only [ho]
 unfold B4 at h1
 split
 ·rename_i hw
  rw [if_pos hw] at h1
  refine .inl ?_
  unfold Oper.wp
  cases hr : (execOp a.eval o).run P w with
  | halt x w' => rw [hr] at h1; exact h1.elim
  | ok n w' =>
   rw [hr] at h1
   cases n with
   | value u => obtain ⟨rfl, rfl⟩ := h1; exact hK
   | _ => exact (show False from h1).elim
 ·rename_i hw
  rw [if_neg hw] at h1
  subst h1
  exact hK) : P := h
theorem zq49 {P : Prop} (h : P := by
 unfold YR
 constructor
 ·rintro ⟨o, ho, h1⟩
  refine ⟨o, ho, ?_⟩
  rw [F4 ho] at h
  unfold B4 at h1 ⊢
  rw [execOp_put o (fun cs b => Region.noSelect_spec hs i o cs b ho) a d x h, wanted_put o a d x h] at h1
  exact h1
 ·rintro ⟨o, ho, h1⟩
  refine ⟨o, ho, ?_⟩
  rw [F4 ho] at h
  unfold B4 at h1 ⊢
  rw [execOp_put o (fun cs b => Region.noSelect_spec hs i o cs b ho) a d x h, wanted_put o a d x h]
  exact h1) : P := h
theorem zq55 {P : Prop} (h : P := by
 have h1 := hdef _ _ hS
 rw [Ew] at h1
 have h2 : (d :: (C3 ops U a).defers).length = a.defers.length := congrArg List.length h1
 rw [hd0] at h2
 simp at h2) : P := h
theorem zq61 {P : Prop} (h : P := by
 cases e with
 | returned v => exact hKK v w'' h
 | panicked c => exact (show False from h).elim
 | outgrown => exact absurd h hout) : P := h
theorem K6 {P : Program} {ops : Array Oper} {Q : Exit → Act → World → Prop} (hs : Region.noSelect ops = true) : GB ops (wpOp P ops (QF Q)) (YR P ops) := {
 y_put i v a w d x h := by
  exact zq49
 read i v a w K hi hy hK := by
  exact zq46
 eff i K K' U a w hi hap hS hKK hdef := by
  have ho : ops[i]? = some ops[i] := Array.getElem?_eq_getElem hi
  obtain ⟨o, ho⟩ : ∃ o, ops[i]? = some o := ⟨_, ho⟩
  obtain ⟨he, hw⟩ := Gj ho (fun cs b => Region.noSelect_spec hs i o cs b ho) U a hap
  rw [Fg ho] at hKK
  unfold wpOp at hS ⊢
  simp only [ho] at hS ⊢
  rw [hw] at hS
  split
  ·rename_i hww
   rw [if_pos hww] at hS
   have hout : ¬ LetsOut (QF Q) := fun ⟨a, w, h⟩ => h
   rcases hS with hS | ⟨_, hS⟩
   case inr => exact absurd hS hout
   refine .inl ?_
   unfold Oper.wp at hS ⊢
   rw [he] at hS
   have hd0 := DK ops U a
   cases hr : (execOp a.eval o).run P w with
   | halt x w' =>
    rw [hr] at hS
    cases x <;> exact (show False from hS).elim
   | ok n w' =>
    rw [hr] at hS
    cases n with
    | value u => exact hKK u w' hS
    | skip => exact hKK undef w' hS
    | defer d =>
     exact zq55
    | enter f args =>
     refine Calls.mono hS (fun e w'' h => ?_)
     exact zq61
    | row row args => exact Rows.mono hS (fun v w'' h => hKK v w'' h)
    | _ => exact (show False from hS).elim
  ·rename_i hww
   rw [if_neg hww] at hS
   exact hKK undef w hS }
theorem GO {P : Program} {ops : Array Oper} {Q : Exit → Act → World → Prop} : ∀ (f : Nat) (l : Array Bool) (a : Act) (w : World), Jo ops (wpOp P ops Q) (Q .normal) f l a w → wpAny P .any ops Q f l a w
 | 0, l, a, w, h => h
 | f + 1, l, a, w, h => ⟨h.1, fun i hi => wpOp_mono (fun a w h => GO f _ a w h) (h.2 i hi)⟩
theorem GQ (ops : Array Oper) : GL ops (Array.replicate ops.size false) [] [] := {
 size := by simp
 lt := by simp
 nodup := by simp
 notD := by simp
 prem := fun i => by
  rw [getD_replicate_false]
  simp
 down := fun j hj => by
  have hj' : (Array.replicate ops.size false).getD j false = true := hj
  rw [getD_replicate_false] at hj'
  cases hj'
 chain := fun U1 p U2 h => by simp at h
 early := by simp }
def CY (P : Program) (ops : Array Oper) (Q : Exit → Act → World → Prop) (t : OTree) (pd : List (Nat × Value)) (a : Act) (w : World) : Prop := FA ops (wpOp P ops (QF Q)) (YR P ops) (Q .normal) t pd a w
theorem AD {P : Program} {id : Nat} {l : List Oper} {Q : Exit → Act → World → Prop} {a : Act} {w : World} (t : OTree) (hm : P.follows .mixedOrders = true) (hB : (Region.noSelect l.toArray && Iw l.toArray t) = true)
  (h : CY P l.toArray Q t [] a w.drew) : (Code.region id l.toArray true).wp P Q a w := by
 rw [Bool.and_eq_true] at hB
 obtain ⟨hs, hB⟩ := hB
 unfold Iw at hB
 rw [Bool.and_eq_true] at hB
 have h1 : Jo l.toArray (wpOp P l.toArray (QF Q)) (QF Q .normal) l.toArray.size (Array.replicate l.toArray.size false) a w.drew :=
  Fe (QN := Q .normal) (K6 hs) hB.2 _ t [] [] _ a [] _ (GQ _) hB.1 (by
   unfold Is
   rw [List.countP_eq_length.2 (fun i _ => by rw [getD_replicate_false]; rfl)]
   simp) (by simp) (by simp) h
 refine Code.wp_mono (fun e a w h => ?_) (wp_region_any hm (GO _ _ _ _ h1))
 cases e <;> first | exact h | exact (show False from h).elim
section
variable {P : Program} {ops : Array Oper} {Q : Exit → Act → World → Prop} {a : Act} {w : World} {pd : List (Nat × Value)} {t : OTree} {i : Nat} {o : Oper}
theorem AB (h : Q .normal a w) : CY P ops Q .done pd a w := h
theorem zq37 {P : Prop} (h : P := by
 unfold B4 at h2 ⊢
 split
 ·rename_i hw
  rw [if_pos hw] at h2
  cases hr : (execOp a.eval o).run P w with
  | halt x w' => rw [hr] at h2; exact (show False from h2).elim
  | ok n w' =>
   rw [hr] at h2
   cases n with
   | value u => obtain ⟨rfl, h3⟩ := h2; exact ⟨u, ⟨rfl, rfl⟩, h3⟩
   | _ => exact (show False from h2).elim
 ·rename_i hw
  rw [if_neg hw] at h2
  exact ⟨undef, rfl, h2⟩) : P := h
theorem zq81 {P : Prop} (h : P := by
 obtain ⟨v, hv, hc⟩ := key
 refine ⟨v, ⟨o, ho, hv⟩, ?_⟩
 rw [Fg ho]
 exact hc) : P := h
theorem An (ho : ops[i]? = some o) (h : ∀ K : Value → Prop, (∀ v, CY P ops Q t ((i, v) :: pd) (a.put o.dst v) w → K v) → B4 P ops o a w K) : CY P ops Q (.read i t) pd a w := by
 have h1 := h (fun v => CY P ops Q t ((i, v) :: pd) (a.put o.dst v) w ∧ B4 P ops o a w (fun u => u = v))
 have key : ∃ v, B4 P ops o a w (fun u => u = v) ∧ CY P ops Q t ((i, v) :: pd) (a.put o.dst v) w := by
  have h2 := h (fun v => CY P ops Q t ((i, v) :: pd) (a.put o.dst v) w) (fun _ h => h)
  exact zq37
 exact zq81
def C0 (P : Program) (ops : Array Oper) (L : List Nat) : List (Nat × Value) → Act → World → Prop
 | [], _, _ => True
 | (i, v) :: pd, a, w => (L.contains i = true → YR P ops i v a w) ∧ C0 P ops L pd a w
theorem BJ {L : List Nat} : C0 P ops L [] a w := trivial
theorem Br {L : List Nat} {v : Value} (hn : L.contains i = false) (h : C0 P ops L pd a w) : C0 P ops L ((i, v) :: pd) a w := ⟨(fun h => by rw [hn] at h; cases h), h⟩
theorem DG {L : List Nat} {v : Value} (ho : ops[i]? = some o) (h1 : B4 P ops o a w (fun u => u = v)) (h : C0 P ops L pd a w) : C0 P ops L ((i, v) :: pd) a w := ⟨fun _ => ⟨o, ho, h1⟩, h⟩
theorem Fo {L : List Nat} : ∀ {pd : List (Nat × Value)}, C0 P ops L pd a w → ∀ p ∈ pd, p.1 ∈ L → YR P ops p.1 p.2 a w
 | [], _, p, hp, _ => by cases hp
 | (i, v) :: pd, h, p, hp, hL => by
  rcases List.mem_cons.1 hp with rfl | hp
  ·exact h.1 (by simpa using hL)
  ·exact Fo h.2 p hp hL
def EQ (P : Program) (ops : Array Oper) (Q : Exit → Act → World → Prop) (L : List Nat) (t : OTree) (pd : List (Nat × Value)) (ds : List Deferred) : Exit → Act → World → Prop
 | .normal, a, w => a.defers = ds ∧ C0 P ops L pd a w ∧ CY P ops Q t pd a w
 | _, _, _ => False
theorem EQ.mk {L : List Nat} {ds : List Deferred} (h1 : a.defers = ds) (h2 : C0 P ops L pd a w) (h3 : CY P ops Q t pd a w) : EQ P ops Q L t pd ds .normal a w := ⟨h1, h2, h3⟩
theorem EQ.A {L : List Nat} {ds : List Deferred} (h3 : CY P ops Q t pd a w) (h1 : a.defers = ds := by exact rfl) (h2 : C0 P ops L pd a w := by repeat (first | exact BJ | (refine Br rfl ?_) | (refine DG rfl (by go_simp; (try go_bits); (try (rw [if_pos (by omega)]; go_simp)); (try trivial)) ?_))) : EQ P ops Q L t pd ds .normal a w := ⟨h1, h2, h3⟩
theorem zq62 {P : Prop} (h : P := by
 cases e with
 | returned v => exact conv _ _ h
 | panicked c => exact (show False from h).elim
 | outgrown => exact absurd h hout) : P := h
theorem Nw {L : List Nat} (ho : ops[i]? = some o) (h : wpList P ops (EQ P ops Q L t pd a.defers) [o] a w) :
  wpOp P ops (QF Q) i (fun a' w' => a'.defers = a.defers ∧ (∀ p ∈ pd, p.1 ∈ L → YR P ops p.1 p.2 a' w') ∧ CY P ops Q t pd a' w') a w := by
 have hout : ¬ LetsOut (EQ P ops Q L t pd a.defers) := fun ⟨a, w, h⟩ => h
 unfold wpOp
 simp only [ho]
 unfold wpList at h
 have conv : ∀ a' w', EQ P ops Q L t pd a.defers .normal a' w' → a'.defers = a.defers ∧ (∀ p ∈ pd, p.1 ∈ L → YR P ops p.1 p.2 a' w') ∧ CY P ops Q t pd a' w' := fun a' w' h => ⟨h.1, Fo h.2.1, h.2.2⟩
 split
 ·rename_i hw
  rw [if_pos hw] at h
  rcases h with h | ⟨_, h⟩
  case inr => exact absurd h hout
  refine .inl ?_
  unfold Oper.wp at h ⊢
  cases hr : (execOp a.eval o).run P w with
  | halt x w' =>
   rw [hr] at h
   cases x <;> exact (show False from h).elim
  | ok n w' =>
   rw [hr] at h
   cases n with
   | value u => exact conv _ _ h
   | skip => exact conv _ _ h
   | defer d => exact conv _ _ h
   | enter f args =>
    refine Calls.mono h (fun e w'' h => ?_)
    exact zq62
   | row row args => exact Rows.mono h (fun v w'' h => conv _ _ h)
   | _ => exact (show False from h).elim
 ·rename_i hw
  rw [if_neg hw] at h
  exact conv _ _ h
theorem Pq {L : List Nat} (ho : ops[i]? = some o) (h : wpList P ops (EQ P ops Q L t pd a.defers) [o] a w) : CY P ops Q (.one i L t) pd a w := Nw ho h
theorem Pc {L L' : List Nat} {i' : Nat} {t' : OTree} {o' : Oper} (ho : ops[i]? = some o) (ho' : ops[i']? = some o') (h : wpList P ops (EQ P ops Q L t pd a.defers) [o] a w) (h' : wpList P ops (EQ P ops Q L' t' pd a.defers) [o'] a w) :
  CY P ops Q (.two i L t i' L' t') pd a w := ⟨Nw ho h, Nw ho' h'⟩
theorem Ak {l r : List Oper} {L : List Nat} (ho : l.drop i = o :: r) (h : wpList P l.toArray (EQ P l.toArray Q L t pd a.defers) [o] a w) : CY P l.toArray Q (.one i L t) pd a w :=
 Pq (by rw [List.getElem?_toArray, ← List.head?_drop, ho]; rfl) h
theorem By {l r r' : List Oper} {L L' : List Nat} {i' : Nat} {t' : OTree} {o' : Oper} (ho : l.drop i = o :: r) (ho' : l.drop i' = o' :: r') (h : wpList P l.toArray (EQ P l.toArray Q L t pd a.defers) [o] a w) (h' : wpList P l.toArray (EQ P l.toArray Q L' t' pd a.defers) [o'] a w) :
  CY P l.toArray Q (.two i L t i' L' t') pd a w := Pc (by rw [List.getElem?_toArray, ← List.head?_drop, ho]; rfl) (by rw [List.getElem?_toArray, ← List.head?_drop, ho']; rfl) h h'
end
end Go.Proofs.YtbfbgfpghkijdaaGreatDoor
