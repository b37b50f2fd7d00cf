/- lemmalaw texts, part 50. -/
import Derived.Test.YtdhkmfpfbjcdiaaGreatDoorYbw
set_option maxRecDepth 100000
set_option linter.unusedVariables false
set_option linter.unusedSimpArgs false
set_option maxHeartbeats 32000000
namespace Go.Proofs.YtdhkmfpfbjcdiaaGreatDoor
structure FindOk (L : Ld) : Prop where
 find : ∀ l n, aget l L.finds = some n ↔ ∃ h : n < L.asserts.length, L.asserts[n].label = l
theorem FindOk.new : FindOk Ld.new := ⟨fun l n => by
 constructor
 ·intro h; cases h
 ·rintro ⟨h, -⟩; exact absurd h (Nat.not_lt_zero _)⟩
theorem FindOk.takeAll : ∀ (ss : List St) (L M : Ld), FindOk L → (∀ s ∈ ss, s.kind = 6 ∨ s.kind = 7 → s.label.text.size ≠ 0) → L.takeAll ss = .ok M → FindOk M
 | [], L, M, h, _, hx => by rw [Ld.takeAll] at hx; cases hx; exact h
 | s :: ss, L, M, h, hs, hx => by
  rw [Ld.takeAll] at hx
  obtain ⟨M1, h1, h2⟩ := bind_ok hx
  refine FindOk.takeAll ss M1 M ?_ (fun s hs' => hs s (List.mem_cons_of_mem _ hs')) h2
  rcases take_asr h1 with ⟨e1, e2⟩ | ⟨a, ha⟩
  ·exact ⟨fun l n => by simp only [e1, e2]; exact h.find l n⟩
  ·have hf := ha.fresh (hs s List.mem_cons_self ha.kind)
   unfold Ld.taken at hf
   rw [Bool.or_eq_false_iff] at hf
   have hnone : aget s.label.text L.finds = none := by
    cases hc : aget s.label.text L.finds with
    | none => rfl
    | some m => rw [hc] at hf; exact absurd hf.1 (by simp)
   have hlen : M1.asserts.length = L.asserts.length + 1 := by rw [ha.asr]; simp
   refine ⟨fun l n => ?_⟩
   rw [ha.finds, aget_aput]
   constructor
   ·intro hq
    split at hq
    ·rename_i hl
     cases hq
     refine ⟨by omega, ?_⟩
     have : M1.asserts[L.asserts.length]? = some a := by rw [ha.asr]; simp
     rw [List.getElem?_eq_getElem (by omega)] at this
     rw [Option.some.inj this, ha.label, hl]
    ·obtain ⟨hn, hl⟩ := (h.find l n).1 hq
     refine ⟨by omega, ?_⟩
     have : M1.asserts[n]? = some L.asserts[n] := by rw [ha.asr, List.getElem?_append_left hn, List.getElem?_eq_getElem hn]
     rw [List.getElem?_eq_getElem (by omega)] at this
     rw [Option.some.inj this, hl]
   ·rintro ⟨hn, hl⟩
    by_cases hnl : n < L.asserts.length
    ·have : M1.asserts[n]? = some L.asserts[n] := by rw [ha.asr, List.getElem?_append_left hnl, List.getElem?_eq_getElem hnl]
     rw [List.getElem?_eq_getElem hn] at this
     rw [Option.some.inj this] at hl
     have hq := (h.find l n).2 ⟨hnl, hl⟩
     rw [if_neg (fun e => by rw [e, hnone] at hq; cases hq)]
     exact hq
    ·have hne : n = L.asserts.length := by omega
     subst hne
     have : M1.asserts[L.asserts.length]? = some a := by rw [ha.asr]; simp
     rw [List.getElem?_eq_getElem hn] at this
     rw [Option.some.inj this, ha.label] at hl
     rw [if_pos hl.symm]
theorem load_find {t : ByteArray} {B : Bs} (h : loadOf t = .ok B) : FindOk B.ld := by
 obtain ⟨T, R, h1, h2, h3, h4, h5⟩ := load_parts h
 have hne := scan_ne h1
 exact FindOk.takeAll R.out _ _ FindOk.new (fun s hs hk => hne _ ((read_toks h2 Rd.init_idle (ss := R.out) (by simp [Rd.init]) hs).2 (kind_lab hk))) h4
theorem FindOk.inj {L : Ld} (h : FindOk L) {i j : Nat} (hi : i < L.asserts.length) (hj : j < L.asserts.length) (e : L.asserts[i].label = L.asserts[j].label) : i = j := by
 have h1 := (h.find _ i).2 ⟨hi, rfl⟩
 have h2 := (h.find _ j).2 ⟨hj, rfl⟩
 rw [e, h2] at h1
 exact (Option.some.inj h1).symm
theorem close_text {d : Nat} : ∀ (l l' : List Tk), All2 (TkR d) l l' → closeAt l' = closeAt l
 | [], [], _ => rfl
 | t :: l, t' :: l', h => by rw [closeAt, closeAt, h.1.1, close_text l l' h.2]
 | [], _ :: _, h => h.elim
 | _ :: _, [], h => h.elim
theorem All2.take' {α β : Type} {P : α → β → Prop} : ∀ {l : List α} {m : List β} (k : Nat), All2 P l m → All2 P (l.take k) (m.take k)
 | [], [], k, _ => by simp [All2]
 | a :: l, b :: m, 0, _ => by simp [All2]
 | a :: l, b :: m, k + 1, h => ⟨h.1, All2.take' k h.2⟩
 | [], _ :: _, _, h => h.elim
 | _ :: _, [], _, h => h.elim
theorem names_text {d : Nat} : ∀ (l l' : List Tk), All2 (TkR d) l l' → ∀ out, l'.foldl nameStep out = l.foldl nameStep out
 | [], [], _, _ => rfl
 | t :: l, t' :: l', h, out => by
  rw [List.foldl_cons, List.foldl_cons, names_text l l' h.2]
  unfold nameStep
  rw [h.1.1]
 | [], _ :: _, h, _ => h.elim
 | _ :: _, [], h, _ => h.elim
theorem labels_rel {d : Nat} {ws ws' : List Tk} {e e' : Tk} (h : All2 (TkR d) ws ws') : All2 (TkR d) (parseOf ws e).labels (parseOf ws' e').labels := by
 cases ws with
 | nil => cases ws' with
  | nil => trivial
  | cons _ _ => exact h.elim
 | cons x r => cases ws' with
  | nil => exact h.elim
  | cons x' r' =>
   unfold parseOf
   dsimp only
   rw [h.1.1, close_text r r' h.2]
   split
   ·exact h
   ·split
    ·exact h.2
    ·exact h.2.take' _
theorem named_rel {d : Nat} {a a' : Asr} (h : AsrR d a a') : namedOf a' = namedOf a := by
 unfold namedOf
 rw [h.thm]
 split
 ·unfold namesOf
  exact names_text _ _ (labels_rel h.proof) []
 ·rfl
def sayOf (a : Asr) : ByteArray × List ByteArray := (a.label, namedOf a)
def Bs.says (B : Bs) : List (ByteArray × List ByteArray) := B.ld.asserts.map sayOf
theorem says_rel {d : Nat} : ∀ (l l' : List Asr), All2 (AsrM d) l l' → l'.map sayOf = l.map sayOf
 | [], [], _ => rfl
 | a :: l, a' :: l', h => by
  rw [List.map_cons, List.map_cons, says_rel l l' h.2]
  congr 1
  unfold sayOf
  rw [h.1.rel.label, named_rel h.1.rel]
 | [], _ :: _, h => h.elim
 | _ :: _, [], h => h.elim
structure Cut1 (t : ByteArray) (B : Bs) (l : ByteArray) (t' : ByteArray) (B' : Bs) : Prop where
 load : loadOf t = .ok B
 load' : loadOf t' = .ok B'
 ex : ∃ (n : Nat) (hn : n < B.ld.asserts.length) (X' : List Asr), B.ld.asserts[n].label = l ∧ t' = cutAt t B.ld.asserts[n].lo B.ld.asserts[n].hi ∧ B'.ld.asserts = B.ld.asserts.take n ++ X' ∧ All2 (AsrM (B.ld.asserts[n].hi - B.ld.asserts[n].lo)) (B.ld.asserts.drop (n + 1)) X'
theorem cut1_ex {t : ByteArray} {B : Bs} (h : loadOf t = .ok B) {n : Nat} (hn : n < B.ld.asserts.length) : ∃ B', Cut1 t B B.ld.asserts[n].label (cutAt t B.ld.asserts[n].lo B.ld.asserts[n].hi) B' := by
 obtain ⟨-, -, -, -, B', X', h1, h2, h3⟩ := single_cut h n hn
 exact ⟨B', h, h1, n, hn, X', rfl, rfl, h2, h3⟩
theorem filter_erase : ∀ (L : List Asr) (n : Nat) (hn : n < L.length), (∀ i j (hi : i < L.length) (hj : j < L.length), L[i].label = L[j].label → i = j) → L.filter (fun a => !decide (a.label = L[n].label)) = L.take n ++ L.drop (n + 1)
 | [], n, hn, _ => absurd hn (Nat.not_lt_zero _)
 | a :: L, 0, hn, h => by
  rw [List.filter_cons]
  simp only [List.getElem_cons_zero, decide_true, Bool.not_true, Bool.false_eq_true, if_false, List.take_zero, List.nil_append, List.drop_succ_cons, List.drop_zero]
  refine List.filter_eq_self.2 fun b hb => ?_
  obtain ⟨j, hj, rfl⟩ := List.getElem_of_mem hb
  have := h (j + 1) 0 (by simpa using hj) (by simp)
  simp only [List.getElem_cons_succ, List.getElem_cons_zero] at this
  simp only [Bool.not_eq_true', decide_eq_false_iff_not]
  intro e
  have := this e
  omega
 | a :: L, n + 1, hn, h => by
  have hn' : n < L.length := by simpa using hn
  have ih := filter_erase L n hn' (fun i j hi hj e => by
   have := h (i + 1) (j + 1) (by simpa using hi) (by simpa using hj) (by simpa using e)
   omega)
  have hne : ¬ a.label = L[n].label := fun e => by
   have := h 0 (n + 1) (by simp) hn (by simpa using e)
   omega
  rw [List.filter_cons]
  simp only [List.getElem_cons_succ, hne, decide_false, Bool.not_false, if_true, List.take_succ_cons, List.cons_append, List.drop_succ_cons]
  rw [ih]
theorem Cut1.says {t t' : ByteArray} {B B' : Bs} {l : ByteArray} (h : Cut1 t B l t' B') : B'.says = B.says.filter (fun p => !decide (p.1 = l)) := by
 obtain ⟨n, hn, X', rfl, -, h2, h3⟩ := h.ex
 have hf := filter_erase B.ld.asserts n hn (fun i j hi hj e => (load_find h.load).inj hi hj e)
 unfold Bs.says
 rw [h2, List.map_append, says_rel _ _ h3, ← List.map_append, ← hf, List.filter_map]
 rfl
inductive Cuts : ByteArray → List ByteArray → ByteArray → Prop
 | nil (t : ByteArray) : Cuts t [] t
 | cons {t t1 t' : ByteArray} {B B1 : Bs} {l : ByteArray} {ls : List ByteArray} : Cut1 t B l t1 B1 → Cuts t1 ls t' → Cuts t (l :: ls) t'
theorem Cut1.det {t t1 t2 : ByteArray} {B B1 B' B2 : Bs} {l : ByteArray} (h : Cut1 t B l t1 B1) (k : Cut1 t B' l t2 B2) : t1 = t2 ∧ B1 = B2 := by
 have hB := h.load
 rw [k.load] at hB
 cases hB
 obtain ⟨n, hn, -, h1, h2, -, -⟩ := h.ex
 obtain ⟨m, hm, -, k1, k2, -, -⟩ := k.ex
 have := (load_find h.load).inj hn hm (h1.trans k1.symm)
 subst this
 have e : t1 = t2 := h2.trans k2.symm
 subst e
 have := h.load'
 rw [k.load'] at this
 cases this
 exact ⟨rfl, rfl⟩
theorem Cuts.det {t : ByteArray} {ls : List ByteArray} : ∀ {t1 t2 : ByteArray}, Cuts t ls t1 → Cuts t ls t2 → t1 = t2 := by
 induction ls generalizing t with
 | nil => intro t1 t2 h k; cases h; cases k; rfl
 | cons l ls ih =>
  intro t1 t2 h k
  cases h with
  | cons h1 h2 => cases k with
   | cons k1 k2 =>
    obtain ⟨rfl, -⟩ := h1.det k1
    exact ih h2 k2
theorem Cuts.app {t t1 t2 : ByteArray} {a b : List ByteArray} (h : Cuts t a t1) (k : Cuts t1 b t2) : Cuts t (a ++ b) t2 := by
 induction h with
 | nil t => exact k
 | cons h1 _ ih => exact .cons h1 (ih k)
theorem cut_cut (l : List UInt8) (a b c d : Nat) (h1 : a ≤ b) (h2 : b ≤ c) (h3 : c ≤ d) (h4 : d ≤ l.length) :
  (l.take a ++ l.drop b).take (c - (b - a)) ++ (l.take a ++ l.drop b).drop (d - (b - a)) = (l.take c ++ l.drop d).take a ++ (l.take c ++ l.drop d).drop b := by
 have e1 : l = l.take a ++ ((l.drop a).take (b - a) ++ ((l.drop b).take (c - b) ++ ((l.drop c).take (d - c) ++ l.drop d))) := by
  rw [show l.drop d = (l.drop c).drop (d - c) by rw [List.drop_drop]; congr 1; omega, List.take_append_drop,
   show l.drop c = (l.drop b).drop (c - b) by rw [List.drop_drop]; congr 1; omega, List.take_append_drop,
   show l.drop b = (l.drop a).drop (b - a) by rw [List.drop_drop]; congr 1; omega, List.take_append_drop, List.take_append_drop]
 generalize hA : l.take a = A at e1
 generalize hX : (l.drop a).take (b - a) = X at e1
 generalize hM : (l.drop b).take (c - b) = M at e1
 generalize hY : (l.drop c).take (d - c) = Y at e1
 generalize hZ : l.drop d = Z at e1
 have lA : A.length = a := by rw [← hA, List.length_take]; omega
 have lX : X.length = b - a := by rw [← hX, List.length_take, List.length_drop]; omega
 have lM : M.length = c - b := by rw [← hM, List.length_take, List.length_drop]; omega
 have lY : Y.length = d - c := by rw [← hY, List.length_take, List.length_drop]; omega
 have f1 : l.drop b = M ++ (Y ++ Z) := by
  rw [e1, ← List.append_assoc]
  exact List.drop_left' (by rw [List.length_append]; omega)
 have f2 : l.take c = A ++ (X ++ M) := by
  rw [e1, show A ++ (X ++ (M ++ (Y ++ Z))) = (A ++ (X ++ M)) ++ (Y ++ Z) by simp]
  exact List.take_left' (by simp only [List.length_append]; omega)
 rw [f1, f2]
 have g1 : (A ++ (M ++ (Y ++ Z))).take (c - (b - a)) = A ++ M := by
  rw [← List.append_assoc]
  exact List.take_left' (by rw [List.length_append]; omega)
 have g2 : (A ++ (M ++ (Y ++ Z))).drop (d - (b - a)) = Z := by
  rw [show A ++ (M ++ (Y ++ Z)) = (A ++ (M ++ Y)) ++ Z by simp]
  exact List.drop_left' (by simp only [List.length_append]; omega)
 have g3 : (A ++ (X ++ M) ++ Z).take a = A := by
  rw [List.append_assoc]
  exact List.take_left' lA
 have g4 : (A ++ (X ++ M) ++ Z).drop b = M ++ Z := by
  rw [show A ++ (X ++ M) ++ Z = (A ++ X) ++ (M ++ Z) by simp]
  exact List.drop_left' (by rw [List.length_append]; omega)
 rw [g1, g2, g3, g4]
 simp
theorem All2.at {α β : Type} {P : α → β → Prop} : ∀ {l : List α} {m : List β}, All2 P l m → ∀ (i : Nat) (hi : i < l.length) (hj : i < m.length), P l[i] m[i]
 | a :: l, b :: m, h, 0, _, _ => h.1
 | a :: l, b :: m, h, i + 1, hi, hj => All2.at h.2 i (by simpa using hi) (by simpa using hj)
 | [], _, h, i, hi, _ => absurd hi (Nat.not_lt_zero _)
 | _ :: _, [], h, _, _, hj => absurd hj (Nat.not_lt_zero _)
theorem cut_swap {t : ByteArray} {B : Bs} (h : loadOf t = .ok B) {i j : Nat} (hij : i < j) (hj : j < B.ld.asserts.length) :
  ∃ t1 B1 t2 B2 t3 B3 B4, Cut1 t B B.ld.asserts[i].label t1 B1 ∧ Cut1 t1 B1 B.ld.asserts[j].label t3 B3 ∧ Cut1 t B B.ld.asserts[j].label t2 B2 ∧ Cut1 t2 B2 B.ld.asserts[i].label t3 B4 := by
 have hi : i < B.ld.asserts.length := by omega
 obtain ⟨a1, a2, a3, a4, B1, X1, a5, a6, a7⟩ := single_cut h i hi
 obtain ⟨b1, b2, b3, b4, B2, X2, b5, b6, b7⟩ := single_cut h j hj
 have hlen1 := a7.len
 have hj1 : j - 1 < B1.ld.asserts.length := by rw [a6, List.length_append, hlen1, List.length_take, List.length_drop]; omega
 have e1 : AsrM (B.ld.asserts[i].hi - B.ld.asserts[i].lo) B.ld.asserts[j] B1.ld.asserts[j - 1] := by
  have hx : j - 1 - i < (B.ld.asserts.drop (i + 1)).length := by rw [List.length_drop]; omega
  have := a7.at (j - 1 - i) hx (by rw [hlen1]; exact hx)
  rw [List.getElem_drop] at this
  have e2 : B1.ld.asserts[j - 1] = X1[j - 1 - i]'(by rw [hlen1]; exact hx) := by
   have : B1.ld.asserts[j - 1]? = X1[j - 1 - i]? := by
    rw [a6, List.getElem?_append_right (by rw [List.length_take]; omega), List.length_take, Nat.min_eq_left (by omega)]
   rw [List.getElem?_eq_getElem hj1, List.getElem?_eq_getElem (by rw [hlen1]; exact hx)] at this
   exact Option.some.inj this
  rw [e2]
  simpa [show i + 1 + (j - 1 - i) = j by omega] using this
 have hi2 : i < B2.ld.asserts.length := by rw [b6, List.length_append, List.length_take]; omega
 have e3 : B2.ld.asserts[i] = B.ld.asserts[i] := by
  have : B2.ld.asserts[i]? = B.ld.asserts[i]? := by
   rw [b6, List.getElem?_append_left (by rw [List.length_take]; omega), List.getElem?_take, if_pos hij]
  rw [List.getElem?_eq_getElem hi2, List.getElem?_eq_getElem hi] at this
  exact Option.some.inj this
 obtain ⟨B3, c3⟩ := cut1_ex a5 hj1
 obtain ⟨B4, c4⟩ := cut1_ex b5 hi2
 rw [e1.rel.label] at c3
 rw [e3] at c4
 have hil := b3 B.ld.asserts[i] (by
  have := List.getElem_mem (l := B.ld.asserts.take j) (n := i) (by rw [List.length_take]; omega)
  rwa [List.getElem_take] at this)
 have ht : cutAt (cutAt t B.ld.asserts[i].lo B.ld.asserts[i].hi) B1.ld.asserts[j - 1].lo B1.ld.asserts[j - 1].hi = cutAt (cutAt t B.ld.asserts[j].lo B.ld.asserts[j].hi) B.ld.asserts[i].lo B.ld.asserts[i].hi := by
  have o1 := e1.lo
  have o2 := e1.hi
  refine ba_ext ?_
  unfold cutAt
  dsimp only
  rw [show B1.ld.asserts[j - 1].lo = B.ld.asserts[j].lo - (B.ld.asserts[i].hi - B.ld.asserts[i].lo) by omega, show B1.ld.asserts[j - 1].hi = B.ld.asserts[j].hi - (B.ld.asserts[i].hi - B.ld.asserts[i].lo) by omega]
  exact cut_cut t.data.toList _ _ _ _ a1 hil b1 (by rw [ba_size]; exact b2)
 rw [ht] at c3
 exact ⟨_, B1, _, B2, _, B3, B4, ⟨h, a5, i, hi, X1, rfl, rfl, a6, a7⟩, c3, ⟨h, b5, j, hj, X2, rfl, rfl, b6, b7⟩, c4⟩
theorem Cuts.swap {t t' : ByteArray} {l1 l2 : ByteArray} {ls : List ByteArray} (hne : l1 ≠ l2) (h : Cuts t (l1 :: l2 :: ls) t') : Cuts t (l2 :: l1 :: ls) t' := by
 cases h with
 | cons h1 h2 => cases h2 with
  | cons h3 h4 =>
   rename_i t1 B B1 t2 B1' B2
   have hB := h1.load'
   rw [h3.load] at hB
   cases hB
   obtain ⟨i, hi, X1, e1, e2, e3, e4⟩ := h1.ex
   have hs := h1.says
   have hj : ∃ (j : Nat) (hj : j < B.ld.asserts.length), B.ld.asserts[j].label = l2 := by
    obtain ⟨m, hm, -, f1, -⟩ := h3.ex
    have : sayOf B1.ld.asserts[m] ∈ B1.says := List.mem_map_of_mem (List.getElem_mem hm)
    rw [hs] at this
    obtain ⟨a, ha, hae⟩ := List.mem_map.1 (List.mem_filter.1 this).1
    obtain ⟨j, hj, rfl⟩ := List.getElem_of_mem ha
    refine ⟨j, hj, ?_⟩
    have := congrArg Prod.fst hae
    exact this.trans f1
   obtain ⟨j, hj, f1⟩ := hj
   rcases Nat.lt_trichotomy i j with hij | hij | hij
   ·obtain ⟨u1, C1, u2, C2, u3, C3, C4, c1, c2, c3, c4⟩ := cut_swap h1.load hij hj
    rw [e1] at c1 c4
    rw [f1] at c2 c3
    obtain ⟨rfl, rfl⟩ := h1.det c1
    obtain ⟨rfl, rfl⟩ := h3.det c2
    exact .cons c3 (.cons c4 h4)
   ·subst hij
    exact absurd (e1.symm.trans f1) hne
   ·obtain ⟨u1, C1, u2, C2, u3, C3, C4, c1, c2, c3, c4⟩ := cut_swap h1.load hij hi
    rw [f1] at c1 c4
    rw [e1] at c2 c3
    obtain ⟨rfl, rfl⟩ := h1.det c3
    obtain ⟨rfl, rfl⟩ := h3.det c4
    exact .cons c1 (.cons c2 h4)
theorem Cuts.perm {a b : List ByteArray} (p : a.Perm b) : a.Nodup → ∀ {t t' : ByteArray}, Cuts t a t' → Cuts t b t' := by
 induction p with
 | nil => intro _ t t' h; exact h
 | cons x _ ih =>
  intro hn t t' h
  cases h with
  | cons h1 h2 => exact .cons h1 (ih (List.nodup_cons.1 hn).2 h2)
 | swap x y l =>
  intro hn t t' h
  have : y ≠ x := fun e => by rw [e] at hn; simp at hn
  exact h.swap this
 | trans p1 p2 ih1 ih2 =>
  intro hn t t' h
  exact ih2 (p1.nodup_iff.1 hn) (ih1 hn h)
inductive Gn (S : List (ByteArray × List ByteArray)) (x : ByteArray) : ByteArray → Prop
 | base : Gn S x x
 | step {p : ByteArray × List ByteArray} {s : ByteArray} : p ∈ S → s ∈ p.2 → Gn S x s → Gn S x p.1
theorem fallFold_sound {L : List Asr} {x : ByteArray} : ∀ (l : List Asr) (p : List ByteArray × Bool), (∀ a ∈ l, a ∈ L) → (∀ s, inS s p.1 = true → Gn (L.map sayOf) x s) → ∀ s, inS s (l.foldl fallStep p).1 = true → Gn (L.map sayOf) x s
 | [], p, _, h => h
 | a :: l, p, hl, h => by
  refine fallFold_sound l _ (fun b hb => hl b (List.mem_cons_of_mem _ hb)) fun s hs => ?_
  unfold fallStep at hs
  split at hs
  ·exact h s hs
  ·split at hs
   ·rename_i h1 h2
    rw [inS_snoc] at hs
    rcases Bool.or_eq_true_iff.1 hs with hs | hs
    ·exact h s hs
    ·have e : s = a.label := of_decide_eq_true hs
     obtain ⟨u, hu, hu2⟩ := List.any_eq_true.1 h2
     rw [e]
     exact Gn.step (p := sayOf a) (List.mem_map_of_mem (hl a List.mem_cons_self)) hu (h u hu2)
   ·exact h s hs
theorem fallGo_sound {L : List Asr} {x : ByteArray} : ∀ (f : Nat) (S : List ByteArray), (∀ s, inS s S = true → Gn (L.map sayOf) x s) → ∀ s, inS s (fallGo L f S) = true → Gn (L.map sayOf) x s
 | 0, S, h => h
 | f + 1, S, h => by
  have h2 := fallFold_sound L (S, false) (fun _ h => h) h
  rw [fallGo]
  split
  ·exact fallGo_sound f _ h2
  ·exact h2
def ClosedS (L : List Asr) (S : List ByteArray) : Prop := ∀ a ∈ L, ((namedOf a).any fun s => inS s S) = true → inS a.label S = true
theorem fallFold_still : ∀ (l : List Asr) (p : List ByteArray × Bool), (l.foldl fallStep p).2 = false → p.2 = false ∧ (l.foldl fallStep p).1 = p.1 ∧ ClosedS l p.1
 | [], p, h => ⟨h, rfl, fun a ha => by cases ha⟩
 | a :: l, p, h => by
  obtain ⟨h1, h2, h3⟩ := fallFold_still l _ h
  rw [List.foldl_cons, h2]
  unfold fallStep at h1 h3 ⊢
  split at h1
  ·rename_i hc
   rw [if_pos hc] at h3 ⊢
   refine ⟨h1, rfl, fun b hb hx => ?_⟩
   rcases List.mem_cons.1 hb with rfl | hb
   ·exact hc
   ·exact h3 b hb hx
  ·rename_i hc
   split at h1
   ·simp at h1
   ·rename_i hd
    rw [if_neg hc, if_neg hd] at h3 ⊢
    refine ⟨h1, rfl, fun b hb hx => ?_⟩
    rcases List.mem_cons.1 hb with rfl | hb
    ·exact absurd hx hd
    ·exact h3 b hb hx
theorem fallGo_closed (L : List Asr) : ∀ (f : Nat) (S : List ByteArray), stays L S < f → ClosedS L (fallGo L f S)
 | 0, S, h => absurd h (Nat.not_lt_zero _)
 | f + 1, S, h => by
  rw [fallGo]
  split
  ·rename_i hc
   have := fallPass_stays L S hc
   exact fallGo_closed L f _ (by omega)
  ·rename_i hc
   have h2 := fallFold_still L (S, false) (by simpa [fallPass] using hc)
   unfold fallPass
   rw [h2.2.1]
   exact h2.2.2
theorem gone_iff (L : List Asr) (x s : ByteArray) : inS s (fallGo L (L.length + 1) [x]) = true ↔ Gn (L.map sayOf) x s := by
 constructor
 ·refine fallGo_sound _ _ (fun u hu => ?_) s
  have : u = x := by
   unfold inS setM at hu
   simp only [List.map_cons, List.map_nil, aget] at hu
   split at hu
   ·assumption
   ·cases hu
  rw [this]
  exact .base
 ·intro h
  have hc := fallGo_closed L (L.length + 1) [x] (by have := stays_le L [x]; omega)
  induction h with
  | base => exact inS_fallGo L _ _ (by simp [inS, setM, aget])
  | step hp hs _ ih =>
   obtain ⟨a, ha, rfl⟩ := List.mem_map.1 hp
   exact hc a ha (List.any_eq_true.2 ⟨_, hs, ih⟩)
def fallsN (L : List Asr) (S : List ByteArray) (k : Nat) : List Nat := (List.range k).filter fun m => ((L[m]?).map fun a => inS a.label S).getD false
theorem outTo_N (S : List ByteArray) (L : List Asr) : ∀ k, outTo S L k = (fallsN L S k).map fun m : Nat => (m : Int)
 | 0 => rfl
 | k + 1 => by
  have ih := outTo_N S L k
  unfold fallsN at ih ⊢
  rw [List.range_succ, List.filter_append, List.map_append, ← ih, outTo]
  cases hk : L[k]? with
  | none => simp [hk]
  | some a =>
   dsimp only
   cases hb : inS a.label S with
   | true => rw [if_pos rfl]; simp [hk, hb]
   | false => rw [if_neg (by decide)]; simp [hk, hb]
def pk (L : List Asr) (idx : List Nat) : List Asr := idx.filterMap fun i => L[i]?
theorem pickA_N (L : List Asr) (idx : List Nat) : pickA L (idx.map fun m : Nat => (m : Int)) = pk L idx := by
 unfold pickA pk
 rw [List.filterMap_map]
 rfl
theorem fallsN_lt {L : List Asr} {S : List ByteArray} {k : Nat} : ∀ i ∈ fallsN L S k, i < L.length := by
 intro i hi
 have := (List.mem_filter.1 hi).2
 cases hc : L[i]? with
 | none => rw [hc] at this; cases this
 | some a => exact (List.getElem?_eq_some_iff.1 hc).1
theorem fallsN_sorted (L : List Asr) (S : List ByteArray) (k : Nat) : (fallsN L S k).Pairwise (· < ·) := List.Pairwise.filter _ List.pairwise_lt_range
theorem mem_fallsN {L : List Asr} {S : List ByteArray} {i : Nat} (hi : i < L.length) : i ∈ fallsN L S L.length ↔ inS L[i].label S = true := by
 unfold fallsN
 rw [List.mem_filter, List.getElem?_eq_getElem hi]
 simp [hi]
theorem cutOf_snoc (t : ByteArray) (a : Asr) (h1 : a.lo ≤ a.hi) (h2 : a.hi ≤ t.size) : ∀ (qs : List Asr) (p : Nat), p ≤ a.lo → (∀ x ∈ qs, x.lo ≤ a.lo ∧ x.hi ≤ a.lo) → cutOf t (qs ++ [a]) p = cutOf (cutAt t a.lo a.hi) qs p
 | [], p, hp, _ => by
  have hsz : (cutAt t a.lo a.hi).size = a.lo + (t.size - a.hi) := by
   rw [← ba_size]
   unfold cutAt
   simp only [List.length_append, List.length_take, List.length_drop, ba_size]
   omega
  show (t.extract p a.lo).data.toList ++ (t.extract a.hi t.size).data.toList = ((cutAt t a.lo a.hi).extract p (cutAt t a.lo a.hi).size).data.toList
  rw [ba_extract, ba_extract, ba_extract, hsz]
  unfold cutAt
  dsimp only
  have l1 : (t.data.toList.take a.lo).length = a.lo := by rw [List.length_take, ba_size]; omega
  rw [List.drop_append_of_le_length (by omega), List.drop_take]
  have l2 : ((t.data.toList.drop p).take (a.lo - p)).length = a.lo - p := by rw [List.length_take, List.length_drop, ba_size]; omega
  have l3 : (t.data.toList.drop a.hi).length = t.size - a.hi := by rw [List.length_drop, ba_size]
  have l4 : (t.data.toList.drop a.hi).take (t.size - a.hi) = t.data.toList.drop a.hi := List.take_of_length_le (by omega)
  rw [l4]
  exact (List.take_of_length_le (by rw [List.length_append]; omega)).symm
 | x :: qs, p, hp, hx => by
  obtain ⟨x1, x2⟩ := hx x List.mem_cons_self
  have ih := cutOf_snoc t a h1 h2 qs x.hi x2 fun y hy => hx y (List.mem_cons_of_mem _ hy)
  show (t.extract p x.lo).data.toList ++ cutOf t (qs ++ [a]) x.hi = ((cutAt t a.lo a.hi).extract p x.lo).data.toList ++ cutOf (cutAt t a.lo a.hi) qs x.hi
  rw [ih]
  congr 1
  rw [ba_extract, ba_extract]
  unfold cutAt
  dsimp only
  have l1 : (t.data.toList.take a.lo).length = a.lo := by rw [List.length_take, ba_size]; omega
  rw [List.drop_append_of_le_length (by omega), List.drop_take, List.take_append_of_le_length (by rw [List.length_take, List.length_drop, ba_size]; omega), List.take_take, Nat.min_eq_left (by omega)]
theorem asr_order {t : ByteArray} {B : Bs} (h : loadOf t = .ok B) {i j : Nat} (hij : i < j) (hj : j < B.ld.asserts.length) : B.ld.asserts[i].hi ≤ B.ld.asserts[j].lo := by
 obtain ⟨-, -, b3, -, -⟩ := single_cut h j hj
 have := b3 B.ld.asserts[i] (by
  have := List.getElem_mem (l := B.ld.asserts.take j) (n := i) (by rw [List.length_take]; omega)
  rwa [List.getElem_take] at this)
 exact this
theorem asr_span {t : ByteArray} {B : Bs} (h : loadOf t = .ok B) {i : Nat} (hi : i < B.ld.asserts.length) : B.ld.asserts[i].lo ≤ B.ld.asserts[i].hi ∧ B.ld.asserts[i].hi ≤ t.size := by
 obtain ⟨a, b, -⟩ := single_cut h i hi
 exact ⟨a, b⟩
theorem ord_pk {t : ByteArray} {B : Bs} (h : loadOf t = .ok B) : ∀ (idx : List Nat) (p : Nat), idx.Pairwise (· < ·) → (∀ i ∈ idx, i < B.ld.asserts.length) → p ≤ t.size → (∀ i (hi : i < B.ld.asserts.length), i ∈ idx → p ≤ B.ld.asserts[i].lo) → OrdA t.size (pk B.ld.asserts idx) p
 | [], p, _, _, hp, _ => hp
 | i :: idx, p, hs, hl, hp, hx => by
  have hi := hl i List.mem_cons_self
  obtain ⟨hs1, hs2⟩ := List.pairwise_cons.1 hs
  obtain ⟨s1, s2⟩ := asr_span h hi
  have e : pk B.ld.asserts (i :: idx) = B.ld.asserts[i] :: pk B.ld.asserts idx := by
   unfold pk
   rw [List.filterMap_cons, List.getElem?_eq_getElem hi]
  rw [e]
  exact ⟨hx i hi List.mem_cons_self, s1, ord_pk h idx _ hs2 (fun j hj => hl j (List.mem_cons_of_mem _ hj)) s2 fun j hj hm => asr_order h (hs1 j hm) hj⟩
theorem pk_app (L : List Asr) (a b : List Nat) : pk L (a ++ b) = pk L a ++ pk L b := by unfold pk; rw [List.filterMap_append]
theorem pk_congr {L L' : List Asr} {idx : List Nat} (h : ∀ i ∈ idx, L'[i]? = L[i]?) : pk L' idx = pk L idx := by
 induction idx with
 | nil => rfl
 | cons i idx ih =>
  unfold pk at ih ⊢
  rw [List.filterMap_cons, List.filterMap_cons, h i List.mem_cons_self, ih fun j hj => h j (List.mem_cons_of_mem _ hj)]
theorem cutOf_cuts : ∀ (n : Nat) (idx : List Nat), idx.length = n → idx.Pairwise (· < ·) → ∀ {t : ByteArray} {B : Bs}, loadOf t = .ok B → (∀ i ∈ idx, i < B.ld.asserts.length) → Cuts t ((pk B.ld.asserts idx).map (·.label)).reverse ⟨(cutOf t (pk B.ld.asserts idx) 0).toArray⟩
 | 0, idx, hn, _, t, B, h, _ => by
  have : idx = [] := List.eq_nil_of_length_eq_zero hn
  subst this
  have e : (⟨(cutOf t (pk B.ld.asserts []) 0).toArray⟩ : ByteArray) = t := by
   refine ba_ext ?_
   show (t.extract 0 t.size).data.toList = t.data.toList
   rw [ba_extract, List.drop_zero, Nat.sub_zero, List.take_of_length_le (by rw [ba_size]; omega)]
  rw [e]
  exact .nil t
 | n + 1, idx, hn, hs, t, B, h, hl => by
  obtain ⟨ini, m, rfl⟩ : ∃ ini m, idx = ini ++ [m] := by
   have hne : idx ≠ [] := by intro e; rw [e] at hn; cases hn
   exact ⟨idx.dropLast, idx.getLast hne, (List.dropLast_concat_getLast hne).symm⟩
  have hm := hl m (by simp)
  obtain ⟨hs1, -, hs3⟩ := List.pairwise_append.1 hs
  have hlt : ∀ i ∈ ini, i < m := fun i hi => hs3 i hi m (by simp)
  obtain ⟨s1, s2, s3, -, B1, X', c1, c2, c3⟩ := single_cut h m hm
  have e1 : pk B.ld.asserts (ini ++ [m]) = pk B.ld.asserts ini ++ [B.ld.asserts[m]] := by
   rw [pk_app]
   congr 1
   unfold pk
   rw [List.filterMap_cons, List.getElem?_eq_getElem hm]
   rfl
  have e2 : pk B1.ld.asserts ini = pk B.ld.asserts ini := pk_congr fun i hi => by
   have := hlt i hi
   rw [c2, List.getElem?_append_left (by rw [List.length_take]; omega), List.getElem?_take, if_pos this]
  have ih := cutOf_cuts n ini (by simpa using hn) hs1 c1 (fun i hi => by
   have := hlt i hi
   rw [c2, List.length_append, List.length_take]
   omega)
  rw [e2] at ih
  rw [e1, cutOf_snoc t _ s1 s2 _ 0 (Nat.zero_le _) (fun x hx => ?_)]
  ·rw [List.map_append, List.reverse_append]
   exact .cons ⟨h, c1, m, hm, X', rfl, rfl, c2, c3⟩ ih
  ·obtain ⟨i, hi, hxi⟩ := List.mem_filterMap.1 hx
   obtain ⟨hil, rfl⟩ := List.getElem?_eq_some_iff.1 hxi
   have := asr_order h (hlt i hi) hm
   exact ⟨Nat.le_trans (asr_span h hil).1 this, this⟩
theorem Cuts.load {t t' : ByteArray} {ls : List ByteArray} (h : Cuts t ls t') : ∀ {B : Bs}, loadOf t = .ok B → ∃ B', loadOf t' = .ok B' ∧ B'.says = B.says.filter (fun p : ByteArray × List ByteArray => !(ls.any fun l => decide (p.1 = l))) := by
 induction h with
 | nil t => intro B hB; exact ⟨B, hB, (List.filter_eq_self.2 fun _ _ => rfl).symm⟩
 | @cons t t1 t' B0 B1 l ls h1 _ ih =>
  intro B hB
  have := h1.load
  rw [hB] at this
  cases this
  obtain ⟨B', e1, e2⟩ := ih h1.load'
  refine ⟨B', e1, ?_⟩
  rw [e2, h1.says, List.filter_filter]
  congr 1
  funext p
  by_cases hp : p.1 = l <;> simp [hp]
theorem says_at {B : Bs} {n : Nat} (hn : n < B.ld.asserts.length) : (B.ld.asserts[n].label, namedOf B.ld.asserts[n]) ∈ B.says := List.mem_map_of_mem (f := sayOf) (List.getElem_mem hn)
def goL (B : Bs) (n : Nat) : List ByteArray := ((pk B.ld.asserts (fallsN B.ld.asserts (fallGo B.ld.asserts (B.ld.asserts.length + 1) [(B.ld.asserts[n]?.map (·.label)).getD ⟨#[]⟩]) B.ld.asserts.length)).map (·.label)).reverse
theorem falls_N {B : Bs} {n : Nat} (hn : n < B.ld.asserts.length) : fallsOf B.ld.asserts n = (fallsN B.ld.asserts (fallGo B.ld.asserts (B.ld.asserts.length + 1) [(B.ld.asserts[n]?.map (·.label)).getD ⟨#[]⟩]) B.ld.asserts.length).map fun m : Nat => (m : Int) := by
 rw [falls_eq _ _ hn, outTo_N, List.getElem?_eq_getElem hn]
 rfl
theorem without_cuts {t : ByteArray} {B : Bs} (h : loadOf t = .ok B) {n : Nat} (hn : n < B.ld.asserts.length) : Cuts t (goL B n) (withoutOf B n) := by
 have hs := fallsN_sorted B.ld.asserts (fallGo B.ld.asserts (B.ld.asserts.length + 1) [(B.ld.asserts[n]?.map (·.label)).getD ⟨#[]⟩]) B.ld.asserts.length
 have := cutOf_cuts _ _ rfl hs h fallsN_lt
 unfold goL withoutOf
 rw [falls_N hn, pickA_N, load_text h]
 exact this
theorem ord_falls {t : ByteArray} {B : Bs} (h : loadOf t = .ok B) {n : Nat} (hn : n < B.ld.asserts.length) : OrdA B.text.size (pickA B.ld.asserts (fallsOf B.ld.asserts n)) 0 := by
 rw [falls_N hn, pickA_N, load_text h]
 exact ord_pk h _ 0 (fallsN_sorted _ _ _) fallsN_lt (Nat.zero_le _) fun _ _ _ => Nat.zero_le _
theorem mem_goL {B : Bs} {n : Nat} (hn : n < B.ld.asserts.length) {l : ByteArray} : l ∈ goL B n ↔ (∃ p ∈ B.says, p.1 = l) ∧ Gn B.says B.ld.asserts[n].label l := by
 unfold goL
 rw [List.getElem?_eq_getElem hn]
 simp only [List.mem_reverse, List.mem_map, Option.map_some, Option.getD_some]
 constructor
 ·rintro ⟨a, ha, rfl⟩
  obtain ⟨i, hi, hia⟩ := List.mem_filterMap.1 ha
  obtain ⟨hil, rfl⟩ := List.getElem?_eq_some_iff.1 hia
  rw [mem_fallsN hil, gone_iff] at hi
  exact ⟨⟨_, says_at hil, rfl⟩, hi⟩
 ·rintro ⟨⟨p, hp, rfl⟩, hg⟩
  obtain ⟨a, ha, rfl⟩ := List.mem_map.1 hp
  obtain ⟨i, hil, rfl⟩ := List.getElem_of_mem ha
  refine ⟨_, List.mem_filterMap.2 ⟨i, ?_, List.getElem?_eq_getElem hil⟩, rfl⟩
  rw [mem_fallsN hil, gone_iff]
  exact hg
theorem nodup_goL {t : ByteArray} {B : Bs} (h : loadOf t = .ok B) (n : Nat) : (goL B n).Nodup := by
 unfold goL
 rw [List.nodup_iff_pairwise_ne, List.pairwise_reverse]
 have hs := fallsN_sorted B.ld.asserts (fallGo B.ld.asserts (B.ld.asserts.length + 1) [(B.ld.asserts[n]?.map (·.label)).getD ⟨#[]⟩]) B.ld.asserts.length
 have hlt := fallsN_lt (L := B.ld.asserts) (S := fallGo B.ld.asserts (B.ld.asserts.length + 1) [(B.ld.asserts[n]?.map (·.label)).getD ⟨#[]⟩]) (k := B.ld.asserts.length)
 generalize fallsN B.ld.asserts (fallGo B.ld.asserts (B.ld.asserts.length + 1) [(B.ld.asserts[n]?.map (·.label)).getD ⟨#[]⟩]) B.ld.asserts.length = idx at hs hlt
 induction idx with
 | nil => simp [pk]
 | cons i idx ih =>
  have hi := hlt i List.mem_cons_self
  obtain ⟨hs1, hs2⟩ := List.pairwise_cons.1 hs
  have e : pk B.ld.asserts (i :: idx) = B.ld.asserts[i] :: pk B.ld.asserts idx := by
   unfold pk
   rw [List.filterMap_cons, List.getElem?_eq_getElem hi]
  rw [e, List.map_cons, List.pairwise_cons]
  refine ⟨fun l hl hc => ?_, ih hs2 fun j hj => hlt j (List.mem_cons_of_mem _ hj)⟩
  obtain ⟨a, ha, rfl⟩ := List.mem_map.1 hl
  obtain ⟨j, hj, hja⟩ := List.mem_filterMap.1 ha
  obtain ⟨hjl, rfl⟩ := List.getElem?_eq_some_iff.1 hja
  have := (load_find h).inj hjl hi hc
  have := hs1 j hj
  omega
theorem Gn.mono {S S' : List (ByteArray × List ByteArray)} (hs : ∀ p ∈ S', p ∈ S) {x s : ByteArray} (h : Gn S' x s) : Gn S x s := by
 induction h with
 | base => exact .base
 | step hp h1 _ ih => exact .step (hs _ hp) h1 ih
theorem Gn.rest {S S' : List (ByteArray × List ByteArray)} {x y s : ByteArray} (h : Gn S y s) (hS' : ∀ p ∈ S, ¬ Gn S x p.1 → p ∈ S') (hx : ¬ Gn S x s) : Gn S' y s := by
 induction h with
 | base => exact .base
 | step hp h1 _ ih => exact .step (hS' _ hp hx) h1 (ih fun hc => hx (.step hp h1 hc))
theorem not_falls {B : Bs} {i k : Nat} (hi : i < B.ld.asserts.length) (hk : k < B.ld.asserts.length) (h : (k : Int) ∉ fallsOf B.ld.asserts i) : ¬ Gn B.says B.ld.asserts[i].label B.ld.asserts[k].label := by
 intro hg
 apply h
 rw [falls_N hi]
 refine List.mem_map.2 ⟨k, ?_, rfl⟩
 rw [mem_fallsN hk, List.getElem?_eq_getElem hi]
 exact (gone_iff _ _ _).2 hg
theorem order_one {t : ByteArray} {B : Bs} (h : loadOf t = .ok B) {i k : Nat} (hi : i < B.ld.asserts.length) (hk : k < B.ld.asserts.length) (hx : (k : Int) ∉ fallsOf B.ld.asserts i) :
  ∃ C, loadOf (withoutOf B i) = .ok C ∧ ∃ (m : Nat) (hm : m < C.ld.asserts.length), C.ld.asserts[m].label = B.ld.asserts[k].label ∧ aget B.ld.asserts[k].label C.ld.finds = some m ∧ ∃ U, loadOf (withoutOf C m) = .ok U ∧
   ∃ ls, Cuts t ls (withoutOf C m) ∧ ls.Nodup ∧ ∀ l, l ∈ ls ↔ (∃ p ∈ B.says, p.1 = l) ∧ (Gn B.says B.ld.asserts[i].label l ∨ Gn B.says B.ld.asserts[k].label l) := by
 have hng := not_falls hi hk hx
 have c1 := without_cuts h hi
 obtain ⟨C, h1, h2⟩ := c1.load h
 have hky : (B.ld.asserts[k].label, namedOf B.ld.asserts[k]) ∈ C.says := by
  rw [h2, List.mem_filter]
  refine ⟨says_at hk, ?_⟩
  rw [Bool.not_eq_true']
  refine Bool.eq_false_iff.2 fun hc => ?_
  obtain ⟨l, hl, hle⟩ := List.any_eq_true.1 hc
  have e := of_decide_eq_true hle
  dsimp only at e
  rw [← e] at hl
  exact hng ((mem_goL hi).1 hl).2
 obtain ⟨a, ha, hae⟩ := List.mem_map.1 hky
 obtain ⟨m, hm, rfl⟩ := List.getElem_of_mem ha
 have hlm : C.ld.asserts[m].label = B.ld.asserts[k].label := congrArg Prod.fst hae
 have c2 := without_cuts h1 hm
 obtain ⟨U, h3, -⟩ := c2.load h1
 refine ⟨C, h1, m, hm, hlm, ((load_find h1).find _ _).2 ⟨hm, hlm⟩, U, h3, _, c1.app c2, ?_, ?_⟩
 ·rw [List.nodup_append]
  refine ⟨nodup_goL h i, nodup_goL h1 m, fun l hl l' hl' e => ?_⟩
  subst e
  obtain ⟨⟨p, hp, rfl⟩, -⟩ := (mem_goL hm).1 hl'
  rw [h2, List.mem_filter] at hp
  have := hp.2
  rw [Bool.not_eq_true'] at this
  rw [List.any_eq_true.2 ⟨_, hl, decide_eq_true rfl⟩] at this
  cases this
 ·intro l
  rw [List.mem_append, mem_goL hi, mem_goL hm, hlm]
  have hsub : ∀ p ∈ C.says, p ∈ B.says := fun p hp => by rw [h2] at hp; exact (List.mem_filter.1 hp).1
  have hin : ∀ p ∈ B.says, ¬ Gn B.says B.ld.asserts[i].label p.1 → p ∈ C.says := fun p hp hg => by
   rw [h2, List.mem_filter]
   refine ⟨hp, ?_⟩
   rw [Bool.not_eq_true']
   refine Bool.eq_false_iff.2 fun hc => ?_
   obtain ⟨l, hl, hle⟩ := List.any_eq_true.1 hc
   have e := of_decide_eq_true hle
   rw [← e] at hl
   exact hg ((mem_goL hi).1 hl).2
  constructor
  ·rintro (⟨h5, h6⟩ | ⟨⟨p, hp, rfl⟩, h6⟩)
   ·exact ⟨h5, .inl h6⟩
   ·exact ⟨⟨p, hsub p hp, rfl⟩, .inr (h6.mono hsub)⟩
  ·rintro ⟨⟨p, hp, rfl⟩, h6⟩
   by_cases hg : Gn B.says B.ld.asserts[i].label p.1
   ·exact .inl ⟨⟨p, hp, rfl⟩, hg⟩
   ·refine .inr ⟨⟨p, hin p hp hg, rfl⟩, ?_⟩
    rcases h6 with h6 | h6
    ·exact absurd h6 hg
    ·exact h6.rest hin hg
theorem prune_order {t : ByteArray} {B : Bs} (h : loadOf t = .ok B) {i k : Nat} (hi : i < B.ld.asserts.length) (hk : k < B.ld.asserts.length) (hx : (k : Int) ∉ fallsOf B.ld.asserts i) (hy : (i : Int) ∉ fallsOf B.ld.asserts k) :
  ∃ C D, loadOf (withoutOf B i) = .ok C ∧ loadOf (withoutOf B k) = .ok D ∧ ∃ (m n : Nat), m < C.ld.asserts.length ∧ n < D.ld.asserts.length ∧ aget B.ld.asserts[k].label C.ld.finds = some m ∧ aget B.ld.asserts[i].label D.ld.finds = some n ∧
   withoutOf C m = withoutOf D n ∧ ∃ U, loadOf (withoutOf C m) = .ok U := by
 obtain ⟨C, c1, m, hm, -, c3, U, c4, ls, c5, c6, c7⟩ := order_one h hi hk hx
 obtain ⟨D, d1, n, hn, -, d3, V, d4, ls', d5, d6, d7⟩ := order_one h hk hi hy
 refine ⟨C, D, c1, d1, m, n, hm, hn, c3, d3, ?_, U, c4⟩
 have hp : ls.Perm ls' := (List.perm_ext_iff_of_nodup c6 d6).2 fun l => by
  rw [c7, d7]
  constructor <;> rintro ⟨h1, h2⟩ <;> exact ⟨h1, h2.symm⟩
 exact (Cuts.perm hp c6 c5).det d5
end Go.Proofs.YtdhkmfpfbjcdiaaGreatDoor
