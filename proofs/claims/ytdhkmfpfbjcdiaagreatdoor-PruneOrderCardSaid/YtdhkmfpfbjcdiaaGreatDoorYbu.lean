/- lemmalaw texts, part 47. -/
import Derived.Test.YtdhkmfpfbjcdiaaGreatDoorYbr
set_option maxRecDepth 100000
set_option linter.unusedVariables false
set_option linter.unusedSimpArgs false
set_option maxHeartbeats 32000000
namespace Go.Proofs.YtdhkmfpfbjcdiaaGreatDoor
def Ps.adv (p : Ps) (l : List UInt8) : Ps := l.foldl Ps.next p
theorem adv_off (p : Ps) : ∀ l : List UInt8, (p.adv l).off = p.off + l.length
 | [] => rfl
 | c :: l => by
  show ((p.next c).adv l).off = _
  rw [adv_off, next_off, List.length_cons]
  omega
theorem adv_app (p : Ps) (a b : List UInt8) : p.adv (a ++ b) = (p.adv a).adv b := by unfold Ps.adv; rw [List.foldl_append]
def itOf (w : List UInt8) (q : Ps) : It := ⟨⟨⟨w.toArray⟩, q⟩, 0⟩
def lexL : List UInt8 → Ps → List UInt8 → Ps → List It
 | [], _, w, q => if w = [] then [] else [itOf w q]
 | c :: r, p, w, q =>
  if p.off = 65536 then [⟨⟨⟨#[]⟩, p⟩, 13⟩]
  else if kindN c.toNat = 0 then [⟨⟨⟨#[]⟩, p⟩, 10⟩]
  else if kindN c.toNat = 2 then lexL r (p.next c) (w ++ [c]) (if w = [] then p else q)
  else if w = [] then lexL r (p.next c) [] q
  else itOf w q :: lexL r (p.next c) [] ⟨0, 0, 0⟩
theorem ba_ext {x y : ByteArray} (h : x.data.toList = y.data.toList) : x = y := by
 cases x; cases y
 exact congrArg ByteArray.mk (Array.toList_inj.1 h)
theorem ba_of (x : ByteArray) : (⟨x.data.toList.toArray⟩ : ByteArray) = x := ba_ext (by simp)
theorem ba_size (x : ByteArray) : x.data.toList.length = x.size := by rw [Array.length_toList]; rfl
theorem ba_extract (t : ByteArray) (a b : Nat) : (t.extract a b).data.toList = (t.data.toList.drop a).take (b - a) := by
 rw [ByteArray.data_extract, Array.toList_extract, List.extract_eq_take_drop]
theorem items_lexL (t : ByteArray) : ∀ (n k : Nat) (p : Ps) (x : Tk), k + n = t.size → p.off = k → (x.text.size ≠ 0 → x.text = t.extract x.at_.off k ∧ x.at_.off ≤ k) →
  itemsGo t n k p x = lexL (t.data.toList.drop k) p x.text.data.toList x.at_
 | 0, k, p, x, hk, hp, hx => by
  have hd : t.data.toList.drop k = [] := List.drop_of_length_le (by rw [ba_size]; omega)
  rw [hd, itemsGo, lexL]
  by_cases h0 : x.text.size = 0
  ·rw [if_pos h0, if_pos (List.eq_nil_of_length_eq_zero (by rw [ba_size]; exact h0))]
  ·rw [if_neg h0, if_neg (fun e => h0 (by rw [← ba_size, e]; rfl)), itOf, ba_of]
 | n + 1, k, p, x, hk, hp, hx => by
  have hlt : k < t.data.toList.length := by rw [ba_size]; omega
  have hgk : t[k]! = t.data.toList[k] := by
   rw [getElem!_pos t k (by omega)]
   rfl
  rw [List.drop_eq_getElem_cons hlt, itemsGo, lexL]
  dsimp only
  rw [hgk, hp]
  have h00 : (x.text.size = 0) ↔ x.text.data.toList = [] := ⟨fun h => List.eq_nil_of_length_eq_zero (by rw [ba_size]; exact h), fun h => by rw [← ba_size, h]; rfl⟩
  split
  ·rfl
  split
  ·rfl
  split
  ·have hw : (t.extract (if x.text.size = 0 then p else x.at_).off (k + 1)).data.toList = x.text.data.toList ++ [t.data.toList[k]] := by
    by_cases h0 : x.text.size = 0
    ·rw [if_pos h0, h00.1 h0, ba_extract, hp, show k + 1 - k = 1 by omega, List.drop_eq_getElem_cons hlt]
     rfl
    ·obtain ⟨h1, h2⟩ := hx h0
     rw [if_neg h0, ba_extract]
     have h3 : x.text.data.toList = (t.data.toList.drop x.at_.off).take (k - x.at_.off) := by
      have := congrArg (fun z : ByteArray => z.data.toList) h1
      rwa [ba_extract] at this
     rw [h3, show k + 1 - x.at_.off = (k - x.at_.off) + 1 by omega, List.take_succ_eq_append_getElem (by rw [List.length_drop]; omega)]
     congr 2
     rw [List.getElem_drop]
     congr 1
     omega
   rw [items_lexL t n (k + 1) _ _ (by omega) (by rw [next_off, hp]) (fun _ => ⟨rfl, by
    dsimp only
    split
    ·omega
    ·rename_i h0; have := (hx h0).2; omega⟩)]
   dsimp only
   rw [hw]
   congr 1
   by_cases h0 : x.text.size = 0
   ·rw [if_pos h0, if_pos (h00.1 h0)]
   ·rw [if_neg h0, if_neg (fun h => h0 (h00.2 h))]
  ·by_cases h0 : x.text.size = 0
   ·rw [if_pos h0, if_pos (h00.1 h0), items_lexL t n (k + 1) _ _ (by omega) (by rw [next_off, hp]) (fun h => absurd h0 h), h00.1 h0]
   ·rw [if_neg h0, if_neg (fun h => h0 (h00.2 h)), items_lexL t n (k + 1) _ _ (by omega) (by rw [next_off, hp]) (fun h => absurd rfl h), itOf, ba_of]
    rfl
theorem itemsOf_lexL (t : ByteArray) : itemsOf t = lexL t.data.toList ⟨0, 1, 1⟩ [] ⟨0, 0, 0⟩ := by
 unfold itemsOf
 rw [items_lexL t t.size 0 _ _ (by omega) rfl (fun h => absurd rfl h)]
 rfl
def Blank (c : UInt8) : Prop := kindN c.toNat = 1
def Ink (c : UInt8) : Prop := kindN c.toNat = 2
structure Wd where
 gap : List UInt8
 ink : List UInt8
def flat (ws : List Wd) (tail : List UInt8) : List UInt8 := ws.flatMap (fun w => w.gap ++ w.ink) ++ tail
theorem flat_cons (w : Wd) (ws : List Wd) (tail : List UInt8) : flat (w :: ws) tail = w.gap ++ (w.ink ++ flat ws tail) := by simp [flat]
theorem flat_app (a b : List Wd) (tail : List UInt8) : flat (a ++ b) tail = flat a (flat b tail) := by simp [flat]
structure Wd.Ok (w : Wd) : Prop where
 gap : ∀ c ∈ w.gap, Blank c
 ink : ∀ c ∈ w.ink, Ink c
 ne : w.ink ≠ []
structure WsOk (ws : List Wd) (tail : List UInt8) : Prop where
 ok : ∀ w ∈ ws, w.Ok
 gaps : ∀ w ∈ ws.tail, w.gap ≠ []
 tail : ∀ c ∈ tail, Blank c
def toks : Ps → List Wd → List It
 | _, [] => []
 | p, w :: r => itOf w.ink (p.adv w.gap) :: toks ((p.adv w.gap).adv w.ink) r
theorem blank_ne {c : UInt8} (h : Blank c) : kindN c.toNat ≠ 0 ∧ kindN c.toNat ≠ 2 := by unfold Blank at h; omega
theorem ink_ne {c : UInt8} (h : Ink c) : kindN c.toNat ≠ 0 := by unfold Ink at h; omega
theorem lex_gap : ∀ (g r : List UInt8) (p q : Ps), (∀ c ∈ g, Blank c) → p.off + g.length ≤ 65536 → lexL (g ++ r) p [] q = lexL r (p.adv g) [] q
 | [], r, p, q, _, _ => rfl
 | c :: g, r, p, q, hg, hl => by
  obtain ⟨h1, h2⟩ := blank_ne (hg c List.mem_cons_self)
  rw [List.length_cons] at hl
  rw [List.cons_append, lexL, if_neg (by omega), if_neg h1, if_neg h2, if_pos rfl, lex_gap g r _ _ (fun x hx => hg x (List.mem_cons_of_mem _ hx)) (by rw [next_off]; omega)]
  rfl
theorem lex_ink : ∀ (i r : List UInt8) (p : Ps) (w : List UInt8) (q : Ps), (∀ c ∈ i, Ink c) → i ≠ [] → p.off + i.length ≤ 65536 → lexL (i ++ r) p w q = lexL r (p.adv i) (w ++ i) (if w = [] then p else q)
 | [], _, _, _, _, _, h, _ => absurd rfl h
 | [c], r, p, w, q, hi, _, hl => by
  have h2 : kindN c.toNat = 2 := hi c List.mem_cons_self
  rw [List.length_singleton] at hl
  rw [List.singleton_append, lexL, if_neg (by omega), if_neg (ink_ne h2), if_pos h2]
  rfl
 | c :: d :: i, r, p, w, q, hi, _, hl => by
  have h2 : kindN c.toNat = 2 := hi c List.mem_cons_self
  rw [List.length_cons] at hl
  rw [List.cons_append, lexL, if_neg (by rw [List.length_cons] at hl; omega), if_neg (ink_ne h2), if_pos h2, lex_ink (d :: i) r _ _ _ (fun x hx => hi x (List.mem_cons_of_mem _ hx)) (by simp) (by rw [next_off]; omega), if_neg (by simp), List.append_assoc]
  rfl
theorem lex_flat : ∀ (ws : List Wd) (tail : List UInt8) (p q : Ps), WsOk ws tail → p.off + (flat ws tail).length ≤ 65536 → lexL (flat ws tail) p [] q = toks p ws
 | [], tail, p, q, h, hl => by
  have e : flat [] tail = tail ++ [] := by simp [flat]
  rw [e] at hl ⊢
  rw [lex_gap tail [] p q h.tail (by simpa using hl)]
  rfl
 | [w], tail, p, q, h, hl => by
  have hw := h.ok w List.mem_cons_self
  have e : flat [w] tail = w.gap ++ (w.ink ++ tail) := by simp [flat]
  rw [e] at hl ⊢
  simp only [List.length_append] at hl
  rw [lex_gap _ _ p q hw.gap (by omega), lex_ink _ _ _ _ _ hw.ink hw.ne (by rw [adv_off]; omega), if_pos rfl, List.nil_append, toks, toks]
  cases htl : tail with
  | nil => rw [lexL, if_neg hw.ne]
  | cons c r =>
   obtain ⟨h1, h2⟩ := blank_ne (h.tail c (by rw [htl]; exact List.mem_cons_self))
   rw [htl, List.length_cons] at hl
   rw [lexL, if_neg (by rw [adv_off, adv_off]; omega), if_neg h1, if_neg h2, if_neg hw.ne]
   have h3 := lex_gap r [] (((p.adv w.gap).adv w.ink).next c) ⟨0, 0, 0⟩ (fun x hx => h.tail x (by rw [htl]; exact List.mem_cons_of_mem _ hx)) (by rw [next_off, adv_off, adv_off]; omega)
   rw [List.append_nil] at h3
   rw [h3]
   rfl
 | w :: v :: ws, tail, p, q, h, hl => by
  have hw := h.ok w List.mem_cons_self
  have hv := h.ok v (by simp)
  have hr : WsOk (v :: ws) tail := ⟨fun x hx => h.ok x (List.mem_cons_of_mem _ hx), fun x hx => h.gaps x (List.mem_cons_of_mem _ hx), h.tail⟩
  have hg : v.gap ≠ [] := h.gaps v List.mem_cons_self
  rw [flat_cons] at hl ⊢
  simp only [List.length_append] at hl
  rw [lex_gap _ _ p q hw.gap (by omega), lex_ink _ _ _ _ _ hw.ink hw.ne (by rw [adv_off]; omega), if_pos rfl, List.nil_append, toks]
  have ih := lex_flat (v :: ws) tail ((p.adv w.gap).adv w.ink) ⟨0, 0, 0⟩ hr (by rw [adv_off, adv_off]; omega)
  rw [← ih]
  obtain ⟨c, g', hcg⟩ : ∃ c g', v.gap = c :: g' := by
   cases hvg : v.gap with
   | nil => exact absurd hvg hg
   | cons c g' => exact ⟨c, g', rfl⟩
  obtain ⟨h1, h2⟩ := blank_ne (hv.gap c (by rw [hcg]; exact List.mem_cons_self))
  rw [flat_cons, hcg, List.cons_append] at hl ⊢
  simp only [List.length_cons, List.length_append] at hl
  rw [lexL, if_neg (by rw [adv_off, adv_off]; omega), if_neg h1, if_neg h2, if_neg hw.ne, lexL, if_neg (by rw [adv_off, adv_off]; omega), if_neg h1, if_neg h2, if_pos rfl]
theorem lexL_code : ∀ (l : List UInt8) (p : Ps) (w : List UInt8) (q : Ps), p.off ≤ 65536 → (∀ x ∈ lexL l p w q, x.code = 0) → (∀ c ∈ l, Blank c ∨ Ink c) ∧ p.off + l.length ≤ 65536
 | [], p, w, q, hp, _ => ⟨by simp, by simpa using hp⟩
 | c :: r, p, w, q, hp, h => by
  rw [lexL] at h
  split at h
  ·have := h _ List.mem_cons_self; simp at this
  rename_i h0
  split at h
  ·have := h _ List.mem_cons_self; simp at this
  rename_i h1
  have hp' : (p.next c).off ≤ 65536 := by rw [next_off]; omega
  split at h
  ·rename_i h2
   obtain ⟨a, b⟩ := lexL_code r _ _ _ hp' h
   rw [next_off] at b
   refine ⟨fun x hx => ?_, by rw [List.length_cons]; omega⟩
   rcases List.mem_cons.1 hx with rfl | hx
   ·exact .inr h2
   ·exact a x hx
  ·rename_i h2
   have h3 : Blank c := by
    unfold Blank
    unfold kindN at h1 h2 ⊢
    split at h1 <;> split at h2 <;> simp_all
   have key : (∀ x ∈ r, Blank x ∨ Ink x) ∧ (p.next c).off + r.length ≤ 65536 := by
    split at h
    ·exact lexL_code r _ _ _ hp' h
    ·exact lexL_code r _ _ _ hp' fun x hx => h x (List.mem_cons_of_mem _ hx)
   obtain ⟨a, b⟩ := key
   rw [next_off] at b
   refine ⟨fun x hx => ?_, by rw [List.length_cons]; omega⟩
   rcases List.mem_cons.1 hx with rfl | hx
   ·exact .inl h3
   ·exact a x hx
theorem words_of : ∀ (l : List UInt8), (∀ c ∈ l, Blank c ∨ Ink c) → ∃ ws tail, WsOk ws tail ∧ l = flat ws tail
 | [], _ => ⟨[], [], ⟨by simp, by simp, by simp⟩, rfl⟩
 | c :: r, h => by
  obtain ⟨ws, tail, hok, rfl⟩ := words_of r fun x hx => h x (List.mem_cons_of_mem _ hx)
  rcases h c List.mem_cons_self with hc | hc
  ·cases ws with
   | nil => exact ⟨[], c :: tail, ⟨by simp, by simp, fun x hx => by
     rcases List.mem_cons.1 hx with rfl | hx
     ·exact hc
     ·exact hok.tail x hx⟩, by simp [flat]⟩
   | cons w ws =>
    have hw := hok.ok w List.mem_cons_self
    refine ⟨⟨c :: w.gap, w.ink⟩ :: ws, tail, ⟨fun x hx => ?_, hok.gaps, hok.tail⟩, by simp [flat]⟩
    rcases List.mem_cons.1 hx with rfl | hx
    ·refine ⟨fun y hy => ?_, hw.ink, hw.ne⟩
     rcases List.mem_cons.1 hy with rfl | hy
     ·exact hc
     ·exact hw.gap y hy
    ·exact hok.ok x (List.mem_cons_of_mem _ hx)
  ·by_cases hg : ∃ w ws', ws = w :: ws' ∧ w.gap = []
   ·obtain ⟨w, ws', rfl, hg⟩ := hg
    have hw := hok.ok w List.mem_cons_self
    refine ⟨⟨[], c :: w.ink⟩ :: ws', tail, ⟨fun x hx => ?_, hok.gaps, hok.tail⟩, by simp [flat, hg]⟩
    rcases List.mem_cons.1 hx with rfl | hx
    ·refine ⟨by simp, fun y hy => ?_, by simp⟩
     rcases List.mem_cons.1 hy with rfl | hy
     ·exact hc
     ·exact hw.ink y hy
    ·exact hok.ok x (List.mem_cons_of_mem _ hx)
   ·refine ⟨⟨[], [c]⟩ :: ws, tail, ⟨fun x hx => ?_, fun x hx => ?_, hok.tail⟩, by simp [flat]⟩
    ·rcases List.mem_cons.1 hx with rfl | hx
     ·exact ⟨by simp, by simpa using hc, by simp⟩
     ·exact hok.ok x hx
    ·have hx' : x ∈ ws := hx
     cases ws with
     | nil => cases hx'
     | cons w ws' =>
      rcases List.mem_cons.1 hx' with rfl | hx'
      ·exact fun e => hg ⟨_, _, rfl, e⟩
      ·exact hok.gaps x hx'
def opn (x : It) : Bool := x.word.text.data.toList == [36, 40]
def scanStep (x : It) (s : List Tk × Option Tk) : Option (List Tk × Option Tk) :=
 if x.code ≠ 0 then none else match s.2 with
 | some o => if x.word.text.data.toList = [36, 41] then some (s.1, none) else if Lib.contains x.word.text.data.toList [36, 40] || Lib.contains x.word.text.data.toList [36, 41] then none else some (s.1, some o)
 | none => if x.word.text.data.toList = [36, 40] then some (s.1, some x.word) else if x.word.text.data.toList = [36, 41] then none else if s.1.length = 16384 then none else some (s.1 ++ [x.word], none)
def scanSt : List It → List Tk × Option Tk → Option (List Tk × Option Tk)
 | [], s => some s
 | x :: r, s => (scanStep x s).bind (scanSt r)
theorem scanSt_app : ∀ (a b : List It) (s : List Tk × Option Tk), scanSt (a ++ b) s = (scanSt a s).bind (scanSt b)
 | [], b, s => rfl
 | x :: a, b, s => by
  rw [List.cons_append, scanSt, scanSt]
  cases scanStep x s with
  | none => rfl
  | some s1 => exact scanSt_app a b s1
theorem scanGo_st : ∀ (l : List It) (out : List Tk) (op : Option Tk) (T : List Tk), scanGo l out op = (T, none) ↔ scanSt l (out, op) = some (T, none)
 | [], out, op, T => by
  unfold scanGo
  cases op with
  | none => simp [scanSt]
  | some o => simp [scanSt]
 | x :: r, out, op, T => by
  unfold scanGo
  rw [scanSt, scanStep]
  by_cases h0 : x.code ≠ 0
  ·rw [if_pos h0, if_pos h0]; simp
  ·rw [if_neg h0, if_neg h0]
   cases op with
   | some o =>
    dsimp only
    split
    ·exact scanGo_st r out none T
    ·split
     ·simp
     ·exact scanGo_st r out (some o) T
   | none =>
    dsimp only
    split
    ·exact scanGo_st r out (some x.word) T
    ·split
     ·simp
     ·split
      ·simp
      ·exact scanGo_st r (out ++ [x.word]) none T
theorem scanStep_out {x : It} {s s1 : List Tk × Option Tk} (h : scanStep x s = some s1) : s1.1 = s.1 ∨ (s.2 = none ∧ s1 = (s.1 ++ [x.word], none)) := by
 unfold scanStep at h
 split at h
 ·cases h
 ·split at h
  ·split at h
   ·cases h; exact .inl rfl
   ·split at h
    ·cases h
    ·cases h; exact .inl rfl
  ·rename_i hs
   split at h
   ·cases h; exact .inl rfl
   ·split at h
    ·cases h
    ·split at h
     ·cases h
     ·cases h; exact .inr ⟨hs, rfl⟩
theorem scanSt_pre : ∀ (l : List It) (s s1 : List Tk × Option Tk), scanSt l s = some s1 → ∃ T, s1.1 = s.1 ++ T
 | [], s, s1, h => by cases h; exact ⟨[], by simp⟩
 | x :: r, s, s1, h => by
  rw [scanSt] at h
  cases hx : scanStep x s with
  | none => rw [hx] at h; cases h
  | some s2 =>
   rw [hx] at h
   obtain ⟨T, hT⟩ := scanSt_pre r s2 s1 h
   rcases scanStep_out hx with h1 | ⟨-, h1⟩
   ·exact ⟨T, by rw [hT, h1]⟩
   ·exact ⟨x.word :: T, by rw [hT, h1]; simp⟩
theorem scanSt_split : ∀ (l : List It) (out : List Tk) (op : Option Tk) (T : List Tk) (s1 : List Tk × Option Tk) (t : Tk) (T2 : List Tk), scanSt l (out, op) = some s1 → s1.1 = out ++ T ++ t :: T2 →
  ∃ l1 x l2, l = l1 ++ x :: l2 ∧ scanSt l1 (out, op) = some (out ++ T, none) ∧ x.word = t ∧ scanStep x (out ++ T, none) = some (out ++ T ++ [t], none) ∧ scanSt l2 (out ++ T ++ [t], none) = some s1
 | [], out, op, T, s1, t, T2, h, e => by
  cases h
  have := congrArg List.length e
  simp at this
 | x :: r, out, op, T, s1, t, T2, h, e => by
  rw [scanSt] at h
  cases hx : scanStep x (out, op) with
  | none => rw [hx] at h; cases h
  | some s2 =>
   rw [hx] at h
   have h : scanSt r s2 = some s1 := h
   rcases scanStep_out hx with h1 | ⟨h0, h1⟩
   ·have e2 : s2 = (out, s2.2) := by rw [← show s2.1 = out from h1]
    rw [e2] at h
    obtain ⟨l1, y, l2, h2, h3, h4, h5, h6⟩ := scanSt_split r out s2.2 T s1 t T2 h e
    refine ⟨x :: l1, y, l2, by rw [h2]; rfl, ?_, h4, h5, h6⟩
    rw [scanSt, hx]
    show scanSt l1 s2 = _
    rw [e2]
    exact h3
   ·have h0 : op = none := h0
    have h1 : s2 = (out ++ [x.word], none) := h1
    cases T with
    | nil =>
     rw [h1] at h
     have hs := scanSt_pre r _ _ h
     obtain ⟨T3, hT3⟩ := hs
     have ht : x.word = t := by
      rw [hT3] at e
      simp at e
      exact e.1
     refine ⟨[], x, r, rfl, by rw [h0]; simp [scanSt], ht, ?_, ?_⟩
     ·rw [List.append_nil, ← ht, ← h1, ← hx, h0]
     ·rw [List.append_nil, ← ht]; exact h
    | cons u T =>
     rw [h1] at h
     obtain ⟨T3, hT3⟩ := scanSt_pre r _ _ h
     have ht : x.word = u := by
      rw [hT3] at e
      simp at e
      exact e.1
     obtain ⟨l1, y, l2, h2, h3, h4, h5, h6⟩ := scanSt_split r (out ++ [x.word]) none T s1 t T2 h (by rw [e, ht]; simp)
     have e3 : out ++ [x.word] ++ T = out ++ u :: T := by rw [ht]; simp
     rw [e3] at h3 h5 h6
     refine ⟨x :: l1, y, l2, by rw [h2]; rfl, ?_, h4, h5, h6⟩
     rw [scanSt, hx, h1]
     exact h3
def TkR (d : Nat) (t t' : Tk) : Prop := t'.text = t.text ∧ t'.at_.off + d = t.at_.off
def ItR (d : Nat) (x x' : It) : Prop := TkR d x.word x'.word ∧ x'.code = x.code
theorem toks_len : ∀ (p : Ps) (ws : List Wd), (toks p ws).length = ws.length
 | _, [] => rfl
 | p, w :: r => by rw [toks, List.length_cons, toks_len, List.length_cons]
theorem toks_app : ∀ (p : Ps) (a b : List Wd), toks p (a ++ b) = toks p a ++ toks (p.adv (flat a [])) b
 | p, [], b => rfl
 | p, w :: a, b => by
  rw [List.cons_append, toks, toks, toks_app, flat_cons, adv_app, adv_app]
  rfl
theorem toks_split {p : Ps} {ws : List Wd} {l1 : List It} {x : It} {l2 : List It} (h : toks p ws = l1 ++ x :: l2) : ∃ w1 w w2, ws = w1 ++ w :: w2 ∧ l1 = toks p w1 ∧ x = itOf w.ink ((p.adv (flat w1 [])).adv w.gap) ∧ l2 = toks (((p.adv (flat w1 [])).adv w.gap).adv w.ink) w2 := by
 have hl : l1.length < ws.length := by
  have := congrArg List.length h
  rw [toks_len] at this
  simp at this
  omega
 have hw : ws = ws.take l1.length ++ ws[l1.length] :: ws.drop (l1.length + 1) := by
  rw [← List.drop_eq_getElem_cons hl, List.take_append_drop]
 rw [hw, toks_app, toks] at h
 have h2 := List.append_inj h (by rw [toks_len, List.length_take]; omega)
 have h3 := List.cons.inj h2.2
 exact ⟨_, _, _, hw, h2.1.symm, h3.1.symm, h3.2.symm⟩
theorem toks_rel (d : Nat) : ∀ (ws : List Wd) (p p' : Ps), p'.off + d = p.off → All2 (ItR d) (toks p ws) (toks p' ws)
 | [], _, _, _ => trivial
 | w :: r, p, p', h => ⟨⟨⟨rfl, by show (p'.adv w.gap).off + d = (p.adv w.gap).off; rw [adv_off, adv_off]; omega⟩, rfl⟩, toks_rel d r _ _ (by rw [adv_off, adv_off, adv_off, adv_off]; omega)⟩
def OpR : Option Tk → Option Tk → Prop
 | none, none => True
 | some a, some b => True
 | _, _ => False
theorem scanStep_rel {d : Nat} {x x' : It} (hx : ItR d x x') {out out' : List Tk} {op op' : Option Tk} (ho : OpR op op') (hl : out'.length ≤ out.length) (hm : out.length ≤ 16384) {s1 : List Tk × Option Tk} (h : scanStep x (out, op) = some s1) :
  ∃ T T' op1', s1.1 = out ++ T ∧ scanStep x' (out', op') = some (out' ++ T', op1') ∧ All2 (TkR d) T T' ∧ OpR s1.2 op1' ∧ s1.1.length ≤ 16384 := by
 obtain ⟨⟨ht, hoff⟩, hc⟩ := hx
 unfold scanStep at h ⊢
 rw [hc, ht]
 split at h
 ·cases h
 rename_i h0
 rw [if_neg h0]
 cases op with
 | some o => cases op' with
  | none => exact ho.elim
  | some o' =>
   dsimp only at h ⊢
   split at h
   ·rename_i h1
    rw [if_pos h1]
    cases h
    exact ⟨[], [], none, by simp, by simp, trivial, trivial, hm⟩
   ·rename_i h1
    rw [if_neg h1]
    split at h
    ·cases h
    ·rename_i h2
     rw [if_neg h2]
     cases h
     exact ⟨[], [], some o', by simp, by simp, trivial, trivial, hm⟩
 | none => cases op' with
  | some o' => exact ho.elim
  | none =>
   dsimp only at h ⊢
   split at h
   ·rename_i h1
    rw [if_pos h1]
    cases h
    exact ⟨[], [], some x'.word, by simp, by simp, trivial, trivial, hm⟩
   ·rename_i h1
    rw [if_neg h1]
    split at h
    ·cases h
    ·rename_i h2
     rw [if_neg h2]
     split at h
     ·cases h
     ·rename_i h3
      rw [if_neg (by omega)]
      cases h
      exact ⟨[x.word], [x'.word], none, rfl, rfl, ⟨⟨ht, hoff⟩, trivial⟩, trivial, by simp; omega⟩
theorem scanSt_rel {d : Nat} : ∀ (l l' : List It), All2 (ItR d) l l' → ∀ {out out' : List Tk} {op op' : Option Tk}, OpR op op' → out'.length ≤ out.length → out.length ≤ 16384 → ∀ {s1 : List Tk × Option Tk}, scanSt l (out, op) = some s1 →
  ∃ T T' op1', s1.1 = out ++ T ∧ scanSt l' (out', op') = some (out' ++ T', op1') ∧ All2 (TkR d) T T' ∧ OpR s1.2 op1' ∧ s1.1.length ≤ 16384
 | [], [], _, out, out', op, op', ho, hl, hm, s1, h => by
  cases h
  exact ⟨[], [], op', by simp, by simp [scanSt], trivial, ho, hm⟩
 | x :: l, x' :: l', hr, out, out', op, op', ho, hl, hm, s1, h => by
  rw [scanSt] at h
  cases hx : scanStep x (out, op) with
  | none => rw [hx] at h; cases h
  | some s2 =>
   rw [hx] at h
   have h : scanSt l s2 = some s1 := h
   obtain ⟨T, T', op1, e1, e2, e3, e4, e5⟩ := scanStep_rel hr.1 ho hl hm hx
   have es : s2 = (out ++ T, s2.2) := by rw [← e1]
   rw [es] at h
   have hlen := e3.len
   have hl2 : (out' ++ T').length ≤ (out ++ T).length := by simp; omega
   obtain ⟨U, U', op2, f1, f2, f3, f4, f5⟩ := scanSt_rel l l' hr.2 e4 hl2 (by rw [← e1]; exact e5) h
   refine ⟨T ++ U, T' ++ U', op2, by rw [f1]; simp, ?_, e3.append f3, f4, f5⟩
   rw [scanSt, e2]
   show scanSt l' (out' ++ T', op1) = _
   rw [f2]
   simp
 | [], _ :: _, hr, _, _, _, _, _, _, _, _, _ => hr.elim
 | _ :: _, [], hr, _, _, _, _, _, _, _, _, _ => hr.elim
theorem scanSt_code : ∀ (l : List It) (s s1 : List Tk × Option Tk), scanSt l s = some s1 → ∀ x ∈ l, x.code = 0
 | [], _, _, _ => by simp
 | x :: r, s, s1, h => by
  rw [scanSt] at h
  cases hx : scanStep x s with
  | none => rw [hx] at h; cases h
  | some s2 =>
   rw [hx] at h
   intro y hy
   rcases List.mem_cons.1 hy with rfl | hy
   ·unfold scanStep at hx
    split at hx
    ·cases hx
    ·rename_i h0; simpa using h0
   ·exact scanSt_code r s2 s1 h y hy
theorem scan_words {t : ByteArray} {T : List Tk} (h : scanOf t = (T, none)) : ∃ ws tail, WsOk ws tail ∧ t.data.toList = flat ws tail ∧ (flat ws tail).length ≤ 65536 ∧ scanSt (toks ⟨0, 1, 1⟩ ws) ([], none) = some (T, none) := by
 unfold scanOf at h
 have h1 := (scanGo_st _ _ _ _).1 h
 have h2 := scanSt_code _ _ _ h1
 rw [itemsOf_lexL] at h1 h2
 obtain ⟨h3, h4⟩ := lexL_code _ _ _ _ (by decide) h2
 obtain ⟨ws, tail, hok, hf⟩ := words_of _ h3
 rw [hf] at h1 h4
 have h4 : (flat ws tail).length ≤ 65536 := by simpa using h4
 rw [lex_flat ws tail _ _ hok (by simpa using h4)] at h1
 exact ⟨ws, tail, hok, hf, h4, h1⟩
theorem scan_of_words {t : ByteArray} {T : List Tk} {ws : List Wd} {tail : List UInt8} (hok : WsOk ws tail) (hf : t.data.toList = flat ws tail) (hl : (flat ws tail).length ≤ 65536) (h : scanSt (toks ⟨0, 1, 1⟩ ws) ([], none) = some (T, none)) : scanOf t = (T, none) := by
 unfold scanOf
 rw [scanGo_st, itemsOf_lexL, hf, lex_flat ws tail _ _ hok (by simpa using hl)]
 exact h
theorem toks_gap (p : Ps) (g : List UInt8) (w : Wd) (r : List Wd) : toks p (⟨g ++ w.gap, w.ink⟩ :: r) = toks (p.adv g) (w :: r) := by
 rw [toks, toks, adv_app]
theorem toks_in : ∀ (ws : List Wd) (p : Ps), ∀ x ∈ toks p ws, p.off ≤ x.word.at_.off ∧ x.word.at_.off + x.word.text.size ≤ p.off + (flat ws []).length
 | [], p, x, hx => by cases hx
 | w :: r, p, x, hx => by
  have e : (flat (w :: r) []).length = w.gap.length + (w.ink.length + (flat r []).length) := by rw [flat_cons]; simp
  rw [e]
  rcases List.mem_cons.1 hx with rfl | hx
  ·have h1 : (itOf w.ink (p.adv w.gap)).word.at_.off = p.off + w.gap.length := adv_off _ _
   have h2 : (itOf w.ink (p.adv w.gap)).word.text.size = w.ink.length := by show (⟨w.ink.toArray⟩ : ByteArray).size = _; rfl
   rw [h1, h2]
   omega
  ·obtain ⟨h1, h2⟩ := toks_in r _ x hx
   rw [adv_off, adv_off] at h1 h2
   omega
theorem scanSt_from : ∀ (l : List It) (s s1 : List Tk × Option Tk) (T : List Tk), scanSt l s = some s1 → s1.1 = s.1 ++ T → ∀ t ∈ T, ∃ x ∈ l, x.word = t
 | [], s, s1, T, h, e, t, ht => by
  cases h
  have : T = [] := by simpa using e
  subst this
  cases ht
 | x :: r, s, s1, T, h, e, t, ht => by
  rw [scanSt] at h
  cases hx : scanStep x s with
  | none => rw [hx] at h; cases h
  | some s2 =>
   rw [hx] at h
   rcases scanStep_out hx with h1 | ⟨-, h1⟩
   ·obtain ⟨y, hy, hw⟩ := scanSt_from r s2 s1 T h (by rw [h1]; exact e) t ht
    exact ⟨y, List.mem_cons_of_mem _ hy, hw⟩
   ·obtain ⟨T3, hT3⟩ := scanSt_pre r s2 s1 h
    have e2 : T = x.word :: T3 := by
     rw [hT3, h1] at e
     simpa using e.symm
    subst e2
    rcases List.mem_cons.1 ht with rfl | ht
    ·exact ⟨x, List.mem_cons_self, rfl⟩
    ·obtain ⟨y, hy, hw⟩ := scanSt_from r s2 s1 T3 h hT3 t ht
     exact ⟨y, List.mem_cons_of_mem _ hy, hw⟩
def Tk.fin (t : Tk) : Nat := t.at_.off + t.text.size
def cutAt (t : ByteArray) (a b : Nat) : ByteArray := ⟨(t.data.toList.take a ++ t.data.toList.drop b).toArray⟩
theorem cut_scan {t : ByteArray} {TA TS TB : List Tk} {x y : Tk} (h : scanOf t = (TA ++ TS ++ TB, none)) (hx : TS.head? = some x) (hy : TS.getLast? = some y) :
  x.at_.off ≤ y.fin ∧ y.fin ≤ t.size ∧ (∀ z ∈ TA, z.fin ≤ x.at_.off) ∧ (∀ z ∈ TB, y.fin ≤ z.at_.off) ∧ ∃ TB', scanOf (cutAt t x.at_.off y.fin) = (TA ++ TB', none) ∧ All2 (TkR (y.fin - x.at_.off)) TB TB' := by
 obtain ⟨ws, tail, hok, hf, hl, hs⟩ := scan_words h
 obtain ⟨TI, rfl⟩ : ∃ TI, TS = TI ++ [y] := ⟨TS.dropLast, by
  have := List.getLast?_eq_some_iff.1 hy
  obtain ⟨l, rfl⟩ := this
  simp⟩
 obtain ⟨TR, hTR⟩ : ∃ TR, TI ++ [y] = x :: TR := by
  cases hc : TI ++ [y] with
  | nil => rw [hc] at hx; cases hx
  | cons u r => rw [hc] at hx; cases hx; exact ⟨r, rfl⟩
 obtain ⟨m1, iy, m2, e1, e2, e3, e4, e5⟩ := scanSt_split _ [] none (TA ++ TI) _ y TB hs (by simp)
 simp only [List.nil_append] at e2 e4 e5
 obtain ⟨v1, wy, v2, f1, f2, f3, f4⟩ := toks_split e1
 have hs2 : scanSt (toks ⟨0, 1, 1⟩ (v1 ++ [wy])) ([], none) = some (TA ++ TI ++ [y], none) := by
  rw [toks_app, scanSt_app, ← f2, e2]
  show scanSt (toks _ [wy]) (TA ++ TI, none) = _
  rw [toks, toks, ← f3, scanSt, e4]
  rfl
 obtain ⟨l1, ix, l2, g1, g2, g3, g4, g5⟩ := scanSt_split _ [] none TA _ x TR hs2 (by rw [List.append_assoc, hTR]; simp)
 simp only [List.nil_append] at g2
 obtain ⟨w1, wx, w2, k1, k2, k3, k4⟩ := toks_split g1
 have hws : ws = w1 ++ wx :: (w2 ++ v2) := by
  rw [f1, show v1 ++ wy :: v2 = (v1 ++ [wy]) ++ v2 by simp, k1]
  simp
 have hxo : x.at_.off = (flat w1 []).length + wx.gap.length := by
  rw [← g3, k3]
  show (((⟨0, 1, 1⟩ : Ps).adv (flat w1 [])).adv wx.gap).off = _
  rw [adv_off, adv_off]
  simp
 have hyo : y.fin = (flat (v1 ++ [wy]) []).length := by
  rw [← e3, f3]
  show (((⟨0, 1, 1⟩ : Ps).adv (flat v1 [])).adv wy.gap).off + (⟨wy.ink.toArray⟩ : ByteArray).size = _
  rw [adv_off, adv_off, flat_app, flat_cons]
  show 0 + _ + _ + wy.ink.length = _
  have : ∀ (a : List Wd) (r : List UInt8), (flat a r).length = (flat a []).length + r.length := fun a r => by simp [flat]
  rw [this v1 (wy.gap ++ _)]
  simp [flat]
  omega
 have hfl : ∀ (a : List Wd) (r : List UInt8), flat a r = flat a [] ++ r := fun a r => by simp [flat]
 have hyo2 : y.fin = (flat w1 []).length + wx.gap.length + (wx.ink.length + (flat w2 []).length) := by
  rw [hyo, k1, flat_app, flat_cons, hfl w1]
  simp
  omega
 have hbytes : t.data.toList = (flat w1 [] ++ wx.gap) ++ ((wx.ink ++ flat w2 []) ++ flat v2 tail) := by
  rw [hf, hws, flat_app, flat_cons, flat_app, hfl w1, hfl w2]
  simp
 have hsz : t.size = (flat w1 []).length + wx.gap.length + (wx.ink.length + (flat w2 []).length) + (flat v2 tail).length := by
  rw [← ba_size, hbytes]
  simp
  omega
 have hcut : (cutAt t x.at_.off y.fin).data.toList = (flat w1 [] ++ wx.gap) ++ flat v2 tail := by
  have h1 : t.data.toList.take x.at_.off = flat w1 [] ++ wx.gap := by
   rw [hbytes, hxo]
   exact List.take_left' (by simp)
  have h2 : t.data.toList.drop y.fin = flat v2 tail := by
   rw [hbytes, ← List.append_assoc]
   exact List.drop_left' (by rw [hyo2]; simp; omega)
  unfold cutAt
  rw [h1, h2]
 refine ⟨by omega, by omega, fun z hz => ?_, fun z hz => ?_, ?_⟩
 ·obtain ⟨i, hi, rfl⟩ := scanSt_from l1 _ _ TA g2 (by simp) z hz
  rw [k2] at hi
  have := (toks_in _ _ i hi).2
  unfold Tk.fin
  have h0 : (⟨0, 1, 1⟩ : Ps).off = 0 := rfl
  omega
 ·obtain ⟨i, hi, rfl⟩ := scanSt_from m2 _ _ TB e5 (by simp) z hz
  rw [f4] at hi
  have h1 := (toks_in _ _ i hi).1
  rw [adv_off, adv_off, adv_off] at h1
  have h0 : (⟨0, 1, 1⟩ : Ps).off = 0 := rfl
  have h2 : (flat (v1 ++ [wy]) []).length = (flat v1 []).length + wy.gap.length + wy.ink.length := by rw [flat_app, flat_cons, hfl v1]; simp [flat]; omega
  omega
 ·-- the words that are left
  have hall : ∀ w ∈ ws, w.Ok := hok.ok
  have hgap : ∀ (a : List Wd) (w : Wd) (b : List Wd), a ≠ [] → ws = a ++ w :: b → w.gap ≠ [] := fun a w b ha e => hok.gaps w (by
   rw [e]
   cases a with
   | nil => exact absurd rfl ha
   | cons u a => simp)
  have h5 : scanSt m2 (TA ++ (TI ++ [y]), none) = some (TA ++ (TI ++ [y]) ++ TB, none) := by
   rw [← List.append_assoc]
   simpa using e5
  have hm : (TA ++ (TI ++ [y])).length ≤ 16384 := by
   have := scan_len t
   rw [h] at this
   simp at this ⊢
   omega
  have hrel : All2 (ItR (y.fin - x.at_.off)) m2 (toks (((⟨0, 1, 1⟩ : Ps).adv (flat w1 [])).adv wx.gap) v2) := by
   rw [f4]
   refine toks_rel _ v2 _ _ ?_
   rw [adv_off, adv_off, adv_off, adv_off, adv_off]
   have h0 : (⟨0, 1, 1⟩ : Ps).off = 0 := rfl
   have h2 : (flat (v1 ++ [wy]) []).length = (flat v1 []).length + wy.gap.length + wy.ink.length := by rw [flat_app, flat_cons, hfl v1]; simp [flat]; omega
   omega
  obtain ⟨U, U', op1, p1, p2, p3, p4, -⟩ := scanSt_rel _ _ hrel (op := none) (op' := none) (out' := TA) trivial (by simp) hm h5
  have hU : U = TB := by simpa using p1.symm
  subst hU
  have hop : op1 = none := by cases op1 with
   | none => rfl
   | some o => exact p4.elim
  subst hop
  refine ⟨U', ?_, p3⟩
  have hsA : scanSt (toks ⟨0, 1, 1⟩ w1) ([], none) = some (TA, none) := by rw [← k2]; exact g2
  cases hv : v2 with
  | nil =>
   rw [hv] at p2 hcut
   refine scan_of_words (ws := w1) (tail := wx.gap ++ tail) ⟨fun w hw => hall w (by rw [hws]; simp [hw]), fun w hw => hok.gaps w (by
     rw [hws]
     cases w1 with
     | nil => cases hw
     | cons u a => simp at hw ⊢; exact .inl hw), fun c hc => ?_⟩ ?_ ?_ ?_
   ·rcases List.mem_append.1 hc with hc | hc
    ·exact (hall wx (by rw [hws]; simp)).gap c hc
    ·exact hok.tail c hc
   ·rw [hcut, hfl w1 (wx.gap ++ tail)]; simp [flat]
   ·have := hl
    rw [hws, flat_app, flat_cons, hv] at this
    rw [hfl w1] at this ⊢
    simp [flat] at this ⊢
    omega
   ·rw [hsA]
    have : scanSt (toks (((⟨0, 1, 1⟩ : Ps).adv (flat w1 [])).adv wx.gap) []) (TA, none) = some (TA ++ U', none) := p2
    simpa [toks, scanSt] using this
  | cons v v2' =>
   rw [hv] at p2 hcut
   have hvg : v.gap ≠ [] := hgap (w1 ++ wx :: w2) v v2' (by simp) (by rw [hws, hv]; simp)
   refine scan_of_words (ws := w1 ++ ⟨wx.gap ++ v.gap, v.ink⟩ :: v2') (tail := tail) ⟨fun w hw => ?_, fun w hw => ?_, hok.tail⟩ ?_ ?_ ?_
   ·rcases List.mem_append.1 hw with hw | hw
    ·exact hall w (by rw [hws]; simp [hw])
    ·rcases List.mem_cons.1 hw with rfl | hw
     ·have ho := hall v (by rw [hws, hv]; simp)
      refine ⟨fun c hc => ?_, ho.ink, ho.ne⟩
      rcases List.mem_append.1 hc with hc | hc
      ·exact (hall wx (by rw [hws]; simp)).gap c hc
      ·exact ho.gap c hc
     ·exact hall w (by rw [hws, hv]; simp [hw])
   ·have hvm : ∀ u ∈ v2', u.gap ≠ [] := fun u hu => hok.gaps u (by
     rw [hws, hv]
     cases w1 with
     | nil =>
      show u ∈ w2 ++ v :: v2'
      exact List.mem_append_right _ (List.mem_cons_of_mem _ hu)
     | cons z a =>
      show u ∈ a ++ wx :: (w2 ++ v :: v2')
      exact List.mem_append_right _ (List.mem_cons_of_mem _ (List.mem_append_right _ (List.mem_cons_of_mem _ hu))))
    cases w1 with
    | nil => exact hvm w hw
    | cons u a =>
     have hw : w ∈ a ++ ⟨wx.gap ++ v.gap, v.ink⟩ :: v2' := hw
     rcases List.mem_append.1 hw with hw | hw
     ·exact hok.gaps w (by rw [hws]; simp [hw])
     ·rcases List.mem_cons.1 hw with rfl | hw
      ·simp [hvg]
      ·exact hvm w hw
   ·rw [hcut, flat_app, hfl w1 (flat _ _), flat_cons, flat_cons]; simp
   ·have := hl
    rw [hws, flat_app, flat_cons, flat_app, hv, flat_cons, hfl w1, hfl w2] at this
    rw [flat_app, flat_cons, hfl w1]
    simp at this ⊢
    omega
   ·rw [toks_app, scanSt_app, hsA, toks_gap]
    exact p2
end Go.Proofs.YtdhkmfpfbjcdiaaGreatDoor
