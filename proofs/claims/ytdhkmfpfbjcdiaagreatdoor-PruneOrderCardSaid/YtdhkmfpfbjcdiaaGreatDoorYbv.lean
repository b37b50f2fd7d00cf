/- lemmalaw texts, part 48. -/
import Derived.Test.YtdhkmfpfbjcdiaaGreatDoorYbu
set_option maxRecDepth 100000
set_option linter.unusedVariables false
set_option linter.unusedSimpArgs false
set_option maxHeartbeats 32000000
namespace Go.Proofs.YtdhkmfpfbjcdiaaGreatDoor
def readSt : List Tk → Rd → Option Rd
 | [], R => some R
 | t :: l, R => if (R.step t).1 = 0 then readSt l (R.step t).2 else none
theorem readGo_st : ∀ (l : List Tk) (R R' : Rd), readGo l R = (R', none) ↔ readSt l R = some R'
 | [], R, R' => by simp [readGo, readSt]
 | t :: l, R, R' => by
  rw [readGo, readSt]
  split
  ·exact readGo_st l _ R'
  ·simp
theorem readSt_app : ∀ (a b : List Tk) (R : Rd), readSt (a ++ b) R = (readSt a R).bind (readSt b)
 | [], b, R => rfl
 | t :: a, b, R => by
  rw [List.cons_append, readSt, readSt]
  split
  ·exact readSt_app a b _
  ·rfl
structure Rd.Idle (R : Rd) : Prop where
 now : R.now = none
 label : R.label = none
inductive Steps (R : Rd) (t : Tk) : Rd → Prop
 | label : R.now = none → R.label = none → Steps R t { R with label := some t }
 | block (k : Nat) : R.now = none → formLab k = R.label.isSome → Steps R t { R with label := none, out := R.out ++ [⟨k + 1, R.label.getD Tk.none, t, false, [], [], t⟩] }
 | begin_ (k : Nat) (p : Bool) : R.now = none → formLab k = R.label.isSome → Steps R t { R with label := none, now := some ⟨k + 1, R.label.getD Tk.none, t, false, [], [], Tk.none⟩, what := k, proves := p }
 | more (s s' : St) (p : Bool) : R.now = some s → s'.label = s.label → s'.kind = s.kind → Steps R t { R with now := some s', proves := p }
 | done (s : St) : R.now = some s → Steps R t { R with now := none, out := R.out ++ [{ s with end_ := t }] }
theorem step_cases {R : Rd} {t : Tk} (h : (R.step t).1 = 0) : Steps R t (R.step t).2 := by
 unfold Rd.step at h ⊢
 split at h
 ·rename_i hn
  unfold Rd.between at h ⊢
  split at h
  ·rename_i hp
   rw [if_pos hp]
   split at h
   ·simp at h
   ·rename_i hl
    rw [if_neg hl]
    exact .label hn (by cases hR : R.label with | none => rfl | some x => rw [hR] at hl; simp at hl)
  ·rename_i hp
   rw [if_neg hp]
   dsimp only at h ⊢
   split at h
   ·simp at h
   ·rename_i h9
    rw [if_neg h9]
    split at h
    ·simp at h
    ·rename_i hlab
     rw [if_neg hlab]
     have hlab' : formLab (keyN t.text) = R.label.isSome := by simpa using hlab
     split
     ·rename_i h78
      have := Steps.block (t := t) (keyN t.text) hn hlab'
      rw [hn]
      rw [hn] at this
      exact this
     ·exact .begin_ (keyN t.text) false hn hlab'
 ·rename_i s hn
  unfold Rd.within at h ⊢
  split at h
  ·rename_i hp
   rw [if_pos hp]
   split at h
   ·rename_i h1
    rw [if_pos h1]
    exact .more s { s with proof := s.proof ++ [t] } R.proves hn rfl rfl
   ·rename_i h1
    rw [if_neg h1]
    split at h
    ·simp at h
    ·rename_i h2
     rw [if_neg h2]
     exact .more s { s with words := s.words ++ [t] } R.proves hn rfl rfl
  ·rename_i hp
   rw [if_neg hp]
   split at h
   ·rename_i h1
    rw [if_pos h1]
    split at h
    ·simp at h
    ·rename_i h2
     rw [if_neg h2]
     exact .more s { s with proving := true } true hn rfl rfl
   ·rename_i h1
    rw [if_neg h1]
    split at h
    ·rename_i h2
     rw [if_pos h2]
     split at h
     ·simp at h
     ·rename_i h3
      rw [if_neg h3]
      exact .done s hn
    ·simp at h
theorem read_out : ∀ (T : List Tk) (R R' : Rd), readSt T R = some R' → ∃ X, R'.out = R.out ++ X
 | [], R, R', h => by cases h; exact ⟨[], by simp⟩
 | t :: T, R, R', h => by
  rw [readSt] at h
  split at h
  ·rename_i h0
   obtain ⟨X, hX⟩ := read_out T _ R' h
   have hs := step_cases h0
   generalize (R.step t).2 = R2 at hs hX
   cases hs with
   | label h1 h2 => exact ⟨X, hX⟩
   | block k h1 h2 => exact ⟨_, hX.trans (List.append_assoc _ _ _)⟩
   | begin_ k p h1 h2 => exact ⟨X, hX⟩
   | more s s' p h1 h2 h3 => exact ⟨X, hX⟩
   | done s h1 => exact ⟨_, hX.trans (List.append_assoc _ _ _)⟩
  ·cases h
theorem read_first : ∀ (T : List Tk) (R R' : Rd) (s : St) (ss : List St), readSt T R = some R' → R'.out = R.out ++ s :: ss → (R.now.isSome = true → R.label = none) →
  ∃ T1 T2 R1, T = T1 ++ s.end_ :: T2 ∧ readSt (T1 ++ [s.end_]) R = some R1 ∧ R1.Idle ∧ R1.out = R.out ++ [s] ∧ readSt T2 R1 = some R' ∧
   (R.now = none → R.label = none → formLab (s.kind - 1) = true → (T1 ++ [s.end_]).head? = some s.label) ∧ (R.now = none → ∀ t, R.label = some t → s.label = t) ∧ (∀ s0, R.now = some s0 → s.label = s0.label ∧ s.kind = s0.kind)
 | [], R, R', s, ss, h, e, hi => by
  cases h
  have := congrArg List.length e
  simp at this
 | t :: T, R, R', s, ss, h, e, hi => by
  rw [readSt] at h
  split at h
  ·rename_i h0
   have hs := step_cases h0
   have hone : readSt [t] R = some (R.step t).2 := by rw [readSt, if_pos h0]; rfl
   have hcons : ∀ l, readSt (t :: l) R = readSt l (R.step t).2 := fun l => by rw [readSt, if_pos h0]
   generalize hR2 : (R.step t).2 = R2 at hs hone hcons h
   cases hs with
   | label h1 h2 =>
    obtain ⟨T1, T2, R1, a1, a2, a3, a4, a5, a6, a7, a8⟩ := read_first T _ R' s ss h e (fun hx => by dsimp only at hx; rw [h1] at hx; cases hx)
    refine ⟨t :: T1, T2, R1, by rw [a1]; rfl, by rw [List.cons_append, hcons]; exact a2, a3, a4, a5, fun _ _ _ => ?_, fun _ u hu => (by rw [h2] at hu; cases hu), fun s0 hs0 => (by rw [h1] at hs0; cases hs0)⟩
    rw [a7 h1 t rfl]
    rfl
   | block k h1 h2 =>
    obtain ⟨X, hX⟩ := read_out T _ R' h
    dsimp only at hX
    rw [e, List.append_assoc] at hX
    have hX2 := List.append_cancel_left hX
    rw [List.singleton_append] at hX2
    obtain ⟨hs1, hs2⟩ := List.cons.inj hX2
    subst hs1
    refine ⟨[], T, _, rfl, hone, ⟨h1, rfl⟩, rfl, h, fun _ hl hf => ?_, fun _ u hu => (by dsimp only; rw [hu]; rfl), fun s0 hs0 => (by rw [h1] at hs0; cases hs0)⟩
    dsimp only at hf
    rw [Nat.add_sub_cancel, h2, hl] at hf
    cases hf
   | begin_ k p h1 h2 =>
    obtain ⟨T1, T2, R1, a1, a2, a3, a4, a5, a6, a7, a8⟩ := read_first T _ R' s ss h e (fun _ => rfl)
    have h8 := a8 _ rfl
    dsimp only at h8
    refine ⟨t :: T1, T2, R1, by rw [a1]; rfl, by rw [List.cons_append, hcons]; exact a2, a3, a4, a5, fun _ hl hf => ?_, fun _ u hu => (by rw [h8.1, hu]; rfl), fun s0 hs0 => (by rw [h1] at hs0; cases hs0)⟩
    rw [h8.2, Nat.add_sub_cancel, h2, hl] at hf
    cases hf
   | more s1 s' p h1 h2 h3 =>
    obtain ⟨T1, T2, R1, a1, a2, a3, a4, a5, a6, a7, a8⟩ := read_first T _ R' s ss h e (fun _ => hi (by rw [h1]; rfl))
    have h8 := a8 _ rfl
    refine ⟨t :: T1, T2, R1, by rw [a1]; rfl, by rw [List.cons_append, hcons]; exact a2, a3, a4, a5, fun hn => (by rw [h1] at hn; cases hn), fun hn => (by rw [h1] at hn; cases hn), fun s0 hs0 => ?_⟩
    rw [h1] at hs0
    cases hs0
    exact ⟨h8.1.trans h2, h8.2.trans h3⟩
   | done s1 h1 =>
    obtain ⟨X, hX⟩ := read_out T _ R' h
    dsimp only at hX
    rw [e, List.append_assoc] at hX
    have hX2 := List.append_cancel_left hX
    rw [List.singleton_append] at hX2
    obtain ⟨hs1, hs2⟩ := List.cons.inj hX2
    subst hs1
    refine ⟨[], T, _, rfl, hone, ⟨rfl, hi (by rw [h1]; rfl)⟩, rfl, h, fun hn => (by rw [h1] at hn; cases hn), fun hn => (by rw [h1] at hn; cases hn), fun s0 hs0 => ?_⟩
    rw [h1] at hs0
    cases hs0
    exact ⟨rfl, rfl⟩
  ·cases h
theorem read_nth : ∀ (n : Nat) (T : List Tk) (R R' : Rd) (ss : List St), readSt T R = some R' → R.Idle → R'.out = R.out ++ ss → ∀ (hn : n < ss.length),
  ∃ TA TI TB RA RS, T = TA ++ (TI ++ [ss[n].end_]) ++ TB ∧ readSt TA R = some RA ∧ RA.Idle ∧ RA.out = R.out ++ ss.take n ∧ readSt (TI ++ [ss[n].end_]) RA = some RS ∧ RS.Idle ∧ RS.out = RA.out ++ [ss[n]] ∧ readSt TB RS = some R' ∧ (formLab (ss[n].kind - 1) = true → (TI ++ [ss[n].end_]).head? = some ss[n].label)
 | 0, T, R, R', s :: ss, h, hi, e, hn => by
  obtain ⟨T1, T2, R1, a1, a2, a3, a4, a5, a6, -, -⟩ := read_first T R R' s ss h e (fun _ => hi.label)
  exact ⟨[], T1, T2, R, R1, by rw [a1]; simp, rfl, hi, by simp, a2, a3, a4, a5, a6 hi.now hi.label⟩
 | n + 1, T, R, R', s :: ss, h, hi, e, hn => by
  obtain ⟨T1, T2, R1, a1, a2, a3, a4, a5, a6, -, -⟩ := read_first T R R' s ss h e (fun _ => hi.label)
  obtain ⟨TA, TI, TB, RA, RS, b1, b2, b3, b4, b5, b6, b7, b8, b9⟩ := read_nth n T2 R1 R' ss a5 a3 (by rw [a4, e]; simp) (by simpa using hn)
  refine ⟨(T1 ++ [s.end_]) ++ TA, TI, TB, RA, RS, by rw [a1, b1]; simp, by rw [readSt_app, a2]; exact b2, b3, by rw [b4, a4]; simp, b5, b6, b7, b8, b9⟩
 | 0, T, R, R', [], h, hi, e, hn => absurd hn (by simp)
 | n + 1, T, R, R', [], h, hi, e, hn => absurd hn (by simp)
def TkS (d : Nat) (t t' : Tk) : Prop := TkR d t t' ∨ (t = Tk.none ∧ t' = Tk.none)
theorem TkS.text {d : Nat} {t t' : Tk} (h : TkS d t t') : t'.text = t.text := by
 rcases h with h | ⟨h1, h2⟩
 ·exact h.1
 ·rw [h1, h2]
structure StR (d : Nat) (s s' : St) : Prop where
 kind : s'.kind = s.kind
 label : TkS d s.label s'.label
 key : TkR d s.key s'.key
 proving : s'.proving = s.proving
 words : All2 (TkR d) s.words s'.words
 proof : All2 (TkR d) s.proof s'.proof
 end_ : TkS d s.end_ s'.end_
def Opt2 {α : Type} (P : α → α → Prop) : Option α → Option α → Prop
 | none, none => True
 | some a, some b => P a b
 | _, _ => False
structure RdX (d : Nat) (o o' : List St) (R R' : Rd) : Prop where
 out : ∃ X X', R.out = o ++ X ∧ R'.out = o' ++ X' ∧ All2 (StR d) X X'
 label : Opt2 (TkR d) R.label R'.label
 now : Opt2 (StR d) R.now R'.now
 what : R.now.isSome = true → R'.what = R.what ∧ R'.proves = R.proves
theorem Opt2.some_ {α : Type} {P : α → α → Prop} {a b : Option α} (h : Opt2 P a b) : b.isSome = a.isSome := by
 cases a <;> cases b <;> first | rfl | exact h.elim
theorem Opt2.getD {d : Nat} {a b : Option Tk} (h : Opt2 (TkR d) a b) : TkS d (a.getD Tk.none) (b.getD Tk.none) := by
 cases a with
 | none => cases b with
  | none => exact .inr ⟨rfl, rfl⟩
  | some b => exact h.elim
 | some a => cases b with
  | none => exact h.elim
  | some b => exact .inl h
theorem RdX.step {d : Nat} {o o' : List St} {R R' : Rd} (h : RdX d o o' R R') {t t' : Tk} (ht : TkR d t t') (h0 : (R.step t).1 = 0) : (R'.step t').1 = 0 ∧ RdX d o o' (R.step t).2 (R'.step t').2 := by
 obtain ⟨X, X', hX, hX', hXX⟩ := h.out
 have hpl : plainT t' = plainT t := by unfold plainT; rw [ht.1]
 have hlab := h.label.some_
 unfold Rd.step at h0 ⊢
 cases hn : R.now with
 | none =>
  have hn' : R'.now = none := by
   have := h.now; rw [hn] at this
   cases hc : R'.now with
   | none => rfl
   | some s => rw [hc] at this; exact this.elim
  rw [hn] at h0
  rw [hn']
  dsimp only at h0 ⊢
  unfold Rd.between at h0 ⊢
  rw [hpl, ht.1, hlab]
  split at h0
  ·rename_i hp
   rw [if_pos hp, if_pos hp]
   split at h0
   ·simp at h0
   ·rename_i hl
    rw [if_neg hl, if_neg hl]
    exact ⟨rfl, ⟨X, X', hX, hX', hXX⟩, ht, h.now, h.what⟩
  ·rename_i hp
   rw [if_neg hp, if_neg hp]
   dsimp only at h0 ⊢
   split at h0
   ·simp at h0
   ·rename_i h9
    rw [if_neg h9, if_neg h9]
    split at h0
    ·simp at h0
    ·rename_i hfl
     rw [if_neg hfl, if_neg hfl]
     split
     ·rename_i h78
      have hnew : StR d ⟨keyN t.text + 1, R.label.getD Tk.none, t, false, [], [], t⟩ ⟨keyN t.text + 1, R'.label.getD Tk.none, t', false, [], [], t'⟩ := ⟨rfl, h.label.getD, ht, rfl, trivial, trivial, .inl ht⟩
      refine ⟨rfl, ⟨X ++ [⟨keyN t.text + 1, R.label.getD Tk.none, t, false, [], [], t⟩], X' ++ [⟨keyN t.text + 1, R'.label.getD Tk.none, t', false, [], [], t'⟩], by rw [hX, List.append_assoc], by rw [hX', List.append_assoc], hXX.snoc hnew⟩, trivial, h.now, h.what⟩
     ·exact ⟨rfl, ⟨X, X', hX, hX', hXX⟩, trivial, ⟨rfl, h.label.getD, ht, rfl, trivial, trivial, .inr ⟨rfl, rfl⟩⟩, fun _ => ⟨rfl, rfl⟩⟩
 | some s =>
  obtain ⟨s', hn', hs⟩ : ∃ s', R'.now = some s' ∧ StR d s s' := by
   have := h.now; rw [hn] at this
   cases hc : R'.now with
   | none => rw [hc] at this; exact this.elim
   | some s' => rw [hc] at this; exact ⟨s', rfl, this⟩
  obtain ⟨hw, hpv⟩ := h.what (by rw [hn]; rfl)
  have hwl : s'.words.length = s.words.length := hs.words.len
  rw [hn] at h0
  rw [hn']
  dsimp only at h0 ⊢
  unfold Rd.within at h0 ⊢
  rw [hpl, ht.1, hw, hpv, hwl]
  split at h0
  ·rename_i hp
   rw [if_pos hp, if_pos hp]
   split at h0
   ·rename_i h1
    rw [if_pos h1, if_pos h1]
    exact ⟨rfl, ⟨X, X', hX, hX', hXX⟩, h.label, ⟨hs.kind, hs.label, hs.key, hs.proving, hs.words, hs.proof.snoc ht, hs.end_⟩, fun _ => ⟨rfl, rfl⟩⟩
   ·rename_i h1
    rw [if_neg h1, if_neg h1]
    split at h0
    ·simp at h0
    ·rename_i h2
     rw [if_neg h2, if_neg h2]
     exact ⟨rfl, ⟨X, X', hX, hX', hXX⟩, h.label, ⟨hs.kind, hs.label, hs.key, hs.proving, hs.words.snoc ht, hs.proof, hs.end_⟩, fun _ => ⟨rfl, rfl⟩⟩
  ·rename_i hp
   rw [if_neg hp, if_neg hp]
   split at h0
   ·rename_i h1
    rw [if_pos h1, if_pos h1]
    split at h0
    ·simp at h0
    ·rename_i h2
     rw [if_neg h2, if_neg h2]
     exact ⟨rfl, ⟨X, X', hX, hX', hXX⟩, h.label, ⟨hs.kind, hs.label, hs.key, rfl, hs.words, hs.proof, hs.end_⟩, fun _ => ⟨rfl, rfl⟩⟩
   ·rename_i h1
    rw [if_neg h1, if_neg h1]
    split at h0
    ·rename_i h2
     rw [if_pos h2, if_pos h2]
     split at h0
     ·simp at h0
     ·rename_i h3
      rw [if_neg h3, if_neg h3]
      exact ⟨rfl, ⟨X ++ [{ s with end_ := t }], X' ++ [{ s' with end_ := t' }], by rw [hX, List.append_assoc], by rw [hX', List.append_assoc], hXX.snoc ⟨hs.kind, hs.label, hs.key, hs.proving, hs.words, hs.proof, .inl ht⟩⟩, h.label, trivial, fun hx => by cases hx⟩
    ·simp at h0
theorem readSt_rel {d : Nat} {o o' : List St} : ∀ (T T' : List Tk), All2 (TkR d) T T' → ∀ {R R' : Rd}, RdX d o o' R R' → ∀ {R1 : Rd}, readSt T R = some R1 → ∃ R1', readSt T' R' = some R1' ∧ RdX d o o' R1 R1'
 | [], [], _, R, R', h, R1, hr => by cases hr; exact ⟨R', rfl, h⟩
 | t :: T, t' :: T', ht, R, R', h, R1, hr => by
  rw [readSt] at hr
  split at hr
  ·rename_i h0
   obtain ⟨h1, h2⟩ := h.step ht.1 h0
   obtain ⟨R1', h3, h4⟩ := readSt_rel T T' ht.2 h2 hr
   exact ⟨R1', by rw [readSt, if_pos h1]; exact h3, h4⟩
  ·cases hr
 | [], _ :: _, ht, _, _, _, _, _ => ht.elim
 | _ :: _, [], ht, _, _, _, _, _ => ht.elim
theorem RdX.start {d : Nat} {R R' : Rd} (h : R.Idle) (h' : R'.Idle) : RdX d R.out R'.out R R' :=
 ⟨⟨[], [], by simp, by simp, trivial⟩, by rw [h.label, h'.label]; trivial, by rw [h.now, h'.now]; trivial, fun hx => by rw [h.now] at hx; cases hx⟩
structure TblR (T T' : Tbl) : Prop where
 syms : T'.syms = T.syms
 numbers : T'.numbers = T.numbers
 active : T'.active = T.active
 scopes : T'.scopes = T.scopes
 taken : ∀ k, (aget k T'.taken).isSome = true → (aget k T.taken).isSome = true
 labs : T'.labels.length ≤ T.labels.length
theorem TblR.refl (T : Tbl) : TblR T T := ⟨rfl, rfl, rfl, rfl, fun _ h => h, Nat.le_refl _⟩
theorem TblR.isVar {T T' : Tbl} (h : TblR T T') : T'.isVar = T.isVar := by
 funext n
 unfold Tbl.isVar
 rw [h.syms]
theorem TblR.const {T T' : Tbl} (h : TblR T T') (s : ByteArray) : (T'.const s).2.1 = (T.const s).2.1 ∧ TblR (T.const s).2.2 (T'.const s).2.2 := by
 unfold Tbl.const
 rw [h.scopes, h.numbers, h.syms, h.active]
 split
 ·exact ⟨rfl, h⟩
 ·split
  ·exact ⟨rfl, h⟩
  ·split
   ·exact ⟨rfl, h⟩
   ·split
    ·exact ⟨rfl, h⟩
    ·exact ⟨rfl, rfl, rfl, rfl, rfl, h.taken, h.labs⟩
theorem TblR.var {T T' : Tbl} (h : TblR T T') (s : ByteArray) : (T'.var s).2.1 = (T.var s).2.1 ∧ TblR (T.var s).2.2 (T'.var s).2.2 := by
 unfold Tbl.var
 rw [h.scopes, h.numbers, h.syms, h.active]
 split
 ·exact ⟨rfl, h⟩
 ·split
  ·exact ⟨rfl, h⟩
  ·split
   ·exact ⟨rfl, rfl, rfl, rfl, rfl, h.taken, h.labs⟩
   ·split
    ·exact ⟨rfl, h⟩
    ·exact ⟨rfl, rfl, rfl, rfl, rfl, h.taken, h.labs⟩
theorem TblR.openS {T T' : Tbl} (h : TblR T T') : T'.openS.1 = T.openS.1 ∧ TblR T.openS.2 T'.openS.2 := by
 unfold Tbl.openS
 rw [h.scopes]
 split
 ·exact ⟨rfl, h⟩
 ·exact ⟨rfl, h.syms, h.numbers, h.active, rfl, h.taken, h.labs⟩
theorem TblR.close {T T' : Tbl} (h : TblR T T') : T'.close.1 = T.close.1 ∧ TblR T.close.2 T'.close.2 := by
 unfold Tbl.close
 rw [h.scopes]
 split
 ·exact ⟨rfl, h⟩
 ·exact ⟨rfl, h.syms, h.numbers, by dsimp only; rw [h.syms, h.active], rfl, h.taken, h.labs⟩
theorem TblR.label {T T' : Tbl} (h : TblR T T') (s : ByteArray) (h0 : (T.label s).1 = 0) : (T'.label s).1 = 0 ∧ TblR (T.label s).2 (T'.label s).2 := by
 unfold Tbl.label at h0 ⊢
 split at h0
 ·simp at h0
 ·rename_i h1
  split at h0
  ·simp at h0
  ·rename_i h2
   split at h0
   ·simp at h0
   ·rename_i h3
    have := h.labs
    rw [if_neg h1, if_neg h1, if_neg h2, if_neg h3, if_neg (fun hx => h2 (h.taken _ hx)), if_neg (by omega)]
    refine ⟨rfl, h.syms, h.numbers, h.active, h.scopes, fun k hk => ?_, by simp; exact h.labs⟩
    dsimp only at hk ⊢
    rw [aget_aput] at hk ⊢
    split
    ·rfl
    ·rename_i hne
     rw [if_neg hne] at hk
     exact h.taken k hk
theorem TblR.label1 {T T' : Tbl} (h : TblR T T') (s : ByteArray) (h0 : (T.label s).1 = 0) : TblR (T.label s).2 T' := by
 unfold Tbl.label at h0 ⊢
 split at h0
 ·simp at h0
 ·rename_i h1
  split at h0
  ·simp at h0
  ·rename_i h2
   split at h0
   ·simp at h0
   ·rename_i h3
    rw [if_neg h1, if_neg h2, if_neg h3]
    refine ⟨h.syms, h.numbers, h.active, h.scopes, fun k hk => ?_, by have := h.labs; simp; omega⟩
    dsimp only
    rw [aget_aput]
    split
    ·rfl
    ·exact h.taken k hk
structure AsrR (d : Nat) (a a' : Asr) : Prop where
 label : a'.label = a.label
 thm : a'.isThm = a.isThm
 hyps : a'.hyps = a.hyps
 pairs : a'.pairs = a.pairs
 goal : a'.goal = a.goal
 shyps : a'.shyps = a.shyps
 spairs : a'.spairs = a.spairs
 proof : All2 (TkR d) a.proof a'.proof
 at_ : TkS d a.at_ a'.at_
 end_ : TkS d a.end_ a'.end_
structure LdR (d : Nat) (P P' : List Asr) (L L' : Ld) : Prop where
 tbl : TblR L.tbl L'.tbl
 scs : L'.scs = L.scs
 hyps : L'.hyps = L.hyps
 labels : L'.labels ≤ L.labels
 finds : ∀ k, (aget k L'.finds).isSome = true → (aget k L.finds).isSome = true
 asr : ∃ X X', L.asserts = P ++ X ∧ L'.asserts = P' ++ X' ∧ All2 (AsrR d) X X'
section
variable {d : Nat} {P P' : List Asr} {L L' : Ld}
theorem LdR.setTbl (h : LdR d P P' L L') {T T' : Tbl} (ht : TblR T T') : LdR d P P' { L with tbl := T } { L' with tbl := T' } := ⟨ht, h.scs, h.hyps, h.labels, h.finds, h.asr⟩
theorem LdR.taken (h : LdR d P P' L L') {s : ByteArray} (h0 : L.taken s = false) : L'.taken s = false := by
 unfold Ld.taken at h0 ⊢
 rw [h.hyps]
 rw [Bool.or_eq_false_iff] at h0 ⊢
 refine ⟨?_, h0.2⟩
 cases hc : (aget s L'.finds).isSome with
 | false => rfl
 | true => rw [h.finds s hc] at h0; exact absurd h0.1 (by decide)
theorem LdR.label (h : LdR d P P' L L') {t t' : Tk} (ht : t'.text = t.text) {u : Unit} (h0 : L.label t = .ok u) : L'.label t' = .ok u := by
 unfold Ld.label at h0 ⊢
 rw [ht]
 split at h0
 ·cases h0
 ·rename_i h1
  split at h0
  ·cases h0
  ·rename_i h2
   split at h0
   ·cases h0
   ·rename_i h3
    have := h.labels
    rw [if_neg h1, if_neg (by rw [h.taken (by simpa using h2)]; decide), if_neg (by omega)]
theorem LdR.symbol (h : LdR d P P' L L') {t t' : Tk} (ht : t'.text = t.text) {n : Int} (h0 : L.symbol t = .ok n) : L'.symbol t' = .ok n := by
 unfold Ld.symbol at h0 ⊢
 rw [ht, h.tbl.active]
 cases hc : aget t.text L.tbl.active with
 | none => rw [hc] at h0; cases h0
 | some m => rw [hc] at h0; exact h0
theorem LdR.var (h : LdR d P P' L L') {t t' : Tk} (ht : t'.text = t.text) {n : Int} (h0 : L.variable_ t = .ok n) : L'.variable_ t' = .ok n := by
 unfold Ld.variable_ at h0 ⊢
 obtain ⟨m, h1, h2⟩ := bind_ok h0
 rw [h.symbol ht h1]
 show (if L'.tbl.isVar m = true then _ else _) = _
 rw [h.tbl.isVar]
 split at h2
 ·rename_i h3
  rw [if_pos h3]
  exact h2
 ·cases h2
theorem LdR.floatGo (h : LdR d P P' L L') : ∀ (ws ws' : List Tk), All2 (TkR d) ws ws' → ∀ (e r : List Int), L.floatGo ws e = .ok r → L'.floatGo ws' e = .ok r
 | [], [], _, e, r, h0 => by rw [Ld.floatGo] at h0 ⊢; exact h0
 | w :: ws, w' :: ws', hw, e, r, h0 => by
  rw [Ld.floatGo] at h0 ⊢
  split at h0
  ·rename_i he
   rw [if_pos he]
   obtain ⟨n, h1, h2⟩ := bind_ok h0
   rw [h.symbol hw.1.1 h1]
   show (if L'.tbl.isVar n = true then _ else _) = _
   rw [h.tbl.isVar]
   split at h2
   ·cases h2
   ·rename_i h3
    rw [if_neg h3]
    exact LdR.floatGo h ws ws' hw.2 _ r h2
  ·rename_i he
   rw [if_neg he]
   obtain ⟨n, h1, h2⟩ := bind_ok h0
   rw [h.var hw.1.1 h1]
   show (if (typeS L'.scs n).isSome = true then _ else _) = _
   rw [h.scs]
   split at h2
   ·cases h2
   ·rename_i h3
    rw [if_neg h3]
    exact LdR.floatGo h ws ws' hw.2 _ r h2
 | [], _ :: _, hw, _, _, _ => hw.elim
 | _ :: _, [], hw, _, _, _ => hw.elim
theorem LdR.exprGo (h : LdR d P P' L L') : ∀ (ws ws' : List Tk), All2 (TkR d) ws ws' → ∀ (e r : List Int), L.exprGo ws e = .ok r → L'.exprGo ws' e = .ok r
 | [], [], _, e, r, h0 => by rw [Ld.exprGo] at h0 ⊢; exact h0
 | w :: ws, w' :: ws', hw, e, r, h0 => by
  rw [Ld.exprGo] at h0 ⊢
  split at h0
  ·cases h0
  ·rename_i h2
   rw [if_neg h2]
   obtain ⟨n, h1, h3⟩ := bind_ok h0
   rw [h.symbol hw.1.1 h1]
   show (if L'.tbl.isVar n = true then _ else _) = _
   rw [h.tbl.isVar]
   split at h3
   ·rename_i h4
    rw [if_pos h4]
    split at h3
    ·cases h3
    ·rename_i h5
     rw [if_neg h5, h.scs]
     split at h3
     ·rename_i h6
      rw [if_pos h6]
      exact LdR.exprGo h ws ws' hw.2 _ r h3
     ·cases h3
   ·rename_i h4
    rw [if_neg h4]
    exact LdR.exprGo h ws ws' hw.2 _ r h3
 | [], _ :: _, hw, _, _, _ => hw.elim
 | _ :: _, [], hw, _, _, _ => hw.elim
theorem LdR.apartGo (h : LdR d P P' L L') : ∀ (ws ws' : List Tk), All2 (TkR d) ws ws' → ∀ (v : List Int) (ps : List Pr) (r : List Int), L.apartGo ws v ps = .ok r → L'.apartGo ws' v ps = .ok r
 | [], [], _, v, ps, r, h0 => by rw [Ld.apartGo] at h0 ⊢; exact h0
 | w :: ws, w' :: ws', hw, v, ps, r, h0 => by
  rw [Ld.apartGo] at h0 ⊢
  obtain ⟨n, h1, h2⟩ := bind_ok h0
  rw [h.var hw.1.1 h1]
  show (if v.contains n = true then _ else _) = _
  split at h2
  ·cases h2
  ·rename_i h3
   rw [if_neg h3]
   dsimp only at h2 ⊢
   split at h2
   ·cases h2
   ·rename_i h4
    rw [if_neg h4]
    exact LdR.apartGo h ws ws' hw.2 _ _ r h2
 | [], _ :: _, hw, _, _, _, _ => hw.elim
 | _ :: _, [], hw, _, _, _, _ => hw.elim
theorem needE_of {t : Tk} {e : Nat} (h : e = 0) : needE t e = .ok () := by unfold needE; rw [if_pos h]
end
theorem LdR.constGo {d : Nat} {P P' : List Asr} : ∀ (ws ws' : List Tk), All2 (TkR d) ws ws' → ∀ {L L' M : Ld}, LdR d P P' L L' → L.constGo ws = .ok M → ∃ M', L'.constGo ws' = .ok M' ∧ LdR d P P' M M'
 | [], [], _, L, L', M, h, h0 => by rw [Ld.constGo] at h0; cases h0; exact ⟨L', by rw [Ld.constGo], h⟩
 | w :: ws, w' :: ws', hw, L, L', M, h, h0 => by
  rw [Ld.constGo] at h0
  obtain ⟨_, h1, h2⟩ := bind_ok h0
  obtain ⟨e1, e2⟩ := h.tbl.const w.text
  obtain ⟨M', h3, h4⟩ := LdR.constGo ws ws' hw.2 (h.setTbl e2) h2
  refine ⟨M', ?_, h4⟩
  rw [Ld.constGo, hw.1.1, needE_of (by rw [e1]; exact needE_ok h1)]
  exact h3
 | [], _ :: _, hw, _, _, _, _, _ => hw.elim
 | _ :: _, [], hw, _, _, _, _, _ => hw.elim
theorem LdR.varGo {d : Nat} {P P' : List Asr} : ∀ (ws ws' : List Tk), All2 (TkR d) ws ws' → ∀ {L L' M : Ld}, LdR d P P' L L' → L.varGo ws = .ok M → ∃ M', L'.varGo ws' = .ok M' ∧ LdR d P P' M M'
 | [], [], _, L, L', M, h, h0 => by rw [Ld.varGo] at h0; cases h0; exact ⟨L', by rw [Ld.varGo], h⟩
 | w :: ws, w' :: ws', hw, L, L', M, h, h0 => by
  rw [Ld.varGo] at h0
  obtain ⟨_, h1, h2⟩ := bind_ok h0
  obtain ⟨e1, e2⟩ := h.tbl.var w.text
  obtain ⟨M', h3, h4⟩ := LdR.varGo ws ws' hw.2 (h.setTbl e2) h2
  refine ⟨M', ?_, h4⟩
  rw [Ld.varGo, hw.1.1, needE_of (by rw [e1]; exact needE_ok h1)]
  exact h3
 | [], _ :: _, hw, _, _, _, _, _ => hw.elim
 | _ :: _, [], hw, _, _, _, _, _ => hw.elim
section
variable {d : Nat} {P P' : List Asr} {L L' : Ld}
theorem LdR.hyp (h : LdR d P P' L L') {s s' : St} (hs : StR d s s') (x : Hy) {M : Ld} (h0 : L.hyp s x = .ok M) : ∃ M', L'.hyp s' x = .ok M' ∧ LdR d P P' M M' := by
 unfold Ld.hyp at h0
 obtain ⟨_, h1, h2⟩ := bind_ok h0
 obtain ⟨e1, e2⟩ := h.tbl.label x.label (needE_ok h1)
 refine ⟨{ L' with labels := L'.labels + 1, tbl := (L'.tbl.label x.label).2, hyps := aput x.label x L'.hyps }, ?_, ?_⟩
 ·unfold Ld.hyp
  rw [needE_of e1]
  rfl
 ·cases h2
  exact ⟨e2, h.scs, by dsimp only; rw [h.hyps], Nat.succ_le_succ h.labels, h.finds, h.asr⟩
theorem LdR.assert (h : LdR d P P' L L') {s s' : St} (hs : StR d s s') (goal : List Int) {M : Ld} (h0 : L.assert s goal = .ok M) : ∃ M', L'.assert s' goal = .ok M' ∧ LdR d P P' M M' := by
 unfold Ld.assert at h0
 dsimp only at h0
 obtain ⟨_, h1, h2⟩ := bind_ok h0
 obtain ⟨_, h3, h4⟩ := bind_ok h2
 obtain ⟨e1, e2⟩ := h.tbl.label s.label.text (needE_ok h3)
 obtain ⟨X, X', hX, hX', hXX⟩ := h.asr
 have hl := hs.label.text
 refine ⟨_, by
  unfold Ld.assert
  dsimp only
  rw [h.tbl.isVar, h.scs, hl, needE_of (needE_ok h1), needE_of e1]
  rfl, ?_⟩
 cases h4
 refine ⟨e2, rfl, h.hyps, Nat.succ_le_succ h.labels, fun k hk => ?_, ⟨X ++ [_], X' ++ [_], by dsimp only; rw [hX, List.append_assoc], by dsimp only; rw [hX', List.append_assoc], hXX.snoc ?_⟩⟩
 ·dsimp only at hk ⊢
  rw [aget_aput] at hk ⊢
  split
  ·rfl
  ·rename_i hne
   rw [if_neg hne] at hk
   exact h.finds k hk
 ·exact ⟨rfl, by dsimp only; rw [hs.kind], rfl, rfl, rfl, rfl, rfl, hs.proof, hs.label, hs.end_⟩
theorem LdR.act (h : LdR d P P' L L') {s s' : St} (hs : StR d s s') {M : Ld} (h0 : L.act s = .ok M) : ∃ M', L'.act s' = .ok M' ∧ LdR d P P' M M' := by
 have hwh : s'.whole = s.whole := by unfold St.whole; rw [hs.end_.text]
 unfold Ld.act at h0 ⊢
 rw [hs.kind, hwh]
 split at h0
 ·rename_i k
  rw [if_pos k]
  obtain ⟨_, h1, h2⟩ := bind_ok h0
  obtain ⟨e1, e2⟩ := h.tbl.openS
  rw [needE_of (by rw [e1]; exact needE_ok h1)]
  cases h2
  exact ⟨_, rfl, e2, by dsimp only; rw [h.scs], h.hyps, h.labels, h.finds, h.asr⟩
 rename_i k8
 rw [if_neg k8]
 split at h0
 ·rename_i k
  rw [if_pos k]
  obtain ⟨_, h1, h2⟩ := bind_ok h0
  obtain ⟨e1, e2⟩ := h.tbl.close
  rw [needE_of (by rw [e1]; exact needE_ok h1)]
  cases h2
  exact ⟨_, rfl, e2, by dsimp only; rw [h.scs], h.hyps, h.labels, h.finds, h.asr⟩
 rename_i k9
 rw [if_neg k9]
 split at h0
 ·rename_i k
  rw [if_pos k, h.tbl.scopes]
  split at h0
  ·cases h0
  ·rename_i h1
   rw [if_neg h1]
   exact LdR.constGo _ _ hs.words h h0
 rename_i k1
 rw [if_neg k1]
 split at h0
 ·rename_i k
  rw [if_pos k]
  exact LdR.varGo _ _ hs.words h h0
 rename_i k2
 rw [if_neg k2]
 split at h0
 ·rename_i k
  rw [if_pos k]
  obtain ⟨v, h1, h2⟩ := bind_ok h0
  have e1 : L'.apart s'.words = .ok v := by
   unfold Ld.apart at h1 ⊢
   rw [h.scs]
   exact h.apartGo _ _ hs.words _ _ _ h1
  rw [e1]
  show ∃ M', (if s.whole = true then _ else _) = _ ∧ _
  split at h2
  ·rename_i hw
   rw [if_pos hw]
   obtain ⟨_, h3, h4⟩ := bind_ok h2
   rw [h.tbl.isVar, h.scs, needE_of (needE_ok h3)]
   cases h4
   exact ⟨_, rfl, h.tbl, rfl, h.hyps, h.labels, h.finds, h.asr⟩
  ·rename_i hw
   rw [if_neg hw]
   cases h2
   exact ⟨_, rfl, h⟩
 rename_i k5
 rw [if_neg k5]
 split at h0
 ·rename_i k
  rw [if_pos k]
  obtain ⟨e, h1, h2⟩ := bind_ok h0
  rw [h.floatGo _ _ hs.words _ _ h1]
  show ∃ M', (if s.whole = true then _ else _) = _ ∧ _
  split at h2
  ·rename_i hw
   rw [if_pos hw]
   obtain ⟨M1, h3, h4⟩ := bind_ok h2
   obtain ⟨_, h5, h6⟩ := bind_ok h4
   obtain ⟨M2, g1, g2⟩ := h.hyp hs _ h3
   rw [hs.label.text, g1]
   show ∃ M', (needE s'.end_ _).bind _ = _ ∧ _
   rw [g2.tbl.isVar, g2.scs, needE_of (needE_ok h5)]
   cases h6
   exact ⟨_, rfl, g2.tbl, rfl, g2.hyps, g2.labels, g2.finds, g2.asr⟩
  ·rename_i hw
   rw [if_neg hw]
   cases h2
   exact ⟨_, rfl, h⟩
 rename_i k3
 rw [if_neg k3]
 split at h0
 ·rename_i k
  rw [if_pos k]
  obtain ⟨e, h1, h2⟩ := bind_ok h0
  rw [h.exprGo _ _ hs.words _ _ h1]
  show ∃ M', (if s.whole = true then _ else _) = _ ∧ _
  split at h2
  ·rename_i hw
   rw [if_pos hw]
   obtain ⟨M1, h3, h4⟩ := bind_ok h2
   obtain ⟨_, h5, h6⟩ := bind_ok h4
   obtain ⟨M2, g1, g2⟩ := h.hyp hs _ h3
   rw [hs.label.text, g1]
   show ∃ M', (needE s'.end_ _).bind _ = _ ∧ _
   rw [g2.tbl.isVar, g2.scs, needE_of (needE_ok h5)]
   cases h6
   exact ⟨_, rfl, g2.tbl, rfl, g2.hyps, g2.labels, g2.finds, g2.asr⟩
  ·rename_i hw
   rw [if_neg hw]
   cases h2
   exact ⟨_, rfl, h⟩
 rename_i k4
 rw [if_neg k4]
 split at h0
 ·rename_i k
  rw [if_pos k]
  obtain ⟨e, h1, h2⟩ := bind_ok h0
  rw [h.exprGo _ _ hs.words _ _ h1]
  show ∃ M', (if s.whole = true then _ else _) = _ ∧ _
  split at h2
  ·rename_i hw
   rw [if_pos hw]
   exact h.assert hs e h2
  ·rename_i hw
   rw [if_neg hw]
   cases h2
   exact ⟨_, rfl, h⟩
 rename_i k6
 rw [if_neg k6]
 cases h0
 exact ⟨_, rfl, h⟩
theorem LdR.take (h : LdR d P P' L L') {s s' : St} (hs : StR d s s') {M : Ld} (h0 : L.take s = .ok M) : ∃ M', L'.take s' = .ok M' ∧ LdR d P P' M M' := by
 unfold Ld.take at h0 ⊢
 rw [hs.label.text]
 split at h0
 ·rename_i k
  rw [if_pos k]
  obtain ⟨_, h1, h2⟩ := bind_ok h0
  rw [h.label hs.label.text h1]
  exact h.act hs h2
 ·rename_i k
  rw [if_neg k]
  exact h.act hs h0
end
theorem LdR.takeAll {d : Nat} {P P' : List Asr} : ∀ (ss ss' : List St), All2 (StR d) ss ss' → ∀ {L L' M : Ld}, LdR d P P' L L' → L.takeAll ss = .ok M → ∃ M', L'.takeAll ss' = .ok M' ∧ LdR d P P' M M'
 | [], [], _, L, L', M, h, h0 => by rw [Ld.takeAll] at h0; cases h0; exact ⟨L', by rw [Ld.takeAll], h⟩
 | s :: ss, s' :: ss', hs, L, L', M, h, h0 => by
  rw [Ld.takeAll] at h0
  obtain ⟨M1, h1, h2⟩ := bind_ok h0
  obtain ⟨M2, h3, h4⟩ := h.take hs.1 h1
  obtain ⟨M', h5, h6⟩ := LdR.takeAll ss ss' hs.2 h4 h2
  exact ⟨M', by rw [Ld.takeAll, h3]; exact h5, h6⟩
 | [], _ :: _, hs, _, _, _, _, _ => hs.elim
 | _ :: _, [], hs, _, _, _, _, _ => hs.elim
theorem takeAll_app : ∀ (a b : List St) (L : Ld), L.takeAll (a ++ b) = (L.takeAll a).bind fun M => M.takeAll b
 | [], b, L => rfl
 | s :: a, b, L => by
  rw [List.cons_append, Ld.takeAll, Ld.takeAll]
  cases L.take s with
  | error e => rfl
  | ok M => exact takeAll_app a b M
end Go.Proofs.YtdhkmfpfbjcdiaaGreatDoor
