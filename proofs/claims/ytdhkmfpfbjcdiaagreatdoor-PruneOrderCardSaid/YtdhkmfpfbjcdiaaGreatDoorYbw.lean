/- lemmalaw texts, part 49. -/
import Derived.Test.YtdhkmfpfbjcdiaaGreatDoorYaj
import Derived.Test.YtdhkmfpfbjcdiaaGreatDoorYbt
import Derived.Test.YtdhkmfpfbjcdiaaGreatDoorYbv
set_option maxRecDepth 100000
set_option linter.unusedVariables false
set_option linter.unusedSimpArgs false
set_option maxHeartbeats 32000000
namespace Go.Proofs.YtdhkmfpfbjcdiaaGreatDoor
structure Asserted (L : Ld) (s : St) (a : Asr) (M : Ld) : Prop where
 kind : s.kind = 6 ∨ s.kind = 7
 whole : s.end_.text.size ≠ 0
 asr : M.asserts = L.asserts ++ [a]
 number : a.number = L.asserts.length
 label : a.label = s.label.text
 thm : a.isThm = decide (s.kind = 7)
 at_ : a.at_ = s.label
 end_ : a.end_ = s.end_
 proof : a.proof = s.proof
 finds : M.finds = aput s.label.text L.asserts.length L.finds
 fresh : s.label.text.size ≠ 0 → L.taken s.label.text = false
 rel : ∀ d, LdR d M.asserts L.asserts M L
theorem constGo_finds : ∀ (ws : List Tk) {L L' : Ld}, L.constGo ws = .ok L' → L'.finds = L.finds
 | [], L, L', hx => by rw [Ld.constGo] at hx; cases hx; rfl
 | w :: ws, L, L', hx => by
  rw [Ld.constGo] at hx
  obtain ⟨_, -, hx⟩ := bind_ok hx
  have := constGo_finds ws hx
  exact this
theorem varGo_finds : ∀ (ws : List Tk) {L L' : Ld}, L.varGo ws = .ok L' → L'.finds = L.finds
 | [], L, L', hx => by rw [Ld.varGo] at hx; cases hx; rfl
 | w :: ws, L, L', hx => by
  rw [Ld.varGo] at hx
  obtain ⟨_, -, hx⟩ := bind_ok hx
  have := varGo_finds ws hx
  exact this
theorem act_asr {L M : Ld} {s : St} (hx : L.act s = .ok M) : (M.asserts = L.asserts ∧ M.finds = L.finds) ∨ ∃ a, (s.kind = 6 ∨ s.kind = 7) ∧ s.end_.text.size ≠ 0 ∧ M.asserts = L.asserts ++ [a] ∧ a.number = L.asserts.length ∧ a.label = s.label.text ∧ a.isThm = decide (s.kind = 7) ∧ a.at_ = s.label ∧ a.end_ = s.end_ ∧ a.proof = s.proof ∧ M.finds = aput s.label.text L.asserts.length L.finds ∧ ∀ d, LdR d M.asserts L.asserts M L := by
 unfold Ld.act at hx
 split at hx
 ·obtain ⟨_, -, hx⟩ := bind_ok hx
  cases hx
  exact .inl ⟨rfl, rfl⟩
 ·split at hx
  ·obtain ⟨_, -, hx⟩ := bind_ok hx
   cases hx
   exact .inl ⟨rfl, rfl⟩
  ·split at hx
   ·split at hx
    ·cases hx
    ·exact .inl ⟨(constGo_keep _ hx).2, constGo_finds _ hx⟩
   ·split at hx
    ·exact .inl ⟨(varGo_keep _ hx).2, varGo_finds _ hx⟩
    ·split at hx
     ·obtain ⟨v, -, hx⟩ := bind_ok hx
      split at hx
      ·obtain ⟨_, -, hx⟩ := bind_ok hx
       cases hx
       exact .inl ⟨rfl, rfl⟩
      ·cases hx; exact .inl ⟨rfl, rfl⟩
     ·split at hx
      ·obtain ⟨e, he, hx⟩ := bind_ok hx
       split at hx
       ·obtain ⟨M1, hM, hx⟩ := bind_ok hx
        obtain ⟨_, h1, hx⟩ := bind_ok hx
        cases hx
        unfold Ld.hyp at hM
        obtain ⟨_, -, hM⟩ := bind_ok hM
        cases hM
        exact .inl ⟨rfl, rfl⟩
       ·cases hx; exact .inl ⟨rfl, rfl⟩
      ·split at hx
       ·obtain ⟨e, he, hx⟩ := bind_ok hx
        split at hx
        ·obtain ⟨M1, hM, hx⟩ := bind_ok hx
         obtain ⟨_, h1, hx⟩ := bind_ok hx
         cases hx
         unfold Ld.hyp at hM
         obtain ⟨_, -, hM⟩ := bind_ok hM
         cases hM
         exact .inl ⟨rfl, rfl⟩
        ·cases hx; exact .inl ⟨rfl, rfl⟩
       ·split at hx
        ·rename_i hk
         obtain ⟨e, he, hx⟩ := bind_ok hx
         split at hx
         ·rename_i hw
          unfold Ld.assert at hx
          dsimp only at hx
          obtain ⟨_, -, hx⟩ := bind_ok hx
          obtain ⟨_, h1, hx⟩ := bind_ok hx
          have h0 := needE_ok h1
          cases hx
          refine .inr ⟨_, hk, by simpa [St.whole] using hw, rfl, rfl, rfl, rfl, rfl, rfl, rfl, rfl, fun d => ?_⟩
          exact ⟨(TblR.refl L.tbl).label1 _ h0, rfl, rfl, Nat.le_succ _, fun k hk => by
           dsimp only
           rw [aget_aput]
           split
           ·rfl
           ·exact hk, ⟨[], [], by simp, by simp, trivial⟩⟩
         ·cases hx; exact .inl ⟨rfl, rfl⟩
        ·cases hx; exact .inl ⟨rfl, rfl⟩
theorem take_asr {L M : Ld} {s : St} (hx : L.take s = .ok M) : (M.asserts = L.asserts ∧ M.finds = L.finds) ∨ ∃ a, Asserted L s a M := by
 unfold Ld.take at hx
 split at hx
 ·rename_i hz
  obtain ⟨_, h0, hx⟩ := bind_ok hx
  rcases act_asr hx with h | ⟨a, h1, h2, h3, h4, h5, h6, h7, h8, h9, h10, h11⟩
  ·exact .inl h
  ·refine .inr ⟨a, h1, h2, h3, h4, h5, h6, h7, h8, h9, h10, fun _ => ?_, h11⟩
   unfold Ld.label at h0
   split at h0
   ·cases h0
   ·split at h0
    ·cases h0
    ·rename_i h; simpa using h
 ·rename_i hz
  rcases act_asr hx with h | ⟨a, h1, h2, h3, h4, h5, h6, h7, h8, h9, h10, h11⟩
  ·exact .inl h
  ·exact .inr ⟨a, h1, h2, h3, h4, h5, h6, h7, h8, h9, h10, fun h => absurd h hz, h11⟩
theorem takeAll_pre : ∀ (ss : List St) (L M : Ld), L.takeAll ss = .ok M → ∃ X, M.asserts = L.asserts ++ X
 | [], L, M, h => by rw [Ld.takeAll] at h; cases h; exact ⟨[], by simp⟩
 | s :: ss, L, M, h => by
  rw [Ld.takeAll] at h
  obtain ⟨M1, h1, h2⟩ := bind_ok h
  obtain ⟨X, hX⟩ := takeAll_pre ss M1 M h2
  rcases take_asr h1 with ⟨h3, -⟩ | ⟨a, h3⟩
  ·exact ⟨X, by rw [hX, h3]⟩
  ·exact ⟨a :: X, by rw [hX, h3.asr]; simp⟩
theorem asr_nth : ∀ (ss : List St) (L M : Ld), L.takeAll ss = .ok M → ∀ (n : Nat), L.asserts.length ≤ n → ∀ (hn : n < M.asserts.length),
  ∃ (k : Nat) (hk : k < ss.length) (L1 L2 : Ld), L.takeAll (ss.take k) = .ok L1 ∧ L1.asserts = M.asserts.take n ∧ L1.take ss[k] = .ok L2 ∧ Asserted L1 ss[k] M.asserts[n] L2 ∧ L2.takeAll (ss.drop (k + 1)) = .ok M
 | [], L, M, h, n, hl, hn => by
  rw [Ld.takeAll] at h
  cases h
  omega
 | s :: ss, L, M, h, n, hl, hn => by
  rw [Ld.takeAll] at h
  obtain ⟨M1, h1, h2⟩ := bind_ok h
  by_cases hc : M1.asserts.length ≤ n
  ·obtain ⟨k, hk, L1, L2, e1, e2, e3, e4, e5⟩ := asr_nth ss M1 M h2 n hc hn
   refine ⟨k + 1, by simpa using hk, L1, L2, ?_, e2, e3, e4, e5⟩
   rw [List.take_succ_cons, Ld.takeAll, h1]
   exact e1
  ·rcases take_asr h1 with ⟨h3, -⟩ | ⟨a, h3⟩
   ·rw [h3] at hc; omega
   ·have hln : L.asserts.length = n := by rw [h3.asr] at hc; simp at hc; omega
    obtain ⟨X, hX⟩ := takeAll_pre ss M1 M h2
    rw [h3.asr, List.append_assoc, List.singleton_append] at hX
    have hget : M.asserts[n] = a := by
     have : M.asserts[n]? = some a := by rw [hX, ← hln]; simp
     rw [List.getElem?_eq_getElem hn] at this
     exact Option.some.inj this
    refine ⟨0, by simp, L, M1, by simp [Ld.takeAll], ?_, h1, by rw [hget]; exact h3, h2⟩
    rw [hX, ← hln]
    simp
theorem fltOf_none {o : Option (Tk × Int)} (h : fltOf o = none) : o = none := by
 cases o with
 | none => rfl
 | some x => cases h
def Rd.init : Rd := ⟨[], none, none, 9, false⟩
theorem Rd.init_idle : Rd.init.Idle := ⟨rfl, rfl⟩
theorem load_parts {t : ByteArray} {B : Bs} (h : loadOf t = .ok B) : ∃ T R, scanOf t = (T, none) ∧ readSt T Rd.init = some R ∧ R.Idle ∧ Ld.new.takeAll R.out = .ok B.ld ∧ B.ld.tbl.scopes.length = 0 := by
 unfold loadOf at h
 split at h
 ·cases h
 ·rename_i L hL
  split at h
  ·cases h
  ·rename_i hf
   split at h
   ·cases h
   ·rename_i hs
    cases h
    unfold readOf at hf hL
    split at hf
    ·simp at hf
    ·rename_i r hr
     rw [hr] at hL
     dsimp only at hf hL
     have hc : ¬ ((scanOf t).2.isNone = true ∧ (r.now.isSome = true ∨ r.label.isSome = true)) := fun hx => by rw [if_pos hx] at hf; cases hf
     rw [if_neg hc] at hf
     have h2 := fltOf_none hf
     have hi : r.Idle := by
      rw [h2] at hc
      constructor
      ·cases hn : r.now with
       | none => rfl
       | some s => exact absurd ⟨rfl, .inl (by rw [hn]; rfl)⟩ hc
      ·cases hn : r.label with
       | none => rfl
       | some s => exact absurd ⟨rfl, .inr (by rw [hn]; rfl)⟩ hc
     refine ⟨(scanOf t).1, r, by rw [← h2], (readGo_st _ _ _).1 hr, hi, ?_, by dsimp only; omega⟩
     have : r.all = r.out := by unfold Rd.all; rw [hi.now]
     rw [this] at hL
     exact hL
theorem load_of_parts {t : ByteArray} {T : List Tk} {R : Rd} {L : Ld} (h1 : scanOf t = (T, none)) (h2 : readSt T Rd.init = some R) (h3 : R.Idle) (h4 : Ld.new.takeAll R.out = .ok L) (h5 : L.tbl.scopes.length = 0) : loadOf t = .ok ⟨t, R.out, L⟩ := by
 have hr : readOf t = (R.out, none) := by
  unfold readOf
  rw [h1]
  have := (readGo_st T Rd.init R).2 h2
  unfold Rd.init at this
  rw [this]
  dsimp only
  rw [if_neg (by rw [h3.now, h3.label]; simp)]
  have : R.all = R.out := by unfold Rd.all; rw [h3.now]
  rw [this]
  rfl
 unfold loadOf
 rw [hr]
 dsimp only
 rw [h4]
 dsimp only
 rw [if_neg (by omega)]
theorem kind_lab {k : Nat} (h : k = 6 ∨ k = 7) : formLab (k - 1) = true := by rcases h with rfl | rfl <;> rfl
theorem read_toks {T : List Tk} {R R' : Rd} {ss : List St} (h : readSt T R = some R') (hi : R.Idle) (e : R'.out = R.out ++ ss) {s : St} (hs : s ∈ ss) : s.end_ ∈ T ∧ (formLab (s.kind - 1) = true → s.label ∈ T) := by
 obtain ⟨n, hn, rfl⟩ := List.getElem_of_mem hs
 obtain ⟨TA, TI, TB, RA, RS, a1, -, -, -, -, -, -, -, a9⟩ := read_nth n T R R' ss h hi e hn
 refine ⟨by rw [a1]; simp, fun hl => ?_⟩
 have := List.mem_of_head? (a9 hl)
 rw [a1]
 exact List.mem_append_left _ (List.mem_append_right _ this)
theorem toks_ne : ∀ (ws : List Wd) (p : Ps), (∀ w ∈ ws, w.Ok) → ∀ x ∈ toks p ws, x.word.text.size ≠ 0
 | [], _, _, x, hx => by cases hx
 | w :: r, p, h, x, hx => by
  rcases List.mem_cons.1 hx with rfl | hx
  ·intro e
   have h1 : (⟨w.ink.toArray⟩ : ByteArray).size = 0 := e
   exact (h w List.mem_cons_self).ne (List.eq_nil_of_length_eq_zero h1)
  ·exact toks_ne r _ (fun w hw => h w (List.mem_cons_of_mem _ hw)) x hx
theorem scan_ne {t : ByteArray} {T : List Tk} (h : scanOf t = (T, none)) : ∀ x ∈ T, x.text.size ≠ 0 := by
 obtain ⟨ws, tail, hok, -, -, hs⟩ := scan_words h
 intro x hx
 obtain ⟨i, hi, rfl⟩ := scanSt_from _ _ _ T hs (by simp) x hx
 exact toks_ne ws _ hok.ok i hi
theorem TkS.off {d : Nat} {t t' : Tk} (h : TkS d t t') (hn : t.text.size ≠ 0) : t'.at_.off + d = t.at_.off := by
 rcases h with h | ⟨h1, h2⟩
 ·exact h.2
 ·rw [h1] at hn; exact absurd rfl hn
def Asr.lo (a : Asr) : Nat := a.at_.at_.off
def Asr.hi (a : Asr) : Nat := a.end_.fin
structure AsrM (d : Nat) (a a' : Asr) : Prop where
 rel : AsrR d a a'
 lo : a'.lo + d = a.lo
 hi : a'.hi + d = a.hi
theorem single_cut {t : ByteArray} {B : Bs} (h : loadOf t = .ok B) (n : Nat) (hn : n < B.ld.asserts.length) :
  B.ld.asserts[n].lo ≤ B.ld.asserts[n].hi ∧ B.ld.asserts[n].hi ≤ t.size ∧ (∀ a ∈ B.ld.asserts.take n, a.hi ≤ B.ld.asserts[n].lo) ∧ (∀ a ∈ B.ld.asserts.drop (n + 1), B.ld.asserts[n].hi ≤ a.lo ∧ a.lo ≤ a.hi) ∧
  ∃ B' X', loadOf (cutAt t B.ld.asserts[n].lo B.ld.asserts[n].hi) = .ok B' ∧ B'.ld.asserts = B.ld.asserts.take n ++ X' ∧ All2 (AsrM (B.ld.asserts[n].hi - B.ld.asserts[n].lo)) (B.ld.asserts.drop (n + 1)) X' := by
 obtain ⟨T, R, h1, h2, h3, h4, h5⟩ := load_parts h
 obtain ⟨k, hk, L1, L2, a1, a2, a3, a4, a5⟩ := asr_nth R.out Ld.new B.ld h4 n (Nat.zero_le _) hn
 obtain ⟨TA, TI, TB, RA, RS, b1, b2, b3, b4, b5, b6, b7, b8, b9⟩ := read_nth k T Rd.init R R.out h2 Rd.init_idle (by simp [Rd.init]) hk
 have hlab := b9 (kind_lab a4.kind)
 rw [b1] at h1
 obtain ⟨c1, c2, c3, c4, TB', c5, c6⟩ := cut_scan (y := R.out[k].end_) h1 hlab (by simp)
 have hlo : B.ld.asserts[n].lo = R.out[k].label.at_.off := by unfold Asr.lo; rw [a4.at_]
 have hhi : B.ld.asserts[n].hi = R.out[k].end_.fin := by unfold Asr.hi; rw [a4.end_]
 rw [hlo, hhi]
 have hne := scan_ne h1
 have b4' : RA.out = R.out.take k := by simpa [Rd.init] using b4
 have hRX : R.out = RS.out ++ R.out.drop (k + 1) := by
  rw [b7, b4', List.append_assoc, List.singleton_append]
  conv => lhs; rw [← List.take_append_drop k R.out, List.drop_eq_getElem_cons hk]
 have hA : ∀ a ∈ B.ld.asserts.take n, a.hi ≤ R.out[k].label.at_.off := fun a ha => by
  rw [← a2] at ha
  obtain ⟨m, hm, rfl⟩ := List.getElem_of_mem ha
  obtain ⟨k0, hk0, M1, M2, -, -, -, e4, -⟩ := asr_nth _ _ _ a1 m (Nat.zero_le _) hm
  have ht := (read_toks b2 Rd.init_idle (ss := R.out.take k) (by rw [b4]) (List.getElem_mem hk0)).1
  have := c3 _ ht
  unfold Asr.hi
  rw [e4.end_]
  exact this
 have hB : ∀ a ∈ B.ld.asserts.drop (n + 1), R.out[k].end_.fin ≤ a.lo ∧ a.lo ≤ a.hi ∧ a.at_.text.size ≠ 0 ∧ a.end_.text.size ≠ 0 := fun a ha => by
  obtain ⟨m, hm, rfl⟩ := List.getElem_of_mem ha
  have hm' : n + 1 + m < B.ld.asserts.length := by rw [List.length_drop] at hm; omega
  rw [List.getElem_drop]
  have hL2 : L2.asserts.length = n + 1 := by rw [a4.asr, a2]; simp; omega
  obtain ⟨k0, hk0, M1, M2, -, -, -, e4, -⟩ := asr_nth _ _ _ a5 (n + 1 + m) (by omega) hm'
  have ht := read_toks b8 b6 (ss := R.out.drop (k + 1)) hRX (List.getElem_mem hk0)
  have hl := ht.2 (kind_lab e4.kind)
  have n1 := hne _ (show _ ∈ TA ++ (TI ++ [R.out[k].end_]) ++ TB from List.mem_append_right _ hl)
  have n2 := hne _ (show _ ∈ TA ++ (TI ++ [R.out[k].end_]) ++ TB from List.mem_append_right _ ht.1)
  have hle : (R.out.drop (k + 1))[k0].label.at_.off ≤ (R.out.drop (k + 1))[k0].end_.fin := by
   obtain ⟨UA, UI, UB, SA, SS, d1, -, -, -, -, -, -, -, d9⟩ := read_nth k0 TB RS R (R.out.drop (k + 1)) b8 b6 hRX hk0
   have hl2 := d9 (kind_lab e4.kind)
   have h1' := h1
   rw [d1] at h1'
   rw [show TA ++ (TI ++ [R.out[k].end_]) ++ (UA ++ (UI ++ [(R.out.drop (k + 1))[k0].end_]) ++ UB) = (TA ++ (TI ++ [R.out[k].end_]) ++ UA) ++ (UI ++ [(R.out.drop (k + 1))[k0].end_]) ++ UB by simp] at h1'
   exact (cut_scan (y := (R.out.drop (k + 1))[k0].end_) h1' hl2 (by simp)).1
  unfold Asr.lo Asr.hi
  rw [e4.at_, e4.end_]
  exact ⟨c4 _ hl, hle, n1, n2⟩
 refine ⟨c1, c2, hA, fun a ha => ⟨(hB a ha).1, (hB a ha).2.1⟩, ?_⟩
 obtain ⟨R2, r1, r2⟩ := readSt_rel TB TB' c6 (RdX.start b6 b3) b8
 obtain ⟨X, X', e1, e2, e3⟩ := r2.out
 have hX : X = R.out.drop (k + 1) := List.append_cancel_left (e1.symm.trans hRX)
 subst hX
 have hR2 : R2.Idle := by
  constructor
  ·have := r2.now; rw [h3.now] at this
   cases hc : R2.now with
   | none => rfl
   | some s => rw [hc] at this; exact this.elim
  ·have := r2.label; rw [h3.label] at this
   cases hc : R2.label with
   | none => rfl
   | some s => rw [hc] at this; exact this.elim
 have hread : readSt (TA ++ TB') Rd.init = some R2 := by rw [readSt_app, b2]; exact r1
 obtain ⟨M', m1, m2⟩ := LdR.takeAll _ _ e3 (a4.rel (R.out[k].end_.fin - R.out[k].label.at_.off)) a5
 have htake : Ld.new.takeAll R2.out = .ok M' := by
  rw [e2, b4', takeAll_app, a1]
  exact m1
 obtain ⟨Y, Y', y1, y2, y3⟩ := m2.asr
 have hY : Y = B.ld.asserts.drop (n + 1) := by
  rw [a4.asr, a2] at y1
  have e : B.ld.asserts = (B.ld.asserts.take n ++ [B.ld.asserts[n]]) ++ B.ld.asserts.drop (n + 1) := by
   rw [List.append_assoc, List.singleton_append, ← List.drop_eq_getElem_cons hn, List.take_append_drop]
  exact List.append_cancel_left (y1.symm.trans e)
 subst hY
 refine ⟨_, Y', load_of_parts c5 hread hR2 htake (by rw [m2.tbl.scopes]; exact h5), by dsimp only; rw [y2, a2], ?_⟩
 have key : ∀ (l l' : List Asr), All2 (AsrR (R.out[k].end_.fin - R.out[k].label.at_.off)) l l' → (∀ a ∈ l, a.at_.text.size ≠ 0 ∧ a.end_.text.size ≠ 0) → All2 (AsrM (R.out[k].end_.fin - R.out[k].label.at_.off)) l l' := by
  intro l
  induction l with
  | nil => intro l' hl hx; cases l' with
   | nil => trivial
   | cons b l' => exact hl.elim
  | cons a l ih => intro l' hl hx; cases l' with
   | nil => exact hl.elim
   | cons b l' =>
    obtain ⟨n1, n2⟩ := hx a List.mem_cons_self
    refine ⟨⟨hl.1, hl.1.at_.off n1, ?_⟩, ih l' hl.2 fun x hx' => hx x (List.mem_cons_of_mem _ hx')⟩
    have o1 := hl.1.end_.off n2
    have o2 := hl.1.end_.text
    show b.end_.at_.off + b.end_.text.size + _ = a.end_.at_.off + a.end_.text.size
    rw [o2]
    omega
 exact key _ _ y3 fun a ha => ⟨(hB a ha).2.2.1, (hB a ha).2.2.2⟩
end Go.Proofs.YtdhkmfpfbjcdiaaGreatDoor
namespace Go.Proofs.YtdhkmfpfbjcdiaaGreatDoor
open Go.RowKit
section
variable {P : Program} {ops : Array Oper} {rest : List Oper} {o : Oper} {a : Act} {Q : Exit → Act → World → Prop}
end
theorem inS_fallStep {s : ByteArray} {p : List ByteArray × Bool} (h : inS s p.1 = true) (a : Asr) : inS s (fallStep p a).1 = true := by
 unfold fallStep
 split
 ·exact h
 ·split
  ·rw [inS_snoc, h]; rfl
  ·exact h
theorem inS_fallFold {s : ByteArray} : ∀ (l : List Asr) (p : List ByteArray × Bool), inS s p.1 = true → inS s (l.foldl fallStep p).1 = true
 | [], p, h => h
 | a :: l, p, h => inS_fallFold l _ (inS_fallStep h a)
theorem inS_fallGo {s : ByteArray} (L : List Asr) : ∀ (f : Nat) (S : List ByteArray), inS s S = true → inS s (fallGo L f S) = true
 | 0, S, h => h
 | f + 1, S, h => by
  have h2 := inS_fallFold L (S, false) h
  rw [fallGo]
  split
  ·exact inS_fallGo L f _ h2
  ·exact h2
theorem outTo_mem (S : List ByteArray) (L : List Asr) {k : Nat} (hk : k < L.length) (h : inS L[k].label S = true) : ∀ m, k < m → m ≤ L.length → (k : Int) ∈ outTo S L m
 | 0, h1, _ => by omega
 | m + 1, h1, h2 => by
  rw [outTo_step S L m (by omega)]
  by_cases hm : k = m
  ·subst hm
   rw [if_pos h]
   simp
  ·have := outTo_mem S L hk h m (by omega) (by omega)
   split
   ·exact List.mem_append_left _ this
   ·exact this
theorem fallsOf_self (L : List Asr) (n : Nat) (hn : n < L.length) : (n : Int) ∈ fallsOf L n := by
 rw [falls_eq L n hn]
 exact outTo_mem _ _ hn (inS_fallGo L _ _ (by simp [inS, setM, aget])) _ hn (Nat.le_refl _)
structure PF (w0 W : World) (l : List Int) (gx cx : Nat) (lx : List Int) (gy cy : Nat) (ly : List Int) (wv : Value) : Prop where
 rx : Row W 3 1 (.slice (some ⟨gx, 0, none⟩) l.length cx) l.length (intCells lx)
 ry : Row W 3 1 (.slice (some ⟨gy, 0, none⟩) l.length cy) l.length (intCells ly)
 rw : Row W 3 1 wv l.length (intCells l)
 same : Same [] w0 W
 fx : w0.heap.size ≤ gx
 fy : w0.heap.size ≤ gy
 xy : gx ≠ gy
 wx : wv.ownBlock ≠ some gx
 wy : wv.ownBlock ≠ some gy
theorem PF.swap {w0 W : World} {l : List Int} {gx cx : Nat} {lx : List Int} {gy cy : Nat} {ly : List Int} {wv : Value} (h : PF w0 W l gx cx lx gy cy ly wv) : PF w0 W l gy cy ly gx cx lx wv := ⟨h.ry, h.rx, h.rw, h.same, h.fy, h.fx, h.xy.symm, h.wy, h.wx⟩
structure PG (w0 W : World) (l : List Int) (gx gy : Nat) (wv cv : Value) (m : Nat) (p : Int) (dv : Value) (m' : Nat) (q : Int) : Prop where
 rc : Row W 3 1 cv (l.length + m) (intCells (List.replicate (l.length + m) p))
 rd : Row W 3 1 dv (l.length + m') (intCells (List.replicate (l.length + m') q))
 rw : Row W 3 1 wv l.length (intCells l)
 hx : ∀ i, i < l.length → W.cell? ⟨gx, i, none⟩ = some (.int .i64 p)
 hy : ∀ i, i < l.length → W.cell? ⟨gy, i, none⟩ = some (.int .i64 q)
 lx : gx < W.heap.size
 ly : gy < W.heap.size
 same : Same [] w0 W
 fc : FreshB w0 cv
 fd : FreshB w0 dv
 cd : ∀ b, cv.ownBlock = some b → dv.ownBlock ≠ some b
 cy : cv.ownBlock ≠ some gy
 dx : dv.ownBlock ≠ some gx
 cw : ∀ b, cv.ownBlock = some b → wv.ownBlock ≠ some b
 dw : ∀ b, dv.ownBlock = some b → wv.ownBlock ≠ some b
theorem PG.swap {w0 W : World} {l : List Int} {gx gy : Nat} {wv cv : Value} {m : Nat} {p : Int} {dv : Value} {m' : Nat} {q : Int} (h : PG w0 W l gx gy wv cv m p dv m' q) : PG w0 W l gy gx wv dv m' q cv m p :=
 ⟨h.rd, h.rc, h.rw, h.hy, h.hx, h.ly, h.lx, h.same, h.fd, h.fc, fun b hb hc => h.cd b hc hb, h.dx, h.cy, h.dw, h.cw⟩
theorem PF.pg {w0 W : World} {l : List Int} {gx cx gy cy : Nat} {wv : Value} {p q : Int} (h : PF w0 W l gx cx (List.replicate l.length p) gy cy (List.replicate l.length q) wv) (h0 : 0 < l.length) : PG w0 W l gx gy wv (.slice (some ⟨gx, 0, none⟩) l.length cx) 0 p (.slice (some ⟨gy, 0, none⟩) l.length cy) 0 q := by
 have hc : ∀ {g c : Nat} {r : Int}, Row W 3 1 (.slice (some ⟨g, 0, none⟩) l.length c) l.length (intCells (List.replicate l.length r)) → ∀ i, i < l.length → W.cell? ⟨g, i, none⟩ = some (.int .i64 r) := fun {g c r} hr i hi => by
  obtain ⟨g', hg, h1, -⟩ := int_elem hr (k := i) (by simpa using hi)
  cases hg
  simpa using h1
 refine ⟨h.rx, h.ry, h.rw, hc h.rx, hc h.ry, h.rx.lt rfl, h.ry.lt rfl, h.same, ?_, ?_, ?_, ?_, ?_, ?_, ?_⟩
 ·intro b hb; simp [Value.ownBlock] at hb; subst hb; exact h.fx
 ·intro b hb; simp [Value.ownBlock] at hb; subst hb; exact h.fy
 ·intro b hb hc; simp [Value.ownBlock] at hb hc; subst hb; exact h.xy hc.symm
 ·intro hb; simp [Value.ownBlock] at hb; exact h.xy hb
 ·intro hb; simp [Value.ownBlock] at hb; exact h.xy hb.symm
 ·intro b hb hc; simp [Value.ownBlock] at hb; subst hb; exact h.wx hc
 ·intro b hb hc; simp [Value.ownBlock] at hb; subst hb; exact h.wy hc
theorem PG.next {w0 W W' : World} {l : List Int} {gx gy : Nat} {wv cv : Value} {m : Nat} {p : Int} {dv : Value} {m' : Nat} {q : Int} (h : PG w0 W l gx gy wv cv m p dv m' q) (hs : Same [] W W') : PG w0 W' l gx gy wv cv m p dv m' q :=
 ⟨h.rc.same hs (by simp), h.rd.same hs (by simp), h.rw.same hs (by simp), fun i hi => hs.cell (h.hx i hi) (by simp), fun i hi => hs.cell (h.hy i hi) (by simp), Nat.lt_of_lt_of_le h.lx hs.size, Nat.lt_of_lt_of_le h.ly hs.size, h.same.trans hs, h.fc, h.fd, h.cd, h.cy, h.dx, h.cw, h.dw⟩
theorem PG.push {w0 W W' : World} {l : List Int} {gx gy : Nat} {wv cv : Value} {m : Nat} {p : Int} {dv : Value} {m' : Nat} {q : Int} (h : PG w0 W l gx gy wv cv m p dv m' q) {v' : Value}
  (hr : Row W' 3 1 v' (l.length + m + 1) (intCells (List.replicate (l.length + m) p) ++ [.int .i64 p])) (hs : Same cv.ownBlock.toList W W') (ho : v'.ownBlock = cv.ownBlock ∨ ((∃ b, v'.ownBlock = some b ∧ W.heap.size ≤ b) ∧ Same [] W W')) : PG w0 W' l gx gy wv v' (m + 1) p dv m' q := by
 have hr' : Row W' 3 1 v' (l.length + (m + 1)) (intCells (List.replicate (l.length + (m + 1)) p)) := by
  rw [← Nat.add_assoc, List.replicate_succ', intCells_snoc]
  exact hr
 have hold : ∀ b, cv.ownBlock ≠ some b → b ∉ cv.ownBlock.toList := fun b hb hm => hb (Option.mem_toList.1 hm)
 have hnew : ∀ b, v'.ownBlock = some b → cv.ownBlock = some b ∨ W.heap.size ≤ b := fun b hb => by
  rcases ho with ho | ⟨⟨b', h1, h2⟩, -⟩
  ·exact .inl (ho ▸ hb)
  ·rw [h1] at hb; cases hb; exact .inr h2
 refine ⟨hr', h.rd.same hs fun b hb => hold b fun hc => h.cd b hc hb, h.rw.same hs fun b hb => hold b fun hc => h.cw b hc hb, fun i hi => ?_, fun i hi => hs.cell (h.hy i hi) (hold _ h.cy), Nat.lt_of_lt_of_le h.lx hs.size, Nat.lt_of_lt_of_le h.ly hs.size, h.same.then hs fun x hx => .inr (h.fc x (Option.mem_toList.1 hx)), fun b hb => ?_, h.fd, fun b hb hd => ?_, fun hb => ?_, h.dx, fun b hb hw => ?_, h.dw⟩
 ·rcases ho with ho | ⟨-, h2⟩
  ·by_cases hg : cv.ownBlock = some gx
   ·obtain ⟨A, c, rfl⟩ := hr'.shape
    obtain ⟨g, hA, h1, -⟩ := int_elem hr' (k := i) (by simp; omega)
    subst hA
    rw [hg] at ho
    simp [Value.ownBlock] at ho
    subst ho
    simpa using h1
   ·exact hs.cell (h.hx i hi) (hold _ hg)
  ·exact h2.cell (h.hx i hi) (by simp)
 ·rcases hnew b hb with h1 | h1
  ·exact h.fc b h1
  ·exact Nat.le_trans h.same.size h1
 ·rcases hnew b hb with h1 | h1
  ·exact h.cd b h1 hd
  ·have := h.rd.lt hd; omega
 ·rcases hnew gy hb with h1 | h1
  ·exact h.cy h1
  ·have := h.ly; omega
 ·rcases hnew b hb with h1 | h1
  ·exact h.cw b h1 hw
  ·have := h.rw.lt hw; omega
end Go.Proofs.YtdhkmfpfbjcdiaaGreatDoor
