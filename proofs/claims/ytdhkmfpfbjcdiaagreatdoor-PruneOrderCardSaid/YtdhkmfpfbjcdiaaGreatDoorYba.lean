/- lemmalaw texts, part 27. -/
import Derived.Test.YtdhkmfpfbjcdiaaGreatDoorYay
import Derived.Test.YtdhkmfpfbjcdiaaGreatDoorYaz
set_option maxRecDepth 100000
set_option linter.unusedVariables false
set_option linter.unusedSimpArgs false
set_option maxHeartbeats 32000000
namespace Go.Proofs.YtdhkmfpfbjcdiaaGreatDoor
theorem label_ok {T : Tbl} {s : ByteArray} (h : (T.label s).1 = 0) : (T.label s).2.labels.length = T.labels.length + 1 ∧ T.labels.length < 1024 := by
 unfold Tbl.label at h ⊢
 split at h
 ·simp at h
 ·split at h
  ·simp at h
  ·split at h
   ·simp at h
   ·rename_i h1 h2 h3
    rw [if_neg h1, if_neg h2, if_neg h3]
    exact ⟨by simp, by omega⟩
theorem openS_labels (T : Tbl) : T.openS.2.labels = T.labels := by unfold Tbl.openS; split <;> rfl
theorem close_labels (T : Tbl) : T.close.2.labels = T.labels := by unfold Tbl.close; split <;> rfl
theorem const_labels (T : Tbl) (s : ByteArray) : (T.const s).2.2.labels = T.labels := by unfold Tbl.const; (repeat' split) <;> rfl
theorem var_labels (T : Tbl) (s : ByteArray) : (T.var s).2.2.labels = T.labels := by unfold Tbl.var; (repeat' split) <;> rfl
theorem mem_putP {s : List Pr} {p x : Pr} : x ∈ putP s p ↔ x ∈ s ∨ (p.1 ≠ p.2 ∧ x = turnP p) := by
 unfold putP
 split
 ·rename_i h; simp [h]
 ·rename_i h
  rw [mem_insP]
  simp [h, or_comm]
theorem mem_foldP {x : Pr} : ∀ (ps : List Pr) {s : List Pr}, x ∈ ps.foldl putP s ↔ x ∈ s ∨ ∃ p ∈ ps, p.1 ≠ p.2 ∧ x = turnP p
 | [], s => by simp
 | p :: ps, s => by
  rw [List.foldl_cons, mem_foldP ps, mem_putP]
  simp only [List.mem_cons, exists_eq_or_imp, or_assoc]
theorem sorted_foldP : ∀ (ps : List Pr) {s : List Pr}, SortedP s → SortedP (ps.foldl putP s)
 | [], s, h => h
 | p :: ps, s, h => sorted_foldP ps (sorted_putP h)
theorem mem_unionP {a b : List Pr} {x : Pr} : x ∈ unionP a b ↔ (∃ p ∈ a, p.1 ≠ p.2 ∧ x = turnP p) ∨ ∃ p ∈ b, p.1 ≠ p.2 ∧ x = turnP p := by
 unfold unionP
 rw [mem_foldP, mem_foldP]
 simp
theorem sorted_unionP (a b : List Pr) : SortedP (unionP a b) := sorted_foldP _ (sorted_foldP _ (by simp [SortedP]))
theorem turnP_turnP (p : Pr) : turnP (turnP p) = turnP p := by
 unfold turnP
 split
 ·rename_i h
  rw [if_neg (by dsimp only; omega)]
 ·rfl
theorem turnP_ne {p : Pr} (h : p.1 ≠ p.2) : (turnP p).1 ≠ (turnP p).2 := by
 unfold turnP
 split
 ·exact fun e => h e.symm
 ·exact h
theorem mem_activeS {x : Pr} : ∀ (k : Nat) (l : List Sc), l.length = k → (x ∈ activeS l ↔ ∃ sc ∈ l, ∃ p ∈ sc.pairs, p.1 ≠ p.2 ∧ x = turnP p)
 | 0, l, hl => by
  have : l = [] := List.eq_nil_of_length_eq_zero hl
  subst this
  simp [activeS]
 | k + 1, l, hl => by
  obtain ⟨i, y, rfl⟩ : ∃ i y, l = i ++ [y] := by
   have hne : l ≠ [] := by intro he; rw [he] at hl; simp at hl
   exact ⟨l.dropLast, l.getLast hne, (List.dropLast_concat_getLast hne).symm⟩
  rw [activeS_snoc, mem_unionP]
  simp only [List.length_append, List.length_singleton, Nat.add_right_cancel_iff] at hl
  have ih : ∀ x, x ∈ activeS i ↔ _ := fun x => mem_activeS (x := x) k i hl
  constructor
  ·rintro (⟨p, hp, h1, h2⟩ | ⟨p, hp, h1, h2⟩)
   ·obtain ⟨sc, h3, q, h4, h5, rfl⟩ := (ih p).1 hp
    exact ⟨sc, List.mem_append_left _ h3, q, h4, h5, by rw [h2, turnP_turnP]⟩
   ·exact ⟨y, by simp, p, hp, h1, h2⟩
  ·rintro ⟨sc, h3, q, h4, h5, h6⟩
   rcases List.mem_append.1 h3 with h3 | h3
   ·exact .inl ⟨turnP q, (ih _).2 ⟨sc, h3, q, h4, h5, rfl⟩, turnP_ne h5, by rw [h6, turnP_turnP]⟩
   ·simp at h3
    subst h3
    exact .inr ⟨q, h4, h5, h6⟩
theorem union_le {s : List Sc} {sc : Sc} (hs : sc ∈ s) (m : List Pr) : (unionP sc.pairs m).length ≤ (unionP (activeS s) m).length := by
 refine (nodup_of_sorted (sorted_unionP sc.pairs m)).length_le_of_subset fun x hx => ?_
 rw [mem_unionP] at hx ⊢
 rcases hx with ⟨p, hp, h1, h2⟩ | h
 ·exact .inl ⟨turnP p, (mem_activeS _ s rfl).2 ⟨sc, hs, p, hp, h1, rfl⟩, turnP_ne h1, by rw [h2, turnP_turnP]⟩
 ·exact .inr h
theorem onLast_eq (f : Sc → Sc) : ∀ (l : List Sc) (x : Sc), onLast f (l ++ [x]) = l ++ [f x]
 | [], x => rfl
 | [y], x => rfl
 | y :: z :: l, x => by
  have := onLast_eq f (z :: l) x
  simp only [List.cons_append, onLast] at this ⊢
  rw [this]
theorem scopeHyps_app (a b : List Sc) : scopeHyps (a ++ b) = scopeHyps a ++ scopeHyps b := by simp [scopeHyps]
structure Ld.Ok (L : Ld) : Prop where
 tbl : L.tbl.Ok
 lab : L.labels = L.tbl.labels.length
 hyps : (scopeHyps L.scs).length ≤ L.labels
 sc : ∀ sc ∈ L.scs, sc.pairs.length ≤ 256 ∧ ∀ h ∈ sc.hyps, h.expr.length ≤ 200
 asr : L.asserts.length ≤ L.labels
 ne : L.scs ≠ []
theorem Ld.Ok.le {L : Ld} (h : L.Ok) : L.labels ≤ 1024 := by rw [h.lab]; exact h.tbl.labels
theorem mem_scopeHyps_len {l : List Sc} {sc : Sc} (h : sc ∈ l) : sc.hyps.length ≤ (scopeHyps l).length := by
 obtain ⟨a, b, rfl⟩ := List.append_of_mem h
 rw [scopeHyps_app]
 simp [scopeHyps]
 omega
theorem Ld.Ok.small {L : Ld} (h : L.Ok) : Small L.scs := fun sc hsc => by
 have h1 := mem_scopeHyps_len hsc
 have h2 := h.hyps
 have h3 := h.le
 obtain ⟨h4, h5⟩ := h.sc sc hsc
 exact ⟨by omega, by omega, fun x hx => by have := h5 x hx; omega⟩
theorem Ld.Ok.new : Ld.new.Ok := ⟨Tbl.Ok.empty, rfl, by simp [Ld.new, scopeHyps], by simp [Ld.new], by simp [Ld.new], by simp [Ld.new]⟩
theorem Ld.Ok.setTbl {L : Ld} (h : L.Ok) {T : Tbl} (hT : T.Ok) (hl : T.labels = L.tbl.labels) : Ld.Ok { L with tbl := T } := ⟨hT, by rw [hl]; exact h.lab, h.hyps, h.sc, h.asr, h.ne⟩
theorem Ld.Ok.openB {L : Ld} (h : L.Ok) : Ld.Ok { L with scs := openS' L.scs } := by
 unfold openS'
 split
 ·exact h
 ·refine ⟨h.tbl, h.lab, by dsimp only; rw [scopeHyps_app]; simpa [scopeHyps] using h.hyps, fun sc hsc => ?_, h.asr, by simp⟩
  rcases List.mem_append.1 hsc with hsc | hsc
  ·exact h.sc sc hsc
  ·simp at hsc; subst hsc; simp
theorem Ld.Ok.closeB {L : Ld} (h : L.Ok) : Ld.Ok { L with scs := closeS' L.scs } := by
 unfold closeS'
 split
 ·exact h
 ·rename_i hn
  refine ⟨h.tbl, h.lab, ?_, fun sc hsc => h.sc sc (List.dropLast_subset _ hsc), h.asr, ?_⟩
  ·have h1 := h.hyps
   have h2 := congrArg scopeHyps (List.dropLast_concat_getLast h.ne)
   rw [scopeHyps_app] at h2
   have h3 := congrArg List.length h2
   rw [List.length_append] at h3
   dsimp only
   omega
  ·intro he
   have : L.scs.dropLast.length = 0 := by dsimp only at he; rw [he]; rfl
   simp at this
   omega
theorem onLast_snoc' {L : List Sc} (h : L ≠ []) (f : Sc → Sc) : ∃ i x, L = i ++ [x] ∧ onLast f L = i ++ [f x] :=
 ⟨L.dropLast, L.getLast h, (List.dropLast_concat_getLast h).symm, by
  conv => lhs; rw [← List.dropLast_concat_getLast h]
  exact onLast_eq _ _ _⟩
theorem Ld.Ok.dist {L : Ld} (h : L.Ok) (vars : Int → Bool) (l : List Int) : Ld.Ok { L with scs := (distS vars L.scs l).2 } := by
 unfold distS
 split
 ·exact h
 ·split
  ·exact h
  ·split
   ·exact h
   ·split
    ·exact h
    ·rename_i hlt
     obtain ⟨i, x, hL, ho⟩ := onLast_snoc' h.ne (fun x => { x with pairs := unionP x.pairs (allP l) })
     have hx := union_le (s := L.scs) (sc := x) (by rw [hL]; simp) (allP l)
     refine ⟨h.tbl, h.lab, ?_, ?_, h.asr, ?_⟩
     ·dsimp only
      rw [ho, scopeHyps_app]
      have := h.hyps
      rw [hL, scopeHyps_app] at this
      simpa [scopeHyps] using this
     ·dsimp only
      rw [ho]
      intro sc hsc
      rcases List.mem_append.1 hsc with hsc | hsc
      ·exact h.sc sc (by rw [hL]; exact List.mem_append_left _ hsc)
      ·simp at hsc
       subst hsc
       exact ⟨by dsimp only; omega, (h.sc x (by rw [hL]; simp)).2⟩
     ·dsimp only; rw [ho]; simp
theorem Ld.Ok.decl {L : Ld} (h : L.Ok) (x : Hy) (hx : x.expr.length ≤ 200) {T : Tbl} (hT : T.Ok) (hl : T.labels.length = L.tbl.labels.length + 1) (m : List (ByteArray × Hy)) : Ld.Ok { L with scs := declS L.scs x, labels := L.labels + 1, tbl := T, hyps := m } := by
 unfold declS
 obtain ⟨i, y, hL, ho⟩ := onLast_snoc' h.ne (fun y => { y with hyps := y.hyps ++ [x] })
 refine ⟨hT, by dsimp only; rw [hl, h.lab], ?_, ?_, by have := h.asr; dsimp only; omega, ?_⟩
 ·dsimp only
  rw [ho, scopeHyps_app]
  have := h.hyps
  rw [hL, scopeHyps_app] at this
  simp [scopeHyps] at this ⊢
  omega
 ·dsimp only
  rw [ho]
  intro sc hsc
  rcases List.mem_append.1 hsc with hsc | hsc
  ·exact h.sc sc (by rw [hL]; exact List.mem_append_left _ hsc)
  ·simp at hsc
   subst hsc
   have := h.sc y (by rw [hL]; simp)
   refine ⟨this.1, fun z hz => ?_⟩
   rcases List.mem_append.1 hz with hz | hz
   ·exact this.2 z hz
   ·simp at hz; subst hz; exact hx
 ·dsimp only; rw [ho]; simp
theorem Ld.Ok.lab1 {L : Ld} (h : L.Ok) {T : Tbl} (hT : T.Ok) (hl : T.labels.length = L.tbl.labels.length + 1) (m : List (ByteArray × Hy)) : Ld.Ok { L with labels := L.labels + 1, tbl := T, hyps := m } :=
 ⟨hT, by dsimp only; rw [hl, h.lab], by have := h.hyps; dsimp only; omega, h.sc, by have := h.asr; dsimp only; omega, h.ne⟩
theorem bind_ok {α β : Type} {x : Ex α} {f : α → Ex β} {b : β} (h : x.bind f = .ok b) : ∃ a, x = .ok a ∧ f a = .ok b := by
 cases x with
 | error e => cases h
 | ok a => exact ⟨a, rfl, h⟩
theorem needE_ok {t : Tk} {e : Nat} {u : Unit} (h : needE t e = .ok u) : e = 0 := by
 unfold needE at h
 split at h
 ·assumption
 ·cases h
theorem exprGo_len (L : Ld) : ∀ (ws : List Tk) (e r : List Int), e.length ≤ 200 → L.exprGo ws e = .ok r → r.length ≤ 200
 | [], e, r, he, h => by rw [Ld.exprGo] at h; cases h; exact he
 | w :: ws, e, r, he, h => by
  rw [Ld.exprGo] at h
  split at h
  ·cases h
  ·rename_i hne
   obtain ⟨n, -, h⟩ := bind_ok h
   have hl : (e ++ [n]).length ≤ 200 := by simp; omega
   split at h
   ·split at h
    ·cases h
    ·split at h
     ·exact exprGo_len L ws _ r hl h
     ·cases h
   ·exact exprGo_len L ws _ r hl h
theorem floatGo_len (L : Ld) : ∀ (ws : List Tk) (e r : List Int), L.floatGo ws e = .ok r → r.length = e.length + ws.length
 | [], e, r, h => by rw [Ld.floatGo] at h; cases h; simp
 | w :: ws, e, r, h => by
  rw [Ld.floatGo] at h
  split at h
  ·rename_i he
   subst he
   obtain ⟨n, -, h⟩ := bind_ok h
   split at h
   ·cases h
   ·have := floatGo_len L ws _ r h
    simp at this ⊢
    omega
  ·obtain ⟨n, -, h⟩ := bind_ok h
   split at h
   ·cases h
   ·have := floatGo_len L ws _ r h
    simp at this ⊢
    omega
def St.Good (s : St) : Prop := s.kind = 3 → s.whole = true → s.words.length = 2
theorem constGo_ok : ∀ (ws : List Tk) {L L' : Ld}, L.Ok → L.constGo ws = .ok L' → L'.Ok
 | [], L, L', h, hx => by rw [Ld.constGo] at hx; cases hx; exact h
 | w :: ws, L, L', h, hx => by
  rw [Ld.constGo] at hx
  obtain ⟨_, -, hx⟩ := bind_ok hx
  exact constGo_ok ws (h.setTbl (h.tbl.const w.text) (const_labels _ _)) hx
theorem varGo_ok : ∀ (ws : List Tk) {L L' : Ld}, L.Ok → L.varGo ws = .ok L' → L'.Ok
 | [], L, L', h, hx => by rw [Ld.varGo] at hx; cases hx; exact h
 | w :: ws, L, L', h, hx => by
  rw [Ld.varGo] at hx
  obtain ⟨_, -, hx⟩ := bind_ok hx
  exact varGo_ok ws (h.setTbl (h.tbl.var w.text) (var_labels _ _)) hx
theorem hyp_ok {L M : Ld} (h : L.Ok) {s : St} {x : Hy} (hx : L.hyp s x = .ok M) : M.Ok ∧ M.tbl = (L.tbl.label x.label).2 ∧ M.scs = L.scs ∧ (L.tbl.label x.label).1 = 0 ∧ M = { L with labels := L.labels + 1, tbl := (L.tbl.label x.label).2, hyps := aput x.label x L.hyps } := by
 unfold Ld.hyp at hx
 obtain ⟨_, h1, hx⟩ := bind_ok hx
 have h0 := needE_ok h1
 cases hx
 exact ⟨h.lab1 (h.tbl.label _) (label_ok h0).1 _, rfl, rfl, h0, rfl⟩
theorem act_ok {L L' : Ld} (h : L.Ok) {s : St} (hg : s.Good) (hx : L.act s = .ok L') : L'.Ok := by
 unfold Ld.act at hx
 split at hx
 ·obtain ⟨_, -, hx⟩ := bind_ok hx
  cases hx
  exact (h.setTbl h.tbl.openS (openS_labels _)).openB
 ·split at hx
  ·obtain ⟨_, -, hx⟩ := bind_ok hx
   cases hx
   exact (h.setTbl h.tbl.close (close_labels _)).closeB
  ·split at hx
   ·split at hx
    ·cases hx
    ·exact constGo_ok _ h hx
   ·split at hx
    ·exact varGo_ok _ h hx
    ·split at hx
     ·obtain ⟨v, -, hx⟩ := bind_ok hx
      split at hx
      ·obtain ⟨_, -, hx⟩ := bind_ok hx
       cases hx
       exact h.dist _ _
      ·cases hx; exact h
     ·split at hx
      ·obtain ⟨e, he, hx⟩ := bind_ok hx
       split at hx
       ·obtain ⟨M, hM, hx⟩ := bind_ok hx
        obtain ⟨_, h1, hx⟩ := bind_ok hx
        have h0 := needE_ok h1
        cases hx
        obtain ⟨h2, h3, h4, h5, rfl⟩ := hyp_ok h hM
        unfold floatS at h0 ⊢
        split at h0
        ·simp at h0
        ·split at h0
         ·simp at h0
         ·split at h0
          ·simp at h0
          ·rename_i a b c
           rw [if_neg a, if_neg b, if_neg c]
           exact h.decl _ (by simp) (h.tbl.label _) (label_ok h5).1 _
       ·cases hx; exact h
      ·split at hx
       ·obtain ⟨e, he, hx⟩ := bind_ok hx
        split at hx
        ·obtain ⟨M, hM, hx⟩ := bind_ok hx
         obtain ⟨_, h1, hx⟩ := bind_ok hx
         have h0 := needE_ok h1
         cases hx
         obtain ⟨h2, h3, h4, h5, rfl⟩ := hyp_ok h hM
         unfold essS at h0 ⊢
         split at h0
         ·rename_i a
          exact absurd h0 a
         ·rename_i a
          rw [if_neg a]
          exact h.decl _ (exprGo_len L _ _ _ (by simp) he) (h.tbl.label _) (label_ok h5).1 _
        ·cases hx; exact h
       ·split at hx
        ·obtain ⟨e, he, hx⟩ := bind_ok hx
         split at hx
         ·unfold Ld.assert at hx
          dsimp only at hx
          obtain ⟨_, -, hx⟩ := bind_ok hx
          obtain ⟨_, h1, hx⟩ := bind_ok hx
          have h0 := needE_ok h1
          cases hx
          exact ⟨h.tbl.label _, by dsimp only; rw [(label_ok h0).1, h.lab], by have := h.hyps; dsimp only; omega, h.sc, by have := h.asr; simp; omega, h.ne⟩
         ·cases hx; exact h
        ·cases hx; exact h
theorem take_ok {L L' : Ld} (h : L.Ok) {s : St} (hg : s.Good) (hx : L.take s = .ok L') : L'.Ok := by
 unfold Ld.take at hx
 split at hx
 ·obtain ⟨_, -, hx⟩ := bind_ok hx
  exact act_ok h hg hx
 ·exact act_ok h hg hx
def TkP (t : Tk) : Prop := t.text.size ≤ 65536
theorem TkP.none : TkP Tk.none := Nat.zero_le _
theorem scanGo_mem : ∀ (l : List It) (out : List Tk) (op : Option Tk), (∀ x ∈ l, TkP x.word) → (∀ x ∈ out, TkP x) → ∀ x ∈ (scanGo l out op).1, TkP x
 | [], out, op, hl, ho, x, hx => by unfold scanGo at hx; exact ho x hx
 | y :: r, out, op, hl, ho, x, hx => by
  have hr : ∀ x ∈ r, TkP x.word := fun x hx => hl x (List.mem_cons_of_mem _ hx)
  unfold scanGo at hx
  split at hx
  ·exact ho x hx
  ·split at hx
   ·split at hx
    ·exact scanGo_mem r _ _ hr ho x hx
    ·split at hx
     ·exact ho x hx
     ·exact scanGo_mem r _ _ hr ho x hx
   ·split at hx
    ·exact scanGo_mem r _ _ hr ho x hx
    ·split at hx
     ·exact ho x hx
     ·split at hx
      ·exact ho x hx
      ·refine scanGo_mem r _ _ hr (fun z hz => ?_) x hx
       rcases List.mem_append.1 hz with hz | hz
       ·exact ho z hz
       ·simp at hz; subst hz; exact hl y (List.mem_cons_self ..)
theorem scan_small (t : ByteArray) : ∀ x ∈ (scanOf t).1, TkP x := scanGo_mem _ _ _ (itemsGo_small t t.size 0 _ _ (by omega) (Nat.zero_le _)) (by simp)
structure SIn (n : Nat) (s : St) : Prop where
 words : ∀ w ∈ s.words, TkP w
 proof : ∀ w ∈ s.proof, TkP w
 label : TkP s.label
 key : TkP s.key
 end_ : TkP s.end_
 wl : s.words.length ≤ n
 pl : s.proof.length ≤ n
theorem SIn.mono {n m : Nat} {s : St} (h : SIn n s) (hm : n ≤ m) : SIn m s := ⟨h.words, h.proof, h.label, h.key, h.end_, Nat.le_trans h.wl hm, Nat.le_trans h.pl hm⟩
structure RIn (n : Nat) (R : Rd) : Prop where
 out : ∀ s ∈ R.out, SIn n s ∧ s.Good
 len : R.out.length ≤ n
 now : ∀ s, R.now = some s → SIn n s ∧ s.kind = R.what + 1 ∧ s.words.length ≤ formM R.what ∧ s.end_ = Tk.none ∧ R.out.length + 1 ≤ n
 lab : ∀ t, R.label = some t → TkP t
theorem RIn.mono {n m : Nat} {R : Rd} (h : RIn n R) (hm : n ≤ m) : RIn m R :=
 ⟨fun s hs => ⟨(h.out s hs).1.mono hm, (h.out s hs).2⟩, Nat.le_trans h.len hm, fun s hs => by obtain ⟨h1, h2, h3, h4, h5⟩ := h.now s hs; exact ⟨h1.mono hm, h2, h3, h4, Nat.le_trans h5 hm⟩, h.lab⟩
theorem lab_small {o : Option Tk} (h : ∀ t, o = some t → TkP t) : TkP (o.getD Tk.none) := by
 cases o with
 | none => exact TkP.none
 | some t => exact h t rfl
theorem RIn.between {n : Nat} {R : Rd} (h : RIn n R) {t : Tk} (ht : TkP t) (hn : R.now = none) : RIn (n + 1) (R.between t).2 := by
 have h' := h.mono (Nat.le_succ n)
 unfold Rd.between
 split
 ·split
  ·exact h'
  ·exact ⟨h'.out, h'.len, h'.now, fun u hu => by cases hu; exact ht⟩
 ·dsimp only
  split
  ·exact h'
  ·split
   ·exact h'
   ·rename_i h9 hlab
    have hS : SIn (n + 1) ⟨keyN t.text + 1, R.label.getD Tk.none, t, false, [], [], Tk.none⟩ := ⟨by simp, by simp, lab_small h.lab, ht, TkP.none, Nat.zero_le _, Nat.zero_le _⟩
    split
    ·rename_i h78
     refine ⟨fun s hs => ?_, by have := h.len; simp; omega, fun s hs => (by simp [hn] at hs), fun u hu => by cases hu⟩
     rcases List.mem_append.1 hs with hs | hs
     ·exact h'.out s hs
     ·simp at hs
      subst hs
      exact ⟨⟨by simp, by simp, lab_small h.lab, ht, ht, Nat.zero_le _, Nat.zero_le _⟩, fun hk => by simp at hk; omega⟩
    ·refine ⟨h'.out, h'.len, fun s hs => ?_, fun u hu => by cases hu⟩
     cases hs
     exact ⟨hS, rfl, Nat.zero_le _, rfl, by have := h.len; dsimp only; omega⟩
theorem RIn.within {n : Nat} {R : Rd} (h : RIn n R) {s : St} {t : Tk} (ht : TkP t) (hn : R.now = some s) : RIn (n + 1) (R.within s t).2 := by
 have h' := h.mono (Nat.le_succ n)
 obtain ⟨h1, h2, h3, h4, h5⟩ := h.now s hn
 unfold Rd.within
 split
 ·split
  ·refine ⟨h'.out, h'.len, fun u hu => ?_, h'.lab⟩
   cases hu
   refine ⟨⟨h1.words, fun w hw => ?_, h1.label, h1.key, h1.end_, Nat.le_succ_of_le h1.wl, by have := h1.pl; simp; omega⟩, h2, h3, h4, Nat.le_succ_of_le h5⟩
   rcases List.mem_append.1 hw with hw | hw
   ·exact h1.proof w hw
   ·simp at hw; subst hw; exact ht
  ·split
   ·exact h'
   ·rename_i hne
    refine ⟨h'.out, h'.len, fun u hu => ?_, h'.lab⟩
    cases hu
    refine ⟨⟨fun w hw => ?_, h1.proof, h1.label, h1.key, h1.end_, by have := h1.wl; simp; omega, Nat.le_succ_of_le h1.pl⟩, h2, by simp; omega, h4, Nat.le_succ_of_le h5⟩
    rcases List.mem_append.1 hw with hw | hw
    ·exact h1.words w hw
    ·simp at hw; subst hw; exact ht
 ·split
  ·split
   ·exact h'
   ·refine ⟨h'.out, h'.len, fun u hu => ?_, h'.lab⟩
    cases hu
    have hm := h1.mono (Nat.le_succ n)
    exact ⟨⟨hm.words, hm.proof, hm.label, hm.key, hm.end_, hm.wl, hm.pl⟩, h2, h3, h4, Nat.le_succ_of_le h5⟩
  ·split
   ·split
    ·exact h'
    ·rename_i hno
     refine ⟨fun u hu => ?_, by simp; omega, fun u hu => (by cases hu), h'.lab⟩
     rcases List.mem_append.1 hu with hu | hu
     ·exact h'.out u hu
     ·simp at hu
      subst hu
      refine ⟨⟨h1.words, h1.proof, h1.label, h1.key, ht, Nat.le_succ_of_le h1.wl, Nat.le_succ_of_le h1.pl⟩, fun hk _ => ?_⟩
      have hw : R.what = 2 := by dsimp only at hk; omega
      rw [hw] at h3 hno
      have e1 : formM 2 = 2 := rfl
      have e2 : formL 2 = 2 := rfl
      simp only [not_or, e2] at hno
      rw [e1] at h3
      dsimp only
      omega
   ·exact h'
theorem RIn.step {n : Nat} {R : Rd} (h : RIn n R) {t : Tk} (ht : TkP t) : RIn (n + 1) (R.step t).2 := by
 unfold Rd.step
 split
 ·rename_i hn; exact h.between ht hn
 ·rename_i s hn; exact h.within ht hn
theorem readGo_in : ∀ (ws : List Tk) (n : Nat) (R : Rd), RIn n R → (∀ w ∈ ws, TkP w) → RIn (n + ws.length) (readGo ws R).1
 | [], n, R, h, _ => h
 | t :: ws, n, R, h, hw => by
  have hs := h.step (hw t (List.mem_cons_self ..))
  unfold readGo
  split
  ·have := readGo_in ws (n + 1) _ hs fun w h => hw w (List.mem_cons_of_mem _ h)
   rw [List.length_cons, show n + (ws.length + 1) = n + 1 + ws.length by omega]
   exact this
  ·exact hs.mono (by simp)
theorem RIn.all {n : Nat} {R : Rd} (h : RIn n R) : (∀ s ∈ R.all, SIn n s ∧ s.Good) ∧ R.all.length ≤ n := by
 unfold Rd.all
 split
 ·exact ⟨h.out, h.len⟩
 ·rename_i s hn
  obtain ⟨h1, h2, h3, h4, h5⟩ := h.now s hn
  refine ⟨fun u hu => ?_, by simpa using h5⟩
  rcases List.mem_append.1 hu with hu | hu
  ·exact h.out u hu
  ·simp at hu
   subst hu
   refine ⟨h1, fun _ hwh => ?_⟩
   unfold St.whole at hwh
   rw [h4] at hwh
   have : Tk.none.text.size = 0 := rfl
   rw [this] at hwh
   simp at hwh
theorem read_good (t : ByteArray) : (∀ s ∈ (readOf t).1, SIn 16384 s ∧ s.Good) ∧ (readOf t).1.length ≤ 16384 := by
 have h0 : RIn 0 ⟨[], none, none, 9, false⟩ := ⟨by simp, by simp, by simp, by simp⟩
 have h := readGo_in (scanOf t).1 0 _ h0 (scan_small t)
 have h2 := (h.mono (m := 16384) (by have := scan_len t; omega)).all
 unfold readOf
 split
 ·rename_i r w e he
  rw [he] at h2
  exact h2
 ·rename_i r he
  rw [he] at h2
  exact h2
end Go.Proofs.YtdhkmfpfbjcdiaaGreatDoor
namespace Go.Proofs.YtdhkmfpfbjcdiaaGreatDoor
open Go.RowKit
theorem symbol_none {L : Ld} {x : Tk} (h : aget x.text L.tbl.active = none) : L.symbol x = .error (x, 30) := by unfold Ld.symbol; rw [h]
theorem symbol_some {L : Ld} {x : Tk} {n : Nat} (h : aget x.text L.tbl.active = some n) : L.symbol x = .ok (n : Int) := by unfold Ld.symbol; rw [h]
theorem bind_error {α β : Type} (x : Tk × Nat) (f : α → Ex β) : (Except.error x : Ex α).bind f = .error x := rfl
theorem bind_okk {α β : Type} (a : α) (f : α → Ex β) : (Except.ok a : Ex α).bind f = f a := rfl
theorem float_calls (w : World) (l nb t s : Nat) (TA : TA) (A : SA) (M : List Nat) (L : Ld) (h : LR w l nb t s TA A M L.tbl L.scs) (va : Value) (ws : List Tk) (hw : Row w 54 4 va ws.length (tkCells ws)) (hn : ws.length ≤ 1000000) :
  Calls Tryz.prog 73 #[.pointer (some ⟨l, 0, none⟩), va] w (IntsX (L.floatGo ws []) w) := by
 obtain ⟨Aw, cw, rfl⟩ := hw.shape
 have H := Kd h
 have Hw := Kd hw
 clear h hw
 go_enter Tryz.func73, Tryz.ntmps73
 go_wp2
 have h0 : FloatI w L ws (.slice none 0 0) (.int .i64 0) w := ⟨0, [], Nat.zero_le _, rfl, rfl, World.ownsRow_nil _ _ _ _, by simp [FreshB, Value.ownBlock], Same.refl _ _, rfl⟩
 have H0 := Kd h0
 clear h0
 go_loopw [5, 14] (fun v u wr => FloatI w L ws v u wr) (fun _ u _ => ws.length - (intOf u).toNat)
 case atStart => exact H0.out
 case round =>
  obtain ⟨k, e, hk, rfl, hek, hrow, hfr, hsm, heq⟩ := hrel
  by_cases hlt : k < ws.length
  ·have hstep := floatGo_at L ws e k hlt
   obtain ⟨g, c, hv, t0, t1, t2, t3, hgl⟩ := tk_elem (Hw.out.same hsm (by simp)) hlt
   cases hv
   have hR := H.out.same hsm
   have l0 := hR.lt.l0
   have n2 := hR.lt.n2
   have l1 := hR.l1
   have ll := World.block_lt_of_cell? _ _ l0
   have nl := World.block_lt_of_cell? _ _ n2
   have hsy := fun (W : World) (hW : Same [] wr W) => symbol_calls W l nb t TA L.tbl (hR.lt.same hW) ws[k]
   have hvr := fun (W : World) (hW : Same [] wr W) => variable_calls W l nb t TA L.tbl (hR.lt.same hW) ws[k]
   have hiv := fun (W : World) (hW : Same [] wr W) (y : Int) => isVar_at hR.lt.tbl W hW y
   have hty := fun (W : World) (hW : Same [] wr W) (v : Int) => Type_calls W s t A M L.scs (hR.stk.same hW) hR.small v
   have hst72 := fun W => stop_calls W ws[k] 72
   have hst70 := fun W => stop_calls W ws[k] 70
   unfold tkV at hsy hvr hst72 hst70
   rcases Nat.eq_zero_or_pos k with hk0 | hkp
   ·have he0 : e = [] := List.eq_nil_of_length_eq_zero (by omega)
    subst he0
    rw [if_pos rfl] at hstep
    have hkz : ((k : Int) == 0) = true := by rw [beq_iff_eq]; omega
    have HK0 := Kd hk0
    clear hk0 hek
    cases ha : aget ws[k].text L.tbl.active with
    | none =>
     rw [symbol_none ha, bind_error] at hstep
     rw [ha] at hsy
     have Hres := Kd (heq.trans hstep)
     obtain ⟨Av, cv, rfl⟩ := hrow.shape
     have Hsm := Kd hsm
     unfold SymR at hsy
     clear hstep ha heq hrow hfr hsm hR H0 hiv hst72 hst70 hvr hty
     go_wp2_with (go_at_call 130; go_must (refine (hsy _ (Same.alloc _ _ _)).mono ?_; rintro e w' ⟨b, rfl, hf, hs⟩))
     refine ⟨rfl, ?_⟩
     rw [Hres.out]
     exact ⟨b, rfl, hf, (Hsm.out.trans (Same.alloc _ _ _)).trans hs⟩
    | some n =>
     rw [symbol_some ha, bind_okk] at hstep
     rw [ha] at hsy
     unfold SymR at hsy
     dsimp only at hsy
     cases hv : L.tbl.isVar n with
     | true =>
      rw [if_pos hv] at hstep
      have Hres := Kd (heq.trans hstep)
      obtain ⟨Av, cv, rfl⟩ := hrow.shape
      have Hsm := Kd hsm
      have Hv := Kd hv
      clear hstep ha heq hrow hfr hsm hR H0 hst70 hvr hty hv
      go_wp2_with (first
       | (go_at_call 130; go_must (refine (hsy _ (Same.alloc _ _ _)).mono ?_; rintro e1 W1 ⟨rfl, hs1⟩; have hB1 := hs1.get (blk_new wr _) (by simp); obtain ⟨k0, k1, k2, k3, kf⟩ := blk4 hB1; have hs01 := (Same.alloc [] wr (Obj.cells #[.string ws[k].text, .int .i64 ws[k].at_.off, .int .i64 ws[k].at_.line, .int .i64 ws[k].at_.col] 54)).trans hs1; have l01 := hs01.cell l0 (by simp); have n21 := hs01.cell n2 (by simp); have l11 := hs01.cell l1 (by simp); have bl1 := blk_lt hB1; have ll1 := Nat.lt_of_lt_of_le ll hs01.size; have nl1 := Nat.lt_of_lt_of_le nl hs01.size; have Hs01 := Kd hs01; clear hs1 hB1 hs01))
       | (go_at_call 27; go_must (refine (hiv _ Hs01.out _).mono ?_; rintro e' W2 ⟨rfl, hw2⟩; obtain rfl := hw2; rw [Hv.out]))
       | (go_at_call 68; go_must (refine (hst72 _).mono ?_; rintro e w' ⟨b, rfl, hf, hs⟩)))
      refine ⟨rfl, ?_⟩
      rw [Hres.out]
      exact ⟨b, rfl, hf, (Hsm.out.trans Hs01.out).trans hs⟩
     | false =>
      rw [if_neg (by rw [hv]; decide)] at hstep
      have Hres := Kd (heq.trans hstep)
      obtain ⟨Av, cv, rfl⟩ := hrow.shape
      have Hrow := Kd hrow
      have Hfr := Kd hfr
      have Hsm := Kd hsm
      have Hv := Kd hv
      clear hstep ha heq hrow hfr hsm hR H0 hst70 hst72 hvr hty hv
      go_wp2_with (first
       | (go_at_call 130; go_must (refine (hsy _ (Same.alloc _ _ _)).mono ?_; rintro e1 W1 ⟨rfl, hs1⟩; have hB1 := hs1.get (blk_new wr _) (by simp); obtain ⟨k0, k1, k2, k3, kf⟩ := blk4 hB1; have hs01 := (Same.alloc [] wr (Obj.cells #[.string ws[k].text, .int .i64 ws[k].at_.off, .int .i64 ws[k].at_.line, .int .i64 ws[k].at_.col] 54)).trans hs1; have l01 := hs01.cell l0 (by simp); have n21 := hs01.cell n2 (by simp); have l11 := hs01.cell l1 (by simp); have bl1 := blk_lt hB1; have ll1 := Nat.lt_of_lt_of_le ll hs01.size; have nl1 := Nat.lt_of_lt_of_le nl hs01.size; have Hs01 := Kd hs01; clear hs1 hB1 hs01))
       | (go_at_call 27; go_must (refine (hiv _ Hs01.out _).mono ?_; rintro e' W2 ⟨rfl, hw2⟩; obtain rfl := hw2; rw [Hv.out]))
       | (at_builtin; refine wp_push (W := W1) rfl _ _ 31 rfl 3 1 8 _ Tryz.underlying31 Tryz.infoInt' rfl (by decide) (.slice Av ([] : List Int).length cv) _ _ rfl (Hrow.out.same Hs01.out (by simp)) [.int .i64 n] rfl rfl (by simp [Value.oneCell']) (by simp) (by decide) ?_; go_must (intro v6 W6 hr6 hs6 ho6; obtain ⟨A6, c6, rfl⟩ := hr6.shape; have Hr6 := Kd hr6; have Hs6 := Kd hs6; have Ho6 := Kd ho6; clear hr6 hs6 ho6)))
      go_roundw
      case rel =>
       refine ⟨k + 1, [(n : Int)], hlt, by go_num, by rw [HK0.out]; rfl, Hr6.out, Hfr.out.next (Nat.le_trans Hsm.out.size Hs01.out.size) Ho6.out, (Hsm.out.trans Hs01.out).then Hs6.out fun c hc => .inr (Hfr.out c (Option.mem_toList.1 hc)), Hres.out⟩
      case measure => simp [intOf]; omega
   ·have hne : e ≠ [] := by intro he; subst he; simp at hek; omega
    rw [if_neg hne, varX_eq] at hstep
    have hkz : ((k : Int) == 0) = false := by rw [beq_eq_false_iff_ne]; omega
    cases ha : varX L.tbl ws[k] with
    | error p =>
     obtain ⟨tk, en⟩ := p
     rw [ha, bind_error] at hstep
     rw [ha] at hvr
     have Hres := Kd (heq.trans hstep)
     obtain ⟨Av, cv, rfl⟩ := hrow.shape
     have Hsm := Kd hsm
     unfold NumX at hvr
     clear hstep ha heq hrow hfr hsm hR H0 hiv hst72 hst70 hsy hty
     go_wp2_with (go_at_call 121; go_must (refine (hvr _ (Same.alloc _ _ _)).mono ?_; rintro e w' ⟨b, rfl, hf, hs⟩))
     refine ⟨rfl, ?_⟩
     rw [Hres.out]
     exact ⟨b, rfl, hf, (Hsm.out.trans (Same.alloc _ _ _)).trans hs⟩
    | ok n =>
     rw [ha, bind_okk] at hstep
     rw [ha] at hvr
     unfold NumX at hvr
     dsimp only at hvr
     unfold TypeR at hty
     cases hts : typeS L.scs n with
     | some x =>
      rw [hts, Option.isSome_some, if_pos rfl] at hstep
      have htn := fun W hW => hty W hW n
      simp only [hts, Option.getD, Option.isSome] at htn
      have Hres := Kd (heq.trans hstep)
      obtain ⟨Av, cv, rfl⟩ := hrow.shape
      have Hsm := Kd hsm
      clear hstep ha heq hrow hfr hsm hR H0 hst72 hsy hiv hts hty
      go_wp2_with (first
       | (go_at_call 121; go_must (refine (hvr _ (Same.alloc _ _ _)).mono ?_; rintro e1 W1 ⟨rfl, hs1⟩; have hB1 := hs1.get (blk_new wr _) (by simp); have hs01 := (Same.alloc [] wr (Obj.cells #[.string ws[k].text, .int .i64 ws[k].at_.off, .int .i64 ws[k].at_.line, .int .i64 ws[k].at_.col] 54)).trans hs1; have l11 := hs01.cell l1 (by simp); have ll1 := Nat.lt_of_lt_of_le ll hs01.size; have HB1 := Kd hB1; have Hs01 := Kd hs01; clear hs1 hB1 hs01))
       | (go_at_call 131; go_must (refine (htn _ Hs01.out).mono ?_; rintro e' W2 ⟨rfl, hs2⟩; have hB2 := hs2.get HB1.out (by simp); obtain ⟨k0, k1, k2, k3, kf⟩ := blk4 hB2; have bl2 := blk_lt hB2; have Hs2 := Kd (Hs01.out.trans hs2); clear hs2 hB2))
       | (go_at_call 68; go_must (refine (hst70 _).mono ?_; rintro e w' ⟨b, rfl, hf, hs⟩)))
      refine ⟨rfl, ?_⟩
      rw [Hres.out]
      exact ⟨b, rfl, hf, (Hsm.out.trans Hs2.out).trans hs⟩
     | none =>
      rw [hts, Option.isSome_none, if_neg (by decide)] at hstep
      have htn := fun W hW => hty W hW n
      simp only [hts, Option.getD, Option.isSome] at htn
      have Hres := Kd (heq.trans hstep)
      obtain ⟨Av, cv, rfl⟩ := hrow.shape
      have hel : e.length ≤ 1000000 := by omega
      have Hrow := Kd hrow
      have Hfr := Kd hfr
      have Hsm := Kd hsm
      have Hek := Kd hek
      clear hstep ha heq hrow hfr hsm hR H0 hst72 hst70 hsy hiv hts hty hek
      go_wp2_with (first
       | (go_at_call 121; go_must (refine (hvr _ (Same.alloc _ _ _)).mono ?_; rintro e1 W1 ⟨rfl, hs1⟩; have hs01 := (Same.alloc [] wr (Obj.cells #[.string ws[k].text, .int .i64 ws[k].at_.off, .int .i64 ws[k].at_.line, .int .i64 ws[k].at_.col] 54)).trans hs1; have l11 := hs01.cell l1 (by simp); have ll1 := Nat.lt_of_lt_of_le ll hs01.size; have Hs01 := Kd hs01; clear hs1 hs01))
       | (go_at_call 131; go_must (refine (htn _ Hs01.out).mono ?_; rintro e' W2 ⟨rfl, hs2⟩; have Hs2 := Kd (Hs01.out.trans hs2); clear hs2))
       | (at_builtin; refine wp_push (W := W2) rfl _ _ 31 rfl 3 1 8 _ Tryz.underlying31 Tryz.infoInt' rfl (by decide) (.slice Av e.length cv) _ _ rfl (Hrow.out.same Hs2.out (by simp)) [.int .i64 n] rfl rfl (by simp [Value.oneCell']) (by omega) (by decide) ?_; go_must (intro v6 W6 hr6 hs6 ho6; obtain ⟨A6, c6, rfl⟩ := hr6.shape; have Hr6 := Kd hr6; have Hs6 := Kd hs6; have Ho6 := Kd ho6; clear hr6 hs6 ho6)))
      go_roundw
      case rel =>
       refine ⟨k + 1, e ++ [n], hlt, by go_num, by rw [List.length_append, Hek.out]; rfl, by rw [intCells_snoc, List.length_append]; exact Hr6.out, Hfr.out.next (Nat.le_trans Hsm.out.size Hs2.out.size) Ho6.out, (Hsm.out.trans Hs2.out).then Hs6.out fun c hc => .inr (Hfr.out c (Option.mem_toList.1 hc)), Hres.out⟩
      case measure => simp [intOf]; omega
  ·have hkk : k = ws.length := by omega
   subst hkk
   rw [List.drop_length, Ld.floatGo] at heq
   obtain ⟨Av, cv, rfl⟩ := hrow.shape
   have Heq := Kd heq
   have Hrow := Kd hrow
   have Hfr := Kd hfr
   have Hsm := Kd hsm
   clear heq hrow hfr hsm H0
   go_wp2
   go_ret
   rw [Heq.out]
   exact ⟨.slice Av e.length cv, rfl, Hrow.out, Hsm.out, Hfr.out⟩
end Go.Proofs.YtdhkmfpfbjcdiaaGreatDoor
