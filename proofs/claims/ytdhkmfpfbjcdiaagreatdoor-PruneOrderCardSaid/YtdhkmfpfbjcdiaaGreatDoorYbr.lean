/- lemmalaw texts, part 44. -/
import Derived.Test.YtdhkmfpfbjcdiaaGreatDoorYbd
import Derived.Test.YtdhkmfpfbjcdiaaGreatDoorYbp
set_option maxRecDepth 100000
set_option linter.unusedVariables false
set_option linter.unusedSimpArgs false
set_option maxHeartbeats 32000000
namespace Go.Proofs.YtdhkmfpfbjcdiaaGreatDoor
def Asc0 (t : ByteArray) (a k : Nat) : Prop := ∀ i, a ≤ i → i < k → (t[i]!).toNat < 128
theorem asc_extract {t : ByteArray} {a k : Nat} (h : Asc0 t a k) (hk : k ≤ t.size) (q : Ps) : AscP ⟨t.extract a k, q⟩ := by
 intro i hi
 have hi' : i < (t.extract a k).size := hi
 rw [ByteArray.size_extract] at hi'
 show ((t.extract a k)[i]'hi).toNat < 128
 rw [ByteArray.getElem_extract]
 have := h (a + i) (by omega) (by omega)
 rwa [getElem!_pos t (a + i) (by omega)] at this
theorem asc_none (q : Ps) : AscP ⟨⟨#[]⟩, q⟩ := fun i h => absurd h (Nat.not_lt_zero i)
theorem next_off (p : Ps) (c : UInt8) : (p.next c).off = p.off + 1 := by unfold Ps.next; split <;> rfl
theorem itemsGo_asc (t : ByteArray) : ∀ (n k : Nat) (p : Ps) (w : Tk), k + n = t.size → p.off = k → (w.text.size ≠ 0 → w.text = t.extract w.at_.off k ∧ Asc0 t w.at_.off k) → ∀ x ∈ itemsGo t n k p w, AscP x.word
 | 0, k, p, w, hk, hp, hw, x, hx => by
  unfold itemsGo at hx
  split at hx
  ·cases hx
  ·rename_i h0
   simp at hx
   subst hx
   obtain ⟨h1, h2⟩ := hw h0
   have := asc_extract h2 (by omega) w.at_
   rw [← h1] at this
   exact this
 | n + 1, k, p, w, hk, hp, hw, x, hx => by
  unfold itemsGo at hx
  dsimp only at hx
  split at hx
  ·simp at hx; subst hx; exact asc_none _
  split at hx
  ·simp at hx; subst hx; exact asc_none _
  split at hx
  ·rename_i h2
   have h3 : (t[k]!).toNat < 128 := by
    unfold kindN at h2
    split at h2
    ·omega
    ·split at h2 <;> omega
   refine itemsGo_asc t n (k + 1) _ _ (by omega) (by rw [next_off, hp]) (fun _ => ⟨rfl, ?_⟩) x hx
   intro i hi hik
   dsimp only at hi
   by_cases hik2 : i = k
   ·subst hik2; exact h3
   ·split at hi
    ·omega
    ·rename_i h0
     exact (hw h0).2 i hi (by omega)
  split at hx
  ·rename_i h0
   exact itemsGo_asc t n (k + 1) _ _ (by omega) (by rw [next_off, hp]) (fun h => absurd h0 h) x hx
  ·rename_i h0
   rcases List.mem_cons.1 hx with rfl | hx
   ·obtain ⟨h1, h2⟩ := hw h0
    have := asc_extract h2 (by omega) w.at_
    rw [← h1] at this
    exact this
   ·exact itemsGo_asc t n (k + 1) _ _ (by omega) (by rw [next_off, hp]) (fun h => absurd rfl h) x hx
def TkN (t : Tk) : Prop := TkP t ∧ AscP t
theorem TkN.none : TkN Tk.none := ⟨TkP.none, asc_none _⟩
theorem scanGo_memQ (Q : Tk → Prop) : ∀ (l : List It) (out : List Tk) (op : Option Tk), (∀ x ∈ l, Q x.word) → (∀ x ∈ out, Q x) → ∀ x ∈ (scanGo l out op).1, Q x
 | [], out, op, hl, ho, x, hx => by unfold scanGo at hx; exact ho x hx
 | y :: r, out, op, hl, ho, x, hx => by
  have hr : ∀ x ∈ r, Q x.word := fun x hx => hl x (List.mem_cons_of_mem _ hx)
  unfold scanGo at hx
  split at hx
  ·exact ho x hx
  ·split at hx
   ·split at hx
    ·exact scanGo_memQ Q r _ _ hr ho x hx
    ·split at hx
     ·exact ho x hx
     ·exact scanGo_memQ Q r _ _ hr ho x hx
   ·split at hx
    ·exact scanGo_memQ Q r _ _ hr ho x hx
    ·split at hx
     ·exact ho x hx
     ·split at hx
      ·exact ho x hx
      ·refine scanGo_memQ Q r _ _ hr (fun z hz => ?_) x hx
       rcases List.mem_append.1 hz with hz | hz
       ·exact ho z hz
       ·simp at hz; subst hz; exact hl y (List.mem_cons_self ..)
theorem scan_asc (t : ByteArray) : ∀ x ∈ (scanOf t).1, AscP x := scanGo_memQ AscP _ _ _ (itemsGo_asc t t.size 0 _ _ (by omega) rfl (fun h => absurd rfl h)) (by simp)
structure SQ (Q : Tk → Prop) (s : St) : Prop where
 words : ∀ w ∈ s.words, Q w
 proof : ∀ w ∈ s.proof, Q w
 label : Q s.label
 key : Q s.key
 end_ : Q s.end_
structure RQ (Q : Tk → Prop) (R : Rd) : Prop where
 out : ∀ s ∈ R.out, SQ Q s
 now : ∀ s, R.now = some s → SQ Q s
 lab : ∀ t, R.label = some t → Q t
section
variable {Q : Tk → Prop}
theorem lab_q {o : Option Tk} (hn : Q Tk.none) (h : ∀ t, o = some t → Q t) : Q (o.getD Tk.none) := by
 cases o with
 | none => exact hn
 | some t => exact h t rfl
theorem RQ.between (hq : Q Tk.none) {R : Rd} (h : RQ Q R) {t : Tk} (ht : Q t) (hn : R.now = none) : RQ Q (R.between t).2 := by
 unfold Rd.between
 split
 ·split
  ·exact h
  ·exact ⟨h.out, h.now, fun u hu => by cases hu; exact ht⟩
 ·dsimp only
  split
  ·exact h
  ·split
   ·exact h
   ·have hS : ∀ e, Q e → SQ Q ⟨keyN t.text + 1, R.label.getD Tk.none, t, false, [], [], e⟩ := fun e he => ⟨by simp, by simp, lab_q hq h.lab, ht, he⟩
    split
    ·refine ⟨fun s hs => ?_, fun s hs => (by dsimp only at hs; rw [hn] at hs; cases hs), fun u hu => by cases hu⟩
     rcases List.mem_append.1 hs with hs | hs
     ·exact h.out s hs
     ·simp at hs; subst hs; exact hS t ht
    ·refine ⟨h.out, fun s hs => ?_, fun u hu => by cases hu⟩
     cases hs
     exact hS _ hq
theorem RQ.within {R : Rd} (h : RQ Q R) {s : St} {t : Tk} (ht : Q t) (hn : R.now = some s) : RQ Q (R.within s t).2 := by
 have h1 := h.now s hn
 unfold Rd.within
 split
 ·split
  ·refine ⟨h.out, fun u hu => ?_, h.lab⟩
   cases hu
   refine ⟨h1.words, fun w hw => ?_, h1.label, h1.key, h1.end_⟩
   rcases List.mem_append.1 hw with hw | hw
   ·exact h1.proof w hw
   ·simp at hw; subst hw; exact ht
  ·split
   ·exact h
   ·refine ⟨h.out, fun u hu => ?_, h.lab⟩
    cases hu
    refine ⟨fun w hw => ?_, h1.proof, h1.label, h1.key, h1.end_⟩
    rcases List.mem_append.1 hw with hw | hw
    ·exact h1.words w hw
    ·simp at hw; subst hw; exact ht
 ·split
  ·split
   ·exact h
   ·refine ⟨h.out, fun u hu => ?_, h.lab⟩
    cases hu
    exact ⟨h1.words, h1.proof, h1.label, h1.key, h1.end_⟩
  ·split
   ·split
    ·exact h
    ·refine ⟨fun u hu => ?_, fun u hu => (by cases hu), h.lab⟩
     rcases List.mem_append.1 hu with hu | hu
     ·exact h.out u hu
     ·simp at hu
      subst hu
      exact ⟨h1.words, h1.proof, h1.label, h1.key, ht⟩
   ·exact h
theorem RQ.step (hq : Q Tk.none) {R : Rd} (h : RQ Q R) {t : Tk} (ht : Q t) : RQ Q (R.step t).2 := by
 unfold Rd.step
 split
 ·rename_i hn; exact h.between hq ht hn
 ·rename_i s hn; exact h.within ht hn
theorem readGo_q (hq : Q Tk.none) : ∀ (ws : List Tk) (R : Rd), RQ Q R → (∀ w ∈ ws, Q w) → RQ Q (readGo ws R).1
 | [], R, h, _ => h
 | t :: ws, R, h, hw => by
  have hs := h.step hq (hw t (List.mem_cons_self ..))
  unfold readGo
  split
  ·exact readGo_q hq ws _ hs fun w h => hw w (List.mem_cons_of_mem _ h)
  ·exact hs
theorem RQ.all {R : Rd} (h : RQ Q R) : ∀ s ∈ R.all, SQ Q s := by
 unfold Rd.all
 split
 ·exact h.out
 ·rename_i y hn
  intro u hu
  rcases List.mem_append.1 hu with hu | hu
  ·exact h.out u hu
  ·have := List.mem_singleton.1 hu
   subst this
   exact h.now _ hn
theorem read_q (hq : Q Tk.none) (t : ByteArray) (h : ∀ x ∈ (scanOf t).1, Q x) : ∀ s ∈ (readOf t).1, SQ Q s := by
 have h0 : RQ Q ⟨[], none, none, 9, false⟩ := ⟨by simp, by simp, by simp⟩
 have h2 := (readGo_q hq (scanOf t).1 _ h0 h).all
 unfold readOf
 split
 ·rename_i r w e he
  rw [he] at h2
  exact h2
 ·rename_i r he
  rw [he] at h2
  exact h2
end
theorem unionP_le (a b : List Pr) : (unionP a b).length ≤ a.length + b.length := by
 unfold unionP
 have h1 := foldP_len a []
 have h2 := foldP_len b (a.foldl putP [])
 simp at h1
 omega
theorem active_le : ∀ (s : List Sc) (out : List Pr), (∀ sc ∈ s, sc.pairs.length ≤ 256) → (s.foldl (fun out x => unionP out x.pairs) out).length ≤ out.length + 256 * s.length
 | [], out, _ => by simp
 | x :: s, out, h => by
  rw [List.foldl_cons]
  have h1 := active_le s (unionP out x.pairs) fun sc hsc => h sc (List.mem_cons_of_mem _ hsc)
  have h2 := unionP_le out x.pairs
  have h3 := h x List.mem_cons_self
  rw [List.length_cons]
  omega
theorem activeS_le (s : List Sc) (h : ∀ sc ∈ s, sc.pairs.length ≤ 256) : (activeS s).length ≤ 256 * s.length := by
 have := active_le s [] h
 simpa [activeS] using this
theorem onLast_len (f : Sc → Sc) : ∀ l, (onLast f l).length = l.length
 | [] => rfl
 | [s] => rfl
 | s :: x :: r => by
  have := onLast_len f (x :: r)
  show (s :: onLast f (x :: r)).length = _
  rw [List.length_cons, this]
  rfl
structure Ld.Nice (L : Ld) : Prop where
 ok : L.Ok
 depth : L.scs.length ≤ 17
 small : ∀ a ∈ L.asserts, AsSmall a
 pl : ∀ a ∈ L.asserts, a.proof.length ≤ 16384
 q : ∀ a ∈ L.asserts, ∀ t ∈ a.proof, TkN t
theorem Ld.Nice.new : Ld.new.Nice := ⟨Ld.Ok.new, by simp [Ld.new], by simp [Ld.new], by simp [Ld.new], by simp [Ld.new]⟩
theorem Ld.Nice.keep {L M : Ld} (h : L.Nice) (ok : M.Ok) (hs : M.scs.length ≤ L.scs.length) (ha : M.asserts = L.asserts) : M.Nice :=
 ⟨ok, Nat.le_trans hs h.depth, by rw [ha]; exact h.small, by rw [ha]; exact h.pl, by rw [ha]; exact h.q⟩
theorem constGo_keep : ∀ (ws : List Tk) {L L' : Ld}, L.constGo ws = .ok L' → L'.scs = L.scs ∧ L'.asserts = L.asserts
 | [], L, L', hx => by rw [Ld.constGo] at hx; cases hx; exact ⟨rfl, rfl⟩
 | w :: ws, L, L', hx => by
  rw [Ld.constGo] at hx
  obtain ⟨_, -, hx⟩ := bind_ok hx
  have := constGo_keep ws hx
  exact this
theorem varGo_keep : ∀ (ws : List Tk) {L L' : Ld}, L.varGo ws = .ok L' → L'.scs = L.scs ∧ L'.asserts = L.asserts
 | [], L, L', hx => by rw [Ld.varGo] at hx; cases hx; exact ⟨rfl, rfl⟩
 | w :: ws, L, L', hx => by
  rw [Ld.varGo] at hx
  obtain ⟨_, -, hx⟩ := bind_ok hx
  have := varGo_keep ws hx
  exact this
theorem distS_len (vars : Int → Bool) (s : List Sc) (l : List Int) : (distS vars s l).2.length = s.length := by
 unfold distS
 (repeat' split) <;> simp [onLast_len]
theorem floatS_len (vars : Int → Bool) (s : List Sc) (b : ByteArray) (t v : Int) : (floatS vars s b t v).2.length = s.length := by
 unfold floatS declS
 (repeat' split) <;> simp [onLast_len]
theorem essS_len (vars : Int → Bool) (s : List Sc) (b : ByteArray) (e : List Int) : (essS vars s b e).2.length = s.length := by
 unfold essS declS
 (repeat' split) <;> simp [onLast_len]
theorem mem_scopeHyps {s : List Sc} {x : Hy} (h : x ∈ scopeHyps s) : ∃ sc ∈ s, x ∈ sc.hyps := by
 unfold scopeHyps at h
 exact List.mem_flatMap.1 h
theorem onlyP_le (l : List Pr) (v : List Int) : (onlyP l v).length ≤ l.length := by
 unfold onlyP
 have h1 := foldP_len (l.filter fun p => v.contains p.1 && v.contains p.2) []
 have h2 := List.length_filter_le (fun p : Pr => v.contains p.1 && v.contains p.2) l
 simp only [List.length_nil] at h1
 omega
theorem act_nice {L L' : Ld} (h : L.Nice) {s : St} (hg : s.Good) (hpl : s.proof.length ≤ 16384) (hq : ∀ t ∈ s.proof, TkN t) (hx : L.act s = .ok L') : L'.Nice := by
 have hok := act_ok h.ok hg hx
 unfold Ld.act at hx
 split at hx
 ·obtain ⟨_, -, hx⟩ := bind_ok hx
  cases hx
  refine ⟨hok, ?_, h.small, h.pl, h.q⟩
  have := h.depth
  dsimp only
  unfold openS'
  split
  ·exact this
  ·simp; omega
 ·split at hx
  ·obtain ⟨_, -, hx⟩ := bind_ok hx
   cases hx
   refine h.keep hok ?_ rfl
   dsimp only
   unfold closeS'
   split
   ·exact Nat.le_refl _
   ·simp
  ·split at hx
   ·split at hx
    ·cases hx
    ·obtain ⟨h1, h2⟩ := constGo_keep _ hx
     exact h.keep hok (by rw [h1]; exact Nat.le_refl _) h2
   ·split at hx
    ·obtain ⟨h1, h2⟩ := varGo_keep _ hx
     exact h.keep hok (by rw [h1]; exact Nat.le_refl _) h2
    ·split at hx
     ·obtain ⟨v, -, hx⟩ := bind_ok hx
      split at hx
      ·obtain ⟨_, -, hx⟩ := bind_ok hx
       cases hx
       exact h.keep hok (by dsimp only; rw [distS_len]; exact Nat.le_refl _) rfl
      ·cases hx; exact h
     ·split at hx
      ·obtain ⟨e, he, hx⟩ := bind_ok hx
       split at hx
       ·obtain ⟨M, hM, hx⟩ := bind_ok hx
        obtain ⟨_, h1, hx⟩ := bind_ok hx
        cases hx
        obtain ⟨h2, h3, h4, h5, rfl⟩ := hyp_ok h.ok hM
        exact h.keep hok (by dsimp only; rw [floatS_len]; exact Nat.le_refl _) rfl
       ·cases hx; exact h
      ·split at hx
       ·obtain ⟨e, he, hx⟩ := bind_ok hx
        split at hx
        ·obtain ⟨M, hM, hx⟩ := bind_ok hx
         obtain ⟨_, h1, hx⟩ := bind_ok hx
         cases hx
         obtain ⟨h2, h3, h4, h5, rfl⟩ := hyp_ok h.ok hM
         exact h.keep hok (by dsimp only; rw [essS_len]; exact Nat.le_refl _) rfl
        ·cases hx; exact h
       ·split at hx
        ·obtain ⟨e, he, hx⟩ := bind_ok hx
         split at hx
         ·unfold Ld.assert at hx
          dsimp only at hx
          obtain ⟨_, -, hx⟩ := bind_ok hx
          obtain ⟨_, h1, hx⟩ := bind_ok hx
          cases hx
          have hsc := h.ok.sc
          have hhy := h.ok.hyps
          have hle := h.ok.le
          have hdep := h.depth
          have hact := activeS_le L.scs fun sc hsc' => (hsc sc hsc').1
          have hhe : ∀ x ∈ scopeHyps L.scs, x.expr.length ≤ 1000000 := fun x hx => by
           obtain ⟨sc, h1, h2⟩ := mem_scopeHyps hx
           have := (hsc sc h1).2 x h2
           omega
          have hfl : (frameHyps L.tbl.isVar L.scs e).length ≤ (scopeHyps L.scs).length := List.length_filter_le _ _
          have hfp : (framePairs L.tbl.isVar L.scs e).length ≤ (activeS L.scs).length := onlyP_le _ _
          have hgl := exprGo_len L _ _ _ (by simp) he
          refine ⟨hok, h.depth, fun a ha => ?_, fun a ha => ?_, fun a ha => ?_⟩
          ·rcases List.mem_append.1 ha with ha | ha
           ·exact h.small a ha
           ·simp at ha
            subst ha
            exact ⟨by dsimp only; omega, fun x hx => hhe x (List.mem_filter.1 hx).1, by dsimp only; omega, by dsimp only; omega, by dsimp only; omega, hhe, by dsimp only; omega, by dsimp only; omega⟩
          ·rcases List.mem_append.1 ha with ha | ha
           ·exact h.pl a ha
           ·simp at ha; subst ha; exact hpl
          ·rcases List.mem_append.1 ha with ha | ha
           ·exact h.q a ha
           ·simp at ha; subst ha; exact hq
         ·cases hx; exact h
        ·cases hx; exact h
theorem take_nice {L L' : Ld} (h : L.Nice) {s : St} (hg : s.Good) (hpl : s.proof.length ≤ 16384) (hq : ∀ t ∈ s.proof, TkN t) (hx : L.take s = .ok L') : L'.Nice := by
 unfold Ld.take at hx
 split at hx
 ·obtain ⟨_, -, hx⟩ := bind_ok hx
  exact act_nice h hg hpl hq hx
 ·exact act_nice h hg hpl hq hx
theorem takeAll_nice : ∀ (ss : List St) {L L' : Ld}, L.Nice → (∀ s ∈ ss, s.Good ∧ s.proof.length ≤ 16384 ∧ ∀ t ∈ s.proof, TkN t) → L.takeAll ss = .ok L' → L'.Nice
 | [], L, L', h, _, hx => by rw [Ld.takeAll] at hx; cases hx; exact h
 | s :: ss, L, L', h, hs, hx => by
  rw [Ld.takeAll] at hx
  obtain ⟨M, hM, hx⟩ := bind_ok hx
  obtain ⟨h1, h2, h3⟩ := hs s List.mem_cons_self
  exact takeAll_nice ss (take_nice h h1 h2 h3 hM) (fun s hs' => hs s (List.mem_cons_of_mem _ hs')) hx
structure Bs.Nice (B : Bs) : Prop where
 n : B.ld.asserts.length ≤ 1024
 small : ∀ a ∈ B.ld.asserts, AsSmall a
 pl : ∀ a ∈ B.ld.asserts, a.proof.length ≤ 16384
 tkp : ∀ a ∈ B.ld.asserts, ∀ t ∈ a.proof, TkP t
 asc : ∀ a ∈ B.ld.asserts, ∀ t ∈ a.proof, AscP t
theorem load_nice {t : ByteArray} {B : Bs} (h : loadOf t = .ok B) : B.Nice ∧ B.ld.Nice := by
 unfold loadOf at h
 split at h
 ·cases h
 ·rename_i L hL
  have hN : L.Nice := takeAll_nice _ Ld.Nice.new (fun s hs => by
   obtain ⟨h1, h2⟩ := (read_good t).1 s hs
   have h3 := read_q (Q := TkN) TkN.none t (fun x hx => ⟨scan_small t x hx, scan_asc t x hx⟩) s hs
   exact ⟨h2, h1.pl, h3.proof⟩) hL
  have hB : B.ld = L := by
   split at h
   ·cases h
   ·split at h
    ·cases h
    ·cases h; rfl
  rw [hB]
  refine ⟨?_, hN⟩
  have e : B.ld.asserts = L.asserts := by rw [hB]
  refine ⟨by rw [e]; have := hN.ok.asr; have := hN.ok.le; omega, by rw [e]; exact hN.small, by rw [e]; exact hN.pl, by rw [e]; exact fun a ha t ht => (hN.q a ha t ht).1, by rw [e]; exact fun a ha t ht => (hN.q a ha t ht).2⟩
end Go.Proofs.YtdhkmfpfbjcdiaaGreatDoor
