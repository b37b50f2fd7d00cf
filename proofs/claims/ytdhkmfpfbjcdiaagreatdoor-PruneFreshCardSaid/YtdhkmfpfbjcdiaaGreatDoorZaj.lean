/- lemmalaw texts, part 10. -/
import Derived.Test.YtdhkmfpfbjcdiaaGreatDoorZaa
import Derived.Test.YtdhkmfpfbjcdiaaGreatDoorZai
set_option maxRecDepth 100000
set_option linter.unusedVariables false
set_option linter.unusedSimpArgs false
namespace Go.Proofs.YtdhkmfpfbjcdiaaGreatDoor
open Go.RowKit Go.Shelf Go.Lib Go.Sort
theorem prCells_len (l : List Pr) : (prCells l).length = l.length * 2 := by
  induction l with
  | nil => rfl
  | cons a l ih => simp [prCells, encPr] at ih ⊢; omega
theorem prCells_get : ∀ (l : List Pr) (t : Nat), t < l.length * 2 → (prCells l).toArray[t]! = (encPr l.toArray[t / 2]!)[t % 2]!
  | [], t, h => by simp at h
  | p :: l, t, h => by
    rcases Nat.lt_or_ge t 2 with h2 | h2
    · have : t = 0 ∨ t = 1 := by omega
      rcases this with rfl | rfl <;> rfl
    · have ih := prCells_get l (t - 2) (by simp at h; omega)
      have e1 : (prCells (p :: l)).toArray[t]! = (prCells l).toArray[t - 2]! := by
        simp only [Array.getElem!_eq_getD, Array.getD_eq_getD_getElem?, List.getElem?_toArray]
        rw [show prCells (p :: l) = encPr p ++ prCells l by simp [prCells], List.getElem?_append_right (by simpa [encPr] using h2)]
        simp [encPr]
      have e2 : ((p :: l).toArray[t / 2]!) = l.toArray[(t - 2) / 2]! := by
        obtain ⟨u, hu⟩ : ∃ u, t / 2 = u + 1 := ⟨t / 2 - 1, by omega⟩
        rw [hu, show (t - 2) / 2 = u by omega]
        simp
      rw [e1, ih, e2, show (t - 2) % 2 = t % 2 by omega]
theorem flatK_eq (l : List Pr) : Go.Sort.flatK encPr 2 l.toArray = (prCells l).toArray := by
  refine Go.Sort.ext_get! (by simp [prCells_len]) (fun t ht => ?_)
  have ht' : t < l.length * 2 := by simpa using ht
  rw [Go.Sort.get_flatK _ _ _ _ (by simpa using ht'), prCells_get l t ht']
theorem putCells_take (cur : Array Value) (ts : List Value) (h : ts.length ≤ cur.size) : (Go.Sort.putCells id 0 ts.toArray cur).toList.take ts.length = ts := by
  apply List.ext_getElem?
  intro j
  by_cases hj : j < ts.length
  · rw [List.getElem?_take_of_lt hj, Array.getElem?_toList]
    simp [Go.Sort.putCells, hj, show j < cur.size by omega]
  · rw [List.getElem?_take_eq_none (by omega), List.getElem?_eq_none (by omega)]
theorem Row.holdsPr {w : World} {g c : Nat} {l : List Pr} (h : Row w 113 2 (.slice (some ⟨g, 0, none⟩) l.length c) l.length (prCells l)) : Go.Sort.HoldsK encPr 2 w g 0 l.toArray := by
  unfold Go.Sort.HoldsK
  rw [flatK_eq]
  intro j hj
  have hj' : j < l.length * 2 := by simpa [prCells_len] using hj
  obtain ⟨g', c', hv, h1, h2⟩ := h.cell (j := j) hj'
  cases hv
  rw [Nat.zero_add]
  refine ⟨?_, h2⟩
  rw [h1]
  simp [List.getD_eq_getElem?_getD, Array.getElem!_eq_getD, Array.getD_eq_getD_getElem?]
  have : j < (prCells l).length := by rw [prCells_len]; exact hj'
  simp [this]
theorem Row.sortedPr {w : World} {g c n : Nat} {l s : List Pr} {os : Array Obj} (h : Row w 113 2 (.slice (some ⟨g, 0, none⟩) l.length c) l.length (prCells l)) (hl : s.length = l.length) :
    Row (sortWorldK encPr 2 w g 0 n s.toArray os) 113 2 (.slice (some ⟨g, 0, none⟩) l.length c) l.length (prCells s) ∧ Same [g] w (sortWorldK encPr 2 w g 0 n s.toArray os) := by
  rcases h.2 with ⟨h1, _⟩ | ⟨g', cap, cur, h1, h2, h3, h4, h5, h6, h7⟩
  · simp at h1
  · cases h1
    have hg : g < w.heap.size := blk_lt h3
    have hheap : (sortWorldK encPr 2 w g 0 n s.toArray os).heap[g]? = some (.cells (Go.Sort.putCells id 0 (prCells s).toArray cur) 113 (0, 0)) := by
      unfold sortWorldK Go.Sort.putRowK
      rw [flatK_eq, Go.Sort.heap_grow_old _ _ (by simpa [Go.Sort.putRow, Go.Sort.mapBlock, Go.Sort.ahead] using hg)]
      simp [Go.Sort.putRow, Go.Sort.mapBlock, Go.Sort.ahead, Array.getElem?_modify, h3, Go.Sort.onCells]
    refine ⟨⟨by rw [prCells_len, hl], .inr ⟨g, c, _, rfl, h2, hheap, h4, h5, by simp [Go.Sort.putCells, h6], ?_⟩⟩, rfl, rfl, rfl, by simp [sortWorldK, Go.Sort.putRowK, Go.Sort.putRow, Go.Sort.mapBlock, Go.Sort.ahead, Go.Sort.grow], ?_⟩
    · have := putCells_take cur (prCells s) (by rw [prCells_len, hl, h6]; exact Nat.mul_le_mul_right _ h4)
      rw [prCells_len, hl] at this
      exact this
    · intro b hb hn
      unfold sortWorldK Go.Sort.putRowK
      rw [Go.Sort.heap_grow_old _ _ (by simpa [Go.Sort.putRow, Go.Sort.mapBlock, Go.Sort.ahead] using hb)]
      have : g ≠ b := fun e => hn (by simp [e])
      simp [Go.Sort.putRow, Go.Sort.mapBlock, Go.Sort.ahead, Array.getElem?_modify, this]
def ltP (p q : Pr) : Bool := decide (p.1 < q.1) || (decide (p.1 = q.1) && decide (p.2 < q.2))
theorem ltOf_cmp (p q : Pr) : ltOf cmpPr p q = ltP p q := by
  unfold ltOf cmpPr ltP Lib.compareInt
  by_cases h : p.1 = q.1
  · simp only [h, if_true]
    by_cases h1 : p.2 < q.2
    · simp [h1]
    · by_cases h2 : q.2 < p.2 <;> simp [h1, h2]
  · simp only [h, if_false]
    by_cases h1 : p.1 < q.1
    · simp [h1]
    · by_cases h2 : q.1 < p.1 <;> simp [h1, h2]
theorem ltP_iff (p q : Pr) : ltP p q = true ↔ p.1 < q.1 ∨ (p.1 = q.1 ∧ p.2 < q.2) := by simp [ltP]
theorem swoPr : Go.Sort.SWO (ltOf cmpPr) := {
  irrefl x := by rw [ltOf_cmp]; simp [ltP]
  trans x y z h1 h2 := by rw [ltOf_cmp, ltP_iff] at *; omega
  ntrans x y z h1 h2 := by
    rw [ltOf_cmp] at *
    rw [Bool.eq_false_iff] at *
    rw [ne_eq, ltP_iff] at *
    omega }
theorem ltP_total (x y : Pr) (h1 : ltOf cmpPr x y = false) (h2 : ltOf cmpPr y x = false) : x = y := by
  rw [ltOf_cmp, Bool.eq_false_iff, ne_eq, ltP_iff] at h1 h2
  exact Prod.ext (by omega) (by omega)
def insP (p : Pr) : List Pr → List Pr
  | [] => [p]
  | q :: r => if p = q then q :: r else if ltP p q = true then p :: q :: r else q :: insP p r
def putP (s : List Pr) (p : Pr) : List Pr := if p.1 = p.2 then s else insP (turnP p) s
theorem mem_insP {p x : Pr} : ∀ {s : List Pr}, x ∈ insP p s ↔ x = p ∨ x ∈ s
  | [] => by simp [insP]
  | q :: r => by
    unfold insP
    split
    · rename_i h; subst h; simp
    · split
      · simp
      · simp [mem_insP (s := r)]; constructor
        · rintro (h | h | h) <;> simp [h]
        · rintro (h | h | h) <;> simp [h]
def SortedP (s : List Pr) : Prop := s.Pairwise (fun p q => ltP p q = true)
theorem sorted_insP {p : Pr} : ∀ {s : List Pr}, SortedP s → SortedP (insP p s)
  | [], _ => by simp [insP, SortedP]
  | q :: r, h => by
    unfold SortedP at h ⊢
    rw [List.pairwise_cons] at h
    unfold insP
    split
    · rw [List.pairwise_cons]; exact h
    · rename_i hne
      split
      · rename_i hlt
        rw [List.pairwise_cons, List.pairwise_cons]
        refine ⟨fun x hx => ?_, h⟩
        rcases List.mem_cons.1 hx with rfl | hx
        · exact hlt
        · have := h.1 x hx
          rw [ltP_iff] at *
          omega
      · rename_i hnl
        rw [List.pairwise_cons]
        refine ⟨fun x hx => ?_, sorted_insP (s := r) h.2⟩
        rcases mem_insP.1 hx with rfl | hx
        · rw [ltP_iff] at hnl ⊢
          have : x.1 ≠ q.1 ∨ x.2 ≠ q.2 := by
            by_cases h1 : x.1 = q.1
            · by_cases h2 : x.2 = q.2
              · exact absurd (Prod.ext h1 h2) hne
              · exact .inr h2
            · exact .inl h1
          omega
        · exact h.1 x hx
theorem sorted_putP {s : List Pr} {p : Pr} (h : SortedP s) : SortedP (putP s p) := by
  unfold putP
  split
  · exact h
  · exact sorted_insP h
theorem nodup_of_sorted {s : List Pr} (h : SortedP s) : s.Nodup := h.imp (fun {a b} hab e => by subst e; rw [ltP_iff] at hab; omega)
structure PInv (l : List (Pr × Value)) (s : List Pr) : Prop where
  nd : (l.map (·.1)).Nodup
  mem : ∀ x, x ∈ l.map (·.1) ↔ x ∈ s
  sorted : SortedP s
theorem PInv.nil : PInv [] [] := ⟨by simp, by simp, by simp [SortedP]⟩
theorem aget_none_iff {α β : Type} [DecidableEq α] (k : α) : ∀ (l : List (α × β)), aget k l = none ↔ k ∉ l.map (·.1)
  | [] => by simp [aget]
  | (k', v) :: r => by
    unfold aget
    by_cases h : k = k'
    · simp [h]
    · simp [h, aget_none_iff k r]
theorem keys_aput {α β : Type} [DecidableEq α] (k : α) (v : β) (l : List (α × β)) : (aput k v l).map (·.1) = if k ∈ l.map (·.1) then l.map (·.1) else l.map (·.1) ++ [k] := by
  induction l with
  | nil => simp [aput]
  | cons p r ih =>
    obtain ⟨k', u⟩ := p
    unfold aput
    by_cases h : k = k'
    · simp [h]
    · by_cases hm : k ∈ r.map (·.1)
      · rw [if_pos hm] at ih
        rw [if_neg h, List.map_cons, List.map_cons, ih, if_pos (List.mem_cons_of_mem _ hm)]
      · rw [if_neg hm] at ih
        rw [if_neg h, List.map_cons, List.map_cons, ih, if_neg (fun hc => (List.mem_cons.1 hc).elim h hm)]
        rfl
theorem PInv.put {l : List (Pr × Value)} {s : List Pr} (h : PInv l s) (p : Pr) : PInv (putK l p) (putP s p) := by
  unfold putK putP
  split
  · exact h
  · refine ⟨?_, fun x => ?_, sorted_insP h.sorted⟩
    · rw [keys_aput]
      split
      · exact h.nd
      · rename_i hn
        exact List.nodup_append.2 ⟨h.nd, by simp, fun a ha b hb e => by simp at hb; subst hb; subst e; exact hn ha⟩
    · rw [keys_aput, mem_insP, ← h.mem x]
      split
      · rename_i hm
        exact ⟨fun h => .inr h, fun h' => by rcases h' with rfl | h'; exact hm; exact h'⟩
      · simp only [List.mem_append, List.mem_singleton]
        exact ⟨fun h => h.symm, fun h => h.symm⟩
theorem PInv.len {l : List (Pr × Value)} {s : List Pr} (h : PInv l s) : s.length = l.length := by
  have := ((List.perm_ext_iff_of_nodup h.nd (nodup_of_sorted h.sorted)).2 h.mem).length_eq
  simpa using this.symm
theorem PInv.sort {l : List (Pr × Value)} {s xs : List Pr} (h : PInv l s) (hp : xs.Perm (l.map (·.1))) : xs.mergeSort (fun x y => !(ltOf cmpPr) y x) = s := by
  have h1 : (xs.mergeSort (fun x y => !(ltOf cmpPr) y x)).Perm s := (List.mergeSort_perm _ _).trans (hp.trans ((List.perm_ext_iff_of_nodup h.nd (nodup_of_sorted h.sorted)).2 h.mem))
  have h2 := List.pairwise_mergeSort (le := fun x y => !(ltOf cmpPr) y x) (fun a b c hab hbc => by
    simp only [ltOf_cmp, Bool.not_eq_true', Bool.eq_false_iff, ne_eq, ltP_iff] at *
    omega) (fun a b => by
    simp only [ltOf_cmp, Bool.or_eq_true, Bool.not_eq_true', Bool.eq_false_iff, ne_eq, ltP_iff]
    omega) xs
  refine List.Perm.eq_of_pairwise (le := fun x y => (!(ltOf cmpPr) y x) = true) (fun a b _ _ hab hba => ?_) h2 (h.sorted.imp (fun {a b} hab => ?_)) h1
  · simp only [ltOf_cmp, Bool.not_eq_true', Bool.eq_false_iff, ne_eq, ltP_iff] at hab hba
    exact Prod.ext (by omega) (by omega)
  · simp only [ltOf_cmp, Bool.not_eq_true', Bool.eq_false_iff, ne_eq, ltP_iff] at hab ⊢
    omega
end Go.Proofs.YtdhkmfpfbjcdiaaGreatDoor
namespace Go.Proofs.YtdhkmfpfbjcdiaaGreatDoor
open Go.RowKit Go.Shelf Go.Lib Go.Sort
theorem Collect_calls (L : List Pr) (hL : L.length ≤ 1000000) (b : Nat) (l : List (Pr × Value)) (hl : l.map (·.1) = L) (hk : (l.map (·.1)).Nodup) (B : Nat) (w : World) (hB : w.cell? ⟨B, 0, none⟩ = some (.map (some b))) (hps : PSet w b l) :
    Calls Tryz.prog 186 #[.func (.func 188) #[] #[.pointer (some ⟨B, 0, none⟩)]] w (CollR L w) := by
  have hc := AppendSeq_calls L hL b l hl hk B w hB hps
  clear hps hB
  go_enter Tryz.func186, Tryz.ntmps186
  go_wp2_with (go_at_call 196; refine hc.mono ?_; rintro e w' ⟨v, xs, rfl, hr⟩)
  go_ret
  exact ⟨_, xs, rfl, hr⟩
theorem Tryz.cmpLaysPr (blk off size : Nat) (w : World) : CmpLays Tryz.prog 173 #[] encPr 2 cmpPr blk off size w :=
  fun _ _ _ _ x y => list1_calls x y _
def PairsR (s : List Pr) (w : World) (e : Ending) (w' : World) : Prop := ∃ v, e = .returned v ∧ Row w' 113 2 v s.length (prCells s) ∧ Same [] w w' ∧ (∀ b, v.ownBlock = some b → w.heap.size ≤ b)
theorem SortFunc_calls (v : Value) (l : List Pr) (hl : l.length < 4611686018427387904) (w : World) (hr : Row w 113 2 v l.length (prCells l)) :
    Calls Tryz.prog 187 #[v, .func (.func 173) #[] #[]] w fun e w' => e = .returned (.tuple #[]) ∧ Row w' 113 2 v l.length (prCells (l.mergeSort fun x y => !(ltOf cmpPr) y x)) ∧ Same v.ownBlock.toList w w' := by
  rcases hr.2 with ⟨rfl, h0⟩ | ⟨g, cap, cur, rfl, h2, h3, h4, h5, h6, h7⟩
  · have hln : l = [] := List.eq_nil_of_length_eq_zero h0
    subst hln
    have hc := AnyF.slices_SortFunc_none (P := Tryz.prog) { Tryz.sortPr with } none 0 (.func (.func 173) #[] #[]) w
    refine hc.mono ?_
    rintro e w' ⟨rfl, rfl⟩
    exact ⟨rfl, by simpa using hr, Same.refl _ _⟩
  · have eg : ∀ args w, (callFunc 173 args).run Tryz.prog w = .ok (.enter 173 args) w := enters_of Tryz.func173 (by kernel_rfl) rfl
    have hc := AnyQ.slices_SortFunc_total Tryz.sortPr 2 Tryz.isAgg113 Tryz.sizeOf113 encPr (fun _ => rfl) (fun x v hv => by simp [encPr] at hv; rcases hv with rfl | rfl <;> rfl) cmpPr swoPr 173 #[] g 0 cap l.toArray w eg (Tryz.cmpLaysPr g 0 l.toArray.size w) hr.holdsPr (blk_lt h3) (by simpa using hl) ltP_total
    refine Calls.mono hc ?_
    rintro e w' ⟨rfl, n, os, rfl⟩
    have := hr.sortedPr (s := l.mergeSort fun x y => !(ltOf cmpPr) y x) (n := n) (os := os) (List.length_mergeSort _)
    exact ⟨rfl, this.1, by simpa [Value.ownBlock] using this.2⟩
theorem SortedFunc_calls (L : List Pr) (hL : L.length ≤ 1000000) (b : Nat) (l : List (Pr × Value)) (hl : l.map (·.1) = L) (hk : (l.map (·.1)).Nodup) (B : Nat) (w : World) (hB : w.cell? ⟨B, 0, none⟩ = some (.map (some b))) (hps : PSet w b l) (s : List Pr) (hs : ∀ xs : List Pr, xs.Perm L → xs.mergeSort (fun x y => !(ltOf cmpPr) y x) = s) :
    Calls Tryz.prog 171 #[.func (.func 188) #[] #[.pointer (some ⟨B, 0, none⟩)], .func (.func 173) #[] #[]] w (PairsR s w) := by
  have hc := Collect_calls L hL b l hl hk B w hB hps
  clear hps hB hk
  have Hs := Lib.hid hs
  clear hs
  go_enter Tryz.func171, Tryz.ntmps171
  go_wp2_with (first
    | (go_at_call 186; refine hc.mono ?_; rintro e W1 ⟨v, xs, rfl, hp, hr, hs1, hv1⟩; obtain ⟨Av, cv, rfl⟩ := hr.shape; have Hp := Lib.hid hp; have Hr := Lib.hid hr; have Hs1 := Lib.hid hs1; have Hv1 := Lib.hid hv1; clear hp hr hs1 hv1)
    | (go_at_call 187; refine (SortFunc_calls _ xs (by have := Hp.out.length_eq; omega) _ Hr.out).mono ?_; rintro e W2 ⟨rfl, hr2, hs2⟩))
  go_ret
  rw [Hs.out xs Hp.out] at hr2
  have hln : s.length = xs.length := by rw [← Hs.out xs Hp.out]; exact List.length_mergeSort _
  rw [← hln] at hr2
  exact ⟨_, rfl, by rw [hln] at hr2 ⊢; exact hr2, Hs1.out.then hs2 (fun x hx => .inr (Hv1.out x (Option.mem_toList.1 hx))), Hv1.out⟩
theorem list_calls (b : Nat) (l : List (Pr × Value)) (s : List Pr) (h : PInv l s) (hL : l.length ≤ 1000000) (w : World) (hps : PSet w b l) : Calls Tryz.prog 159 #[.map (some b)] w (PairsR s w) := by
  have hk := fun w => Keys_calls b w
  have H := Lib.hid h
  have Hp := Lib.hid hps
  clear h hps
  go_enter Tryz.func159, Tryz.ntmps159
  go_wp2_with (first
    | (go_at_call 172; refine (hk _).mono ?_; rintro e W1 ⟨rfl, hz1, hc1, hs1⟩)
    | (go_at_call 171; go_must (refine (SortedFunc_calls (l.map (·.1)) (by simpa using hL) b l rfl H.out.nd _ _ hc1 (Hp.out.same hs1 (by simp)) s (fun xs hx => H.out.sort hx)).mono ?_; rintro e W2 ⟨v, rfl, hr2, hs2, hv2⟩)))
  go_ret
  exact ⟨_, rfl, hr2, hs1.trans hs2, fun b hb => by have := hv2 b hb; have := hs1.size; omega⟩
end Go.Proofs.YtdhkmfpfbjcdiaaGreatDoor
namespace Go.Proofs.YtdhkmfpfbjcdiaaGreatDoor
open Go.RowKit
theorem PInv.fold {l : List (Pr × Value)} {s : List Pr} (h : PInv l s) (ps : List Pr) : PInv (ps.foldl putK l) (ps.foldl putP s) := by
  induction ps generalizing l s with
  | nil => exact h
  | cons p ps ih => exact ih (h.put p)
theorem putK_len (l : List (Pr × Value)) (p : Pr) : (putK l p).length ≤ l.length + 1 := by
  unfold putK
  split
  · omega
  · have := congrArg List.length (keys_aput (turnP p) (Value.agg #[]) l)
    simp only [List.length_map] at this
    rw [this]
    split <;> simp
theorem foldK_len (ps : List Pr) : ∀ l : List (Pr × Value), (ps.foldl putK l).length ≤ l.length + ps.length := by
  induction ps with
  | nil => intro l; simp
  | cons p ps ih =>
    intro l
    have h1 := ih (putK l p)
    have h2 := putK_len l p
    simp only [List.foldl_cons, List.length_cons]
    omega
def unionP (a b : List Pr) : List Pr := b.foldl putP (a.foldl putP [])
theorem prCells_at : ∀ (l : List Pr) (k : Nat) (h : k < l.length), ((prCells l).drop (k * 2)).take 2 = encPr l[k]
  | t :: l, 0, _ => by simp [prCells, encPr]
  | t :: l, k + 1, h => by
    have := prCells_at l k (by simpa using h)
    rw [show (k + 1) * 2 = 2 + k * 2 by omega, ← List.drop_drop]
    have e : (prCells (t :: l)).drop 2 = prCells l := by simp [prCells, encPr]
    rw [e]
    simpa using this
def PutI (w : World) (b : Nat) (l0 : List (Pr × Value)) (ps : List Pr) (u : Value) (W : World) : Prop :=
  ∃ k : Nat, k ≤ ps.length ∧ u = .int .i64 k ∧ PSet W b ((ps.take k).foldl putK l0) ∧ Same [] w W
theorem PutI.step {w W W' : World} {b : Nat} {l0 : List (Pr × Value)} {ps : List Pr} {k : Nat} (hk : k < ps.length) (hs : Same [] w W) (hb : w.heap.size ≤ b) (h : PSet W' b (putK ((ps.take k).foldl putK l0) ps[k])) (hs' : Same [b] W W') : PutI w b l0 ps (.int .i64 ((k : Int) + 1)) W' :=
  ⟨k + 1, hk, by go_num, by rw [List.take_succ_eq_append_getElem hk, List.foldl_append]; exact h, hs.then hs' (fun x hx => by simp at hx; subst hx; exact .inr hb)⟩
set_option maxHeartbeats 1000000 in
theorem Union_calls (va vb : Value) (la lb : List Pr) (w : World) (ha : Row w 113 2 va la.length (prCells la)) (hb : Row w 113 2 vb lb.length (prCells lb)) (hn : la.length + lb.length ≤ 1000000) :
    Calls Tryz.prog 126 #[va, vb] w (PairsR (unionP la lb) w) := by
  have hmm := @run_makeMap Tryz.prog
  obtain ⟨Aa, ca, rfl⟩ := ha.shape
  obtain ⟨Ab, cb, rfl⟩ := hb.shape
  have Ha := Lib.hid ha
  have Hb := Lib.hid hb
  clear ha hb
  go_enter Tryz.func126, Tryz.ntmps126
  go_wp2
  have h0 : PutI w w.heap.size [] la (.int .i64 0) (w.alloc (.map #[] 0)) := ⟨0, Nat.zero_le _, rfl, KMap.new _ _ _, Same.alloc _ _ _⟩
  have H0 := Lib.hid h0
  clear h0
  go_loopw [13] (fun u wr => PutI w w.heap.size [] la u wr) (fun u _ => la.length - (intOf u).toNat)
  case atStart => exact H0.out
  case round =>
    obtain ⟨k, hk, rfl, hset, hsm⟩ := hrel
    by_cases hlt : k < la.length
    · obtain ⟨g, c, hv, hcell⟩ := (Row.same (Ha).out hsm (by simp)).elem (i := k) hlt (ys := encPr la[k]) rfl (prCells_at la k hlt) (by decide)
      have t0 := (hcell 0 (by decide)).1
      have t1 := (hcell 1 (by decide)).1
      simp only [encPr, List.getD_cons_zero, List.getD_cons_succ, Nat.add_zero] at t0 t1
      have Hset := Lib.hid hset
      have Hsm := Lib.hid hsm
      cases hv
      have hgl := World.block_lt_of_cell? _ _ t0
      clear hset hsm hcell
      have hput := fun W hW => put_calls w.heap.size ((la.take k).foldl putK ([] : List (Pr × Value))) la[k] W hW
      go_wp2_with (go_at_call 158; go_must (refine (hput _ (Hset.out.same (Same.alloc [] wr (.cells #[.int .i64 la[k].1, .int .i64 la[k].2] 113)) (by simp))).mono ?_; rintro e W3 ⟨⟨v3, rfl⟩, hset3, hs3⟩; have Hset3 := Lib.hid hset3; have Hs3 := Lib.hid hs3; clear hset3 hs3))
      go_roundw
      case rel => exact PutI.step hlt Hsm.out (Nat.le_refl _) Hset3.out ((Same.alloc [w.heap.size] wr _).trans Hs3.out)
      case measure => simp [intOf]; omega
    · have hkk : k = la.length := by omega
      subst hkk
      rw [List.take_length] at hset
      have Hset := Lib.hid hset
      have Hsm := Lib.hid hsm
      clear hset hsm H0 hlt hk
      obtain ⟨w1, hw1⟩ : ∃ w1, w1 = wr := ⟨_, rfl⟩
      subst hw1
      go_wp2
      have h1 : PutI w w.heap.size (la.foldl putK []) lb (.int .i64 0) w1 := ⟨0, Nat.zero_le _, rfl, Hset.out, Hsm.out⟩
      have H1 := Lib.hid h1
      clear h1
      go_loopw [23] (fun u wr => PutI w w.heap.size (la.foldl putK []) lb u wr) (fun u _ => lb.length - (intOf u).toNat)
      case atStart => exact H1.out
      case round =>
        obtain ⟨k, hk, rfl, hset, hsm⟩ := hrel
        by_cases hlt : k < lb.length
        · obtain ⟨g, c, hv, hcell⟩ := (Row.same (Hb).out hsm (by simp)).elem (i := k) hlt (ys := encPr lb[k]) rfl (prCells_at lb k hlt) (by decide)
          have t0 := (hcell 0 (by decide)).1
          have t1 := (hcell 1 (by decide)).1
          simp only [encPr, List.getD_cons_zero, List.getD_cons_succ, Nat.add_zero] at t0 t1
          have Hset := Lib.hid hset
          have Hsm := Lib.hid hsm
          cases hv
          have hgl := World.block_lt_of_cell? _ _ t0
          clear hset hsm hcell
          have hput := fun W hW => put_calls w.heap.size ((lb.take k).foldl putK (la.foldl putK [])) lb[k] W hW
          go_wp2_with (go_at_call 158; go_must (refine (hput _ (Hset.out.same (Same.alloc [] wr (.cells #[.int .i64 lb[k].1, .int .i64 lb[k].2] 113)) (by simp))).mono ?_; rintro e W3 ⟨⟨v3, rfl⟩, hset3, hs3⟩; have Hset3 := Lib.hid hset3; have Hs3 := Lib.hid hs3; clear hset3 hs3))
          go_roundw
          case rel => exact PutI.step hlt Hsm.out (Nat.le_refl _) Hset3.out ((Same.alloc [w.heap.size] wr _).trans Hs3.out)
          case measure => simp [intOf]; omega
        · have hkk : k = lb.length := by omega
          subst hkk
          rw [List.take_length] at hset
          have hlen := foldK_len lb (la.foldl putK [])
          have hlen1 := foldK_len la []
          have hinv : PInv (lb.foldl putK (la.foldl putK [])) (unionP la lb) := (PInv.nil.fold la).fold lb
          have hlist := fun W hW => list_calls w.heap.size (lb.foldl putK (la.foldl putK [])) (unionP la lb) hinv (by simp at hlen1; omega) W hW
          have Hset' := Lib.hid hset
          have Hsm' := Lib.hid hsm
          clear hset hsm hinv hlen hlen1 hlt hk
          go_wp2_with (go_at_call 159; go_must (refine (hlist _ Hset'.out).mono ?_; rintro e W4 ⟨v4, rfl, hr4, hs4, hv4⟩))
          go_ret
          exact ⟨_, rfl, hr4, Hsm'.out.trans hs4, fun b hb => by have := hv4 b hb; have := Hsm'.out.size; omega⟩
set_option maxHeartbeats 1000000 in
theorem Norm_calls (va : Value) (la : List Pr) (w : World) (ha : Row w 113 2 va la.length (prCells la)) (hn : la.length ≤ 1000000) :
    Calls Tryz.prog 123 #[va] w (PairsR (unionP la []) w) := by
  have hu := Union_calls va (.slice none 0 0) la [] w ha (World.ownsRow_nil _ _ _ _) (by simpa using hn)
  obtain ⟨Aa, ca, rfl⟩ := ha.shape
  clear ha
  go_enter Tryz.func123, Tryz.ntmps123
  go_wp2_with (go_at_call 126; refine hu.mono ?_; rintro e W1 ⟨v, rfl, h⟩)
  go_ret
  exact ⟨_, rfl, h⟩
end Go.Proofs.YtdhkmfpfbjcdiaaGreatDoor
namespace Go.Proofs.YtdhkmfpfbjcdiaaGreatDoor
open Go.RowKit Go.Shelf Go.Lib Go.Sort
theorem ints_cell {w : World} {v : Value} {l : List Int} (h : Row w 3 1 v l.length (intCells l)) {k : Nat} (hk : k < l.length) : ∃ g c, v = .slice (some ⟨g, 0, none⟩) l.length c ∧ w.cell? ⟨g, k, none⟩ = some (.int .i64 l[k]) ∧ g < w.heap.size := by
  obtain ⟨g, c, hv, h1, _⟩ := h.cell (j := k) (by omega)
  exact ⟨g, c, hv, by rw [h1, intCells_at l k hk], World.block_lt_of_cell? _ _ h1⟩
theorem ints_cell0 {w : World} {v : Value} {l : List Int} (h : Row w 3 1 v l.length (intCells l)) {k : Nat} (hk : k < l.length) : ∃ g c, v = .slice (some ⟨g, 0, none⟩) l.length c ∧ w.cell? ⟨g, k, none⟩ = some (.int .i64 l[k]) ∧ g < w.heap.size := ints_cell h hk
theorem setCells_heap (b : Nat) : ∀ (vs : List Value) (o : Nat) (w : World) (cur : Array Value) (t : TypeId) (fr : Nat × Nat), w.heap[b]? = some (.cells cur t fr) → (w.setCells b o vs).heap[b]? = some (.cells (setMany cur o vs) t fr)
  | [], _, _, _, _, _, h => h
  | v :: r, o, w, cur, t, fr, h => by
    rw [World.setCells, setMany]
    exact setCells_heap b r (o + 1) _ _ t fr (blk_set h o v)
theorem Same.setCells (b : Nat) {S : List Nat} (hb : b ∈ S) : ∀ (vs : List Value) (o : Nat) (w : World), Same S w (w.setCells b o vs)
  | [], _, w => Same.refl _ _
  | v :: r, o, w => by
    rw [World.setCells]
    exact (Same.setCell w ⟨b, o, none⟩ v hb).trans (Same.setCells b hb r (o + 1) _)
theorem take_of_get {F : Array Value} {l : List Value} (hl : l.length ≤ F.size) (h : ∀ t, t < l.length → F[t]! = l.getD t undef) : F.toList.take l.length = l := by
  apply List.ext_getElem?
  intro j
  by_cases hj : j < l.length
  · rw [List.getElem?_take_of_lt hj, Array.getElem?_toList, Array.getElem?_eq_getElem (by omega), List.getElem?_eq_getElem hj]
    have := h j hj
    rw [getElem!_pos F j (by omega)] at this
    rw [this]
    simp [List.getD_eq_getElem?_getD, hj]
  · rw [List.getElem?_take_eq_none (by omega), List.getElem?_eq_none (by omega)]
def insAt (zs : List Int) (i : Nat) (x : Int) : List Int := zs.take i ++ x :: zs.drop i
theorem insAt_len (zs : List Int) (i : Nat) (x : Int) (hi : i ≤ zs.length) : (insAt zs i x).length = zs.length + 1 := by
  simp [insAt]; omega
theorem insAt_get (zs : List Int) (i : Nat) (x : Int) (hi : i ≤ zs.length) (t : Nat) (ht : t < zs.length + 1) : (intCells (insAt zs i x)).getD t undef = if t < i then (intCells zs).getD t undef else if t = i then .int .i64 x else (intCells zs).getD (t - 1) undef := by
  have hm : intCells (insAt zs i x) = (intCells zs).take i ++ Value.int .i64 x :: (intCells zs).drop i := by simp [intCells, insAt]
  rw [hm]
  have hl : ((intCells zs).take i).length = i := by rw [List.length_take, intCells_len]; omega
  simp only [List.getD_eq_getElem?_getD]
  by_cases h1 : t < i
  · rw [if_pos h1, List.getElem?_append_left (by omega), List.getElem?_take_of_lt h1]
  · rw [if_neg h1, List.getElem?_append_right (by omega), hl]
    by_cases h2 : t = i
    · subst h2; simp
    · rw [if_neg h2]
      obtain ⟨u, rfl⟩ : ∃ u, t = i + 1 + u := ⟨t - i - 1, by omega⟩
      rw [show i + 1 + u - i = u + 1 by omega, List.getElem?_cons_succ, List.getElem?_drop, show i + 1 + u - 1 = i + u by omega]
theorem cur_get {cur : Array Value} {zs : List Int} {c : Nat} (h6 : cur.size = c * 1) (hnc : zs.length ≤ c) (h7 : cur.toList.take (zs.length * 1) = intCells zs) (t : Nat) (ht : t < zs.length) : cur[t]! = (intCells zs).getD t undef := by
  rw [← h7, List.getD_eq_getElem?_getD, List.getElem?_take_of_lt (by omega), Array.getElem?_toList, Array.getElem?_eq_getElem (by omega), getElem!_pos cur t (by omega)]
  rfl
theorem int_one (l : List Int) : ∀ v ∈ intCells l, v.oneCell' = true := by
  intro v hv
  simp only [intCells, List.mem_map] at hv
  obtain ⟨x, _, rfl⟩ := hv
  rfl
theorem Insert_calls (v : Value) (zs : List Int) (i : Nat) (x : Int) (vb : Nat) (w : World) (h : Row w 3 1 v zs.length (intCells zs)) (hi : i ≤ zs.length) (hn : zs.length ≤ 1000000) (hx : w.heap[vb]? = some (.cells #[.int .i64 x] 3 (0, 0))) (hvb : v.ownBlock ≠ some vb) :
    Calls Tryz.prog 176 #[v, .int .i64 i, .slice (some ⟨vb, 0, none⟩) 1 1] w fun e w' => ∃ v', e = .returned v' ∧ Row w' 3 1 v' (zs.length + 1) (intCells (insAt zs i x)) ∧ Same v.ownBlock.toList w w' ∧ (v'.ownBlock = v.ownBlock ∨ ∃ b, v'.ownBlock = some b ∧ w.heap.size ≤ b) := by
  have hvs : ∀ j u, [Value.int .i64 x][j]? = some u → w.cell? ⟨vb, 0 + j, none⟩ = some u := fun j u hj => by rw [Nat.zero_add, blk_cell hx]; simpa using hj
  have h1v : ∀ u ∈ [Value.int .i64 x], u.oneCell' = true := by simp [Value.oneCell']
  have hln := insAt_len zs i x hi
  rcases h.2 with ⟨rfl, h0⟩ | ⟨g, c, cur, rfl, h2, h3, h4, h5, h6, h7⟩
  · have hzs : zs = [] := List.eq_nil_of_length_eq_zero h0
    subst hzs
    have hi0 : i = 0 := by simpa using hi
    subst hi0
    have hc := Any2.slices_Insert_int_end_grow Tryz.insertL none 0 0 vb 0 1 1 [] [.int .i64 x] w (by omega) (Nat.le_refl _) (by omega) (by omega) rfl rfl (fun _ => rfl) (by simp) hvs h1v
    rw [show Tryz.insertL_ren.t 3 = 3 from rfl] at hc
    refine Calls.mono hc ?_
    rintro e w' ⟨rfl, rfl⟩
    have hg := grownCap_ge w (0 + 1) 0 3
    have hm := grownCap_le_maxLen w (0 + 1) 0 3 (by unfold maxLen; omega)
    refine ⟨_, rfl, ⟨rfl, .inr ⟨w.heap.size, _, _, rfl, Nat.zero_le _, blk_new w.drew _, hg, hm, ?_, ?_⟩⟩, ?_, .inr ⟨_, rfl, Nat.le_refl _⟩⟩
    · simp only [Nat.zero_add] at hg ⊢
      simp [Builtin.zeroCells, Value.cells]
      omega
    · simp [insAt, intCells]
    · exact (Same.drew _ w).trans (Same.alloc _ _ _)
  · have hb1 : ∀ j u, (intCells zs)[j]? = some u → w.cell? ⟨g, 0 + j, none⟩ = some u := fun j u hj => by
      have hj2 : j < zs.length := by have := (List.getElem?_eq_some_iff.1 hj).1; rwa [intCells_len] at this
      rw [Nat.zero_add, blk_cell h3, Array.getElem?_eq_getElem (by omega)]
      have := cur_get h6 h4 h7 j hj2
      rw [getElem!_pos cur j (by omega)] at this
      rw [this]
      simp [List.getD_eq_getElem?_getD, hj]
    have hvg : vb ≠ g := fun e => hvb (by rw [e]; rfl)
    by_cases hic : i = zs.length
    · subst hic
      by_cases hroom : zs.length + 1 ≤ c
      · have hc := Any2.slices_Insert_int_end_room Tryz.insertL g 0 zs.length c vb 0 1 1 [.int .i64 x] w (by omega) hroom (by unfold maxLen at h5; omega) rfl (fun j hj => by
          rw [blk_cell h3, Array.getElem?_eq_getElem (by omega)]; rfl) (fun j hj => blk_free h3 _) hvs h1v
        refine Calls.mono hc ?_
        rintro e w' ⟨rfl, rfl⟩
        refine ⟨_, rfl, ⟨by rw [intCells_len, hln]; simp, .inr ⟨g, c, _, rfl, h2, setCells_heap _ _ _ _ _ _ _ h3, hroom, h5, by simp [h6], ?_⟩⟩, Same.setCells _ (by simp [Value.ownBlock]) _ _ _, .inl rfl⟩
        have e1 : (zs.length + 1) * 1 = (intCells (insAt zs zs.length x)).length := by rw [intCells_len, hln]; simp
        rw [e1]
        refine take_of_get (by rw [intCells_len, hln]; simp [h6]; omega) (fun t ht => ?_)
        rw [intCells_len, hln] at ht
        rw [insAt_get _ _ _ (Nat.le_refl _) _ ht, get_setMany _ _ _ _ (by rw [h6]; omega)]
        by_cases h1 : t < zs.length
        · rw [if_neg (by simp; omega), if_pos h1, cur_get h6 h4 h7 t h1]
        · have : t = zs.length := by omega
          subst this
          rw [if_pos (by simp), if_neg h1, if_pos rfl]
          simp
      · have hc := Any2.slices_Insert_int_end_grow Tryz.insertL (some ⟨g, 0, none⟩) zs.length c vb 0 1 1 (intCells zs) [.int .i64 x] w (by omega) h4 (by omega) (by omega) (intCells_len _) rfl (by simp) (fun a ha j u hj => by
          cases ha
          have e1 : (⟨g, 0, none⟩ : Addr).add j = ⟨g, j, none⟩ := by unfold Addr.add; split <;> simp_all
          rw [e1]
          have := hb1 j u hj
          rwa [Nat.zero_add] at this) hvs h1v
        rw [show Tryz.insertL_ren.t 3 = 3 from rfl] at hc
        refine Calls.mono hc ?_
        rintro e w' ⟨rfl, rfl⟩
        have hg := grownCap_ge w (zs.length + 1) c 3
        have hm := grownCap_le_maxLen w (zs.length + 1) c 3 (by unfold maxLen; omega)
        refine ⟨_, rfl, ⟨by rw [intCells_len, hln]; simp, .inr ⟨w.heap.size, _, _, rfl, Nat.zero_le _, blk_new w.drew _, hg, hm, ?_, ?_⟩⟩, (Same.drew _ w).trans (Same.alloc _ _ _), .inr ⟨_, rfl, Nat.le_refl _⟩⟩
        · simp [Builtin.zeroCells, Value.cells, intCells_len]
          omega
        · rw [show insAt zs zs.length x = zs ++ [x] by simp [insAt], intCells_snoc, Array.toList_append]
          exact List.take_left' (by simp [intCells_len])
    · have hlt : i < zs.length := by omega
      by_cases hroom : zs.length + 1 ≤ c
      · have hc := Any2.slices_Insert_int_shift Tryz.insertL g 0 zs.length c i vb 0 1 1 (intCells zs) [.int .i64 x] w hlt (by omega) hroom (by unfold maxLen at h5; omega) hvg (intCells_len _) rfl hb1 (fun j hj => by
          rw [blk_cell h3, Array.getElem?_eq_getElem (by omega)]; rfl) (fun j hj => blk_free h3 _) hvs (int_one zs) h1v 3 3 1 (c * 1) (by simp [World.shape?, hx]) (by simp [World.shape?, h3, h6]) (by omega) (blk_free hx _) (blk_free hx _)
        refine Calls.mono hc ?_
        rintro e w' ⟨rfl, rfl⟩
        refine ⟨_, rfl, ⟨by rw [intCells_len, hln]; simp, .inr ⟨g, c, _, rfl, h2, setCells_heap _ _ _ _ _ _ _ (setCells_heap _ _ _ _ _ _ _ (by exact h3)), hroom, h5, by simp [h6], ?_⟩⟩, ?_, .inl rfl⟩
        · have e1 : (zs.length + 1) * 1 = (intCells (insAt zs i x)).length := by rw [intCells_len, hln]; simp
          rw [e1]
          refine take_of_get (by rw [intCells_len, hln]; simp [h6]; omega) (fun t ht => ?_)
          rw [intCells_len, hln] at ht
          rw [insAt_get _ _ _ hi _ ht, get_setMany _ _ _ _ (by simp [h6]; omega), get_setMany _ _ _ _ (by rw [h6]; omega)]
          have hdl : ((intCells zs).drop i).length = zs.length - i := by rw [List.length_drop, intCells_len]
          by_cases h1 : t < i
          · rw [if_pos h1, if_neg (by simp; omega), if_neg (by omega), cur_get h6 h4 h7 t (by omega)]
          · rw [if_neg h1]
            by_cases h2' : t = i
            · subst h2'
              rw [if_pos rfl, if_pos (by simp)]
              simp
            · rw [if_neg h2', if_neg (by simp; omega), if_pos (by rw [hdl]; omega)]
              have hlt2 : t - (0 + (i + 1)) < ((intCells zs).drop i).length := by rw [hdl]; omega
              rw [getElem!_pos ((intCells zs).drop i) _ hlt2, List.getElem_drop, List.getD_eq_getElem?_getD]
              have e2 : i + (t - (0 + (i + 1))) = t - 1 := by omega
              simp only [e2]
              rw [List.getElem?_eq_getElem (by rw [intCells_len]; omega)]
              rfl
        · exact ((Same.drew _ w).trans (Same.setCells _ (by simp [Value.ownBlock]) _ _ _)).trans (Same.setCells _ (by simp [Value.ownBlock]) _ _ _)
      · have hc := Any2.slices_Insert_int_grow Tryz.insertL g 0 zs.length c i vb 0 1 1 (intCells zs) [.int .i64 x] w hlt (by omega) h4 (by omega) (by omega) (intCells_len _) rfl hb1 hvs (int_one zs) h1v
        rw [show Tryz.insertL_ren.t 3 = 3 from rfl] at hc
        refine Calls.mono hc ?_
        rintro e w' ⟨rfl, rfl⟩
        have hg := grownCap_ge w (zs.length + 1) c 3
        have hm := grownCap_le_maxLen w (zs.length + 1) c 3 (by unfold maxLen; omega)
        have hz : ∀ m : Nat, (Builtin.zeroCells (Value.int .i64 0).cells m).size = m := fun m => by simp [Builtin.zeroCells, Value.cells]
        have hlt3 : (((intCells zs).take i).toArray ++ Builtin.zeroCells (Value.int .i64 0).cells (zs.length + 1 - i) ++ Builtin.zeroCells (Value.int .i64 0).cells (grownCap w (zs.length + 1) c 3 - (zs.length + 1))).size = grownCap w (zs.length + 1) c 3 := by
          rw [Array.size_append, Array.size_append, hz, hz]
          simp [intCells_len]
          omega
        refine ⟨_, rfl, ⟨by rw [intCells_len, hln]; simp, .inr ⟨w.heap.size, _, _, rfl, Nat.zero_le _, setCells_heap _ _ _ _ _ _ _ (setCells_heap _ _ _ _ _ _ _ (blk_new w _)), hg, hm, ?_, ?_⟩⟩, ?_, .inr ⟨_, rfl, Nat.le_refl _⟩⟩
        · rw [size_setMany, size_setMany, hlt3]; simp
        · have e1 : (zs.length + 1) * 1 = (intCells (insAt zs i x)).length := by rw [intCells_len, hln]; simp
          rw [e1]
          refine take_of_get (by rw [intCells_len, hln, size_setMany, size_setMany, hlt3]; exact hg) (fun t ht => ?_)
          rw [intCells_len, hln] at ht
          rw [insAt_get _ _ _ hi _ ht, get_setMany _ _ _ _ (by rw [size_setMany, hlt3]; omega), get_setMany _ _ _ _ (by rw [hlt3]; omega)]
          have hdl : ((intCells zs).drop i).length = zs.length - i := by rw [List.length_drop, intCells_len]
          by_cases h1 : t < i
          · rw [if_pos h1, if_neg (by rw [hdl]; omega), if_neg (by simp; omega)]
            have : t < ((intCells zs).take i).length := by rw [List.length_take, intCells_len]; omega
            rw [getElem!_pos _ _ (by rw [hlt3]; omega), Array.getElem_append_left (by rw [Array.size_append]; simp only [List.size_toArray]; omega), Array.getElem_append_left (by simpa using this)]
            simp only [List.getElem_toArray, List.getElem_take]
            rw [List.getD_eq_getElem?_getD, List.getElem?_eq_getElem (by rw [intCells_len]; omega)]
            rfl
          · rw [if_neg h1]
            by_cases h2' : t = i
            · subst h2'
              rw [if_pos rfl, if_neg (by rw [hdl]; omega), if_pos (by simp)]
              simp
            · rw [if_neg h2', if_pos (by rw [hdl]; omega)]
              have hlt2 : t - (i + 1) < ((intCells zs).drop i).length := by rw [hdl]; omega
              rw [getElem!_pos ((intCells zs).drop i) _ hlt2, List.getElem_drop, List.getD_eq_getElem?_getD]
              have e2 : i + (t - (i + 1)) = t - 1 := by omega
              simp only [e2]
              rw [List.getElem?_eq_getElem (by rw [intCells_len]; omega)]
              rfl
        · have hS : ∀ (o : Nat) (vs : List Value) (W : World), w.heap.size < W.heap.size → Same (Value.slice (some ⟨g, 0, none⟩) zs.length c).ownBlock.toList w W → Same (Value.slice (some ⟨g, 0, none⟩) zs.length c).ownBlock.toList w (W.setCells w.heap.size o vs) := fun o vs W _ hW =>
            hW.then (Same.setCells w.heap.size (S := [w.heap.size]) (by simp) vs o W) (fun y hy => by simp at hy; subst hy; exact .inr (Nat.le_refl _))
          have h01 := (Same.alloc (Value.slice (some ⟨g, 0, none⟩) zs.length c).ownBlock.toList w (.cells ((((intCells zs).take i).toArray ++ Builtin.zeroCells (Value.int .i64 0).cells (zs.length + 1 - i) ++ Builtin.zeroCells (Value.int .i64 0).cells (grownCap w (zs.length + 1) c 3 - (zs.length + 1)))) 3)).trans (Same.drew _ _)
          have h02 := hS i [.int .i64 x] _ (by simp) h01
          have h03 := h02.trans (Same.drew _ _)
          have := hS (i + 1) ((intCells zs).drop i) _ (by have := h03.size; have h04 := (Same.setCells w.heap.size (S := [w.heap.size]) (by simp) [Value.int .i64 x] i ((w.alloc (.cells ((((intCells zs).take i).toArray ++ Builtin.zeroCells (Value.int .i64 0).cells (zs.length + 1 - i) ++ Builtin.zeroCells (Value.int .i64 0).cells (grownCap w (zs.length + 1) c 3 - (zs.length + 1)))) 3)).drew)).size; simp at h04 ⊢ <;> omega) h03
          exact this
end Go.Proofs.YtdhkmfpfbjcdiaaGreatDoor
