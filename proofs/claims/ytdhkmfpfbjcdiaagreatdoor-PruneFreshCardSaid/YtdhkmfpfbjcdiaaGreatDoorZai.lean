/- lemmalaw texts, part 9. -/
import Derived.Test.YtdhkmfpfbjcdiaaGreatDoorZaa
import Derived.Test.YtdhkmfpfbjcdiaaGreatDoorZag
import Derived.Test.YtdhkmfpfbjcdiaaGreatDoorZah
import Derived.Maps.RangeRun
import Derived.Sort.OwnSortedInts
import Derived.Deep.DeepFit
import Derived.Sort.MapsRangeIn
import Derived.WalkSpells
set_option maxRecDepth 100000
set_option linter.unusedVariables false
set_option linter.unusedSimpArgs false
namespace Go.Proofs.YtdhkmfpfbjcdiaaGreatDoor
open Go.RowKit
attribute [local go_sem] Oper.semAt_some
def turnP (p : Pr) : Pr := if p.2 < p.1 then (p.2, p.1) else p
theorem turned_calls (p : Pr) (w : World) : Calls Tryz.prog 170 #[.agg #[.int .i64 p.1, .int .i64 p.2]] w fun e w' => e = .returned (prV (turnP p)) ∧ Same [] w w' := by
  by_cases h : p.2 < p.1
  · have ht : turnP p = (p.2, p.1) := by unfold turnP; rw [if_pos h]
    rw [ht]
    clear ht
    go_enter Tryz.func170, Tryz.ntmps170
    go_wp2
    refine bodyPost_ret (v := prV (p.2, p.1)) (by simp [results, Tryz.f170, go_sem, prV]) rfl ⟨rfl, ?_⟩
    repeat (first | (with_reducible refine Same.alloc' ?_ _) | (with_reducible refine Same.drew' ?_) | (with_reducible refine Same.drewN' ?_ _) | (with_reducible refine Same.set ?_ _ _ (by simp; done)) | (with_reducible refine Same.setNew ?_ _ _ (by simp <;> omega)) | (with_reducible exact Same.refl _ _))
  · have ht : turnP p = p := by unfold turnP; rw [if_neg h]
    rw [ht]
    clear ht
    go_enter Tryz.func170, Tryz.ntmps170
    go_wp2
    refine bodyPost_ret (v := prV p) (by simp [results, Tryz.f170, go_sem, prV]) rfl ⟨rfl, ?_⟩
    repeat (first | (with_reducible refine Same.alloc' ?_ _) | (with_reducible refine Same.drew' ?_) | (with_reducible refine Same.drewN' ?_ _) | (with_reducible refine Same.set ?_ _ _ (by simp; done)) | (with_reducible refine Same.setNew ?_ _ _ (by simp <;> omega)) | (with_reducible exact Same.refl _ _))
abbrev PSet (w : World) (b : Nat) (l : List (Pr × Value)) : Prop := KMap prV w b l
def putK (l : List (Pr × Value)) (p : Pr) : List (Pr × Value) := if p.1 = p.2 then l else aput (turnP p) (.agg #[]) l
theorem put_calls (b : Nat) (l : List (Pr × Value)) (p : Pr) (w : World) (h : PSet w b l) : Calls Tryz.prog 158 #[.map (some b), .agg #[.int .i64 p.1, .int .i64 p.2]] w fun e w' => (∃ v, e = .returned v) ∧ PSet w' b (putK l p) ∧ Same [b] w w' := by
  by_cases hp : p.1 = p.2
  · have he : (p.1 != p.2) = false := by simp [hp]
    have hk : putK l p = l := by unfold putK; rw [if_pos hp]
    have Hk := Lib.hid hk
    have H := Lib.hid h
    clear hp hk h
    go_enter Tryz.func158, Tryz.ntmps158
    go_wp2
    go_end0
    rw [Hk.out]
    exact ⟨⟨_, rfl⟩, H.out.same (S := []) (by
      repeat (first | (with_reducible refine Same.alloc' ?_ _) | (with_reducible refine Same.drew' ?_) | (with_reducible refine Same.drewN' ?_ _) | (with_reducible refine Same.set ?_ _ _ (by simp; done)) | (with_reducible refine Same.setNew ?_ _ _ (by simp <;> omega)) | (with_reducible exact Same.refl _ _))
      ) (by simp), by
      repeat (first | (with_reducible refine Same.alloc' ?_ _) | (with_reducible refine Same.drew' ?_) | (with_reducible refine Same.drewN' ?_ _) | (with_reducible refine Same.set ?_ _ _ (by simp; done)) | (with_reducible refine Same.setNew ?_ _ _ (by simp <;> omega)) | (with_reducible exact Same.refl _ _))
      ⟩
  · have he : (p.1 != p.2) = true := by simp [hp]
    have hk : putK l p = aput (turnP p) (.agg #[]) l := by unfold putK; rw [if_neg hp]
    have Hk := Lib.hid hk
    have H := Lib.hid h
    clear hp hk h
    go_enter Tryz.func158, Tryz.ntmps158
    go_wp2_with (first
      | (go_at_call 170; go_must (refine (turned_calls p _).mono ?_; rintro e W1 ⟨rfl, hs1⟩; have h1 := H.out.same ((Same.alloc [] w _).trans hs1) (by simp); have Hs1 := Lib.hid ((Same.alloc [] w _).trans hs1); clear hs1))
      | (at_mapUpdate; go_must (refine wp_kput prKey h1 Tryz.underlying242 rfl _ _ _ rfl (turnP p) (.agg #[]) rfl rfl rfl ?_; intro W2 h2 hs2)))
    go_end0
    rw [Hk.out]
    exact ⟨⟨_, rfl⟩, h2, (Hs1.out.mono (by simp)).trans hs2⟩
def cmpPr (p q : Pr) : Int := if p.1 = q.1 then Lib.compareInt p.2 q.2 else Lib.compareInt p.1 q.1
def encPr (p : Pr) : List Value := [.int .i64 p.1, .int .i64 p.2]
theorem list1_calls (p q : Pr) (W : World) : Calls Tryz.prog 173 #[.agg #[.int .i64 p.1, .int .i64 p.2], .agg #[.int .i64 q.1, .int .i64 q.2]] W fun e w' => e = .returned (.int .i64 (cmpPr p q)) ∧ ∃ n os', w' = Go.Sort.grow (W.drewN n) os' := by
  have hc := Tryz.cmp_Compare_int
  unfold cmpPr
  by_cases h : p.1 = q.1
  · rw [if_pos h]
    have hne : (p.1 != q.1) = false := by simp [h]
    generalize hr : Lib.compareInt p.2 q.2 = r
    have hc2 := fun w => hc p.2 q.2 w
    rw [hr] at hc2
    clear hc hr h
    go_enter Tryz.func173, Tryz.ntmps173
    go_wp2_with (go_at_call 174; refine (hc2 _).mono ?_; rintro e w' ⟨rfl, rfl⟩)
    go_ret
    exact ⟨rfl, 0, _, by rw [Go.Sort.alloc_eq_grow, Go.Sort.alloc_eq_grow, Go.Sort.grow_grow]; rfl⟩
  · rw [if_neg h]
    have hne : (p.1 != q.1) = true := by simp [h]
    generalize hr : Lib.compareInt p.1 q.1 = r
    have hc2 := fun w => hc p.1 q.1 w
    rw [hr] at hc2
    clear hc hr h
    go_enter Tryz.func173, Tryz.ntmps173
    go_wp2_with (go_at_call 174; refine (hc2 _).mono ?_; rintro e w' ⟨rfl, rfl⟩)
    go_ret
    exact ⟨rfl, 0, _, by rw [Go.Sort.alloc_eq_grow, Go.Sort.alloc_eq_grow, Go.Sort.grow_grow]; rfl⟩
end Go.Proofs.YtdhkmfpfbjcdiaaGreatDoor
namespace Go.Proofs.YtdhkmfpfbjcdiaaGreatDoor
open Go.RowKit
attribute [local go_sem] Oper.semAt_some
theorem Keys_calls (b : Nat) (w : World) : Calls Tryz.prog 172 #[.map (some b)] w fun e w' => e = .returned (.func (.func 188) #[] #[.pointer (some ⟨w.heap.size, 0, none⟩)]) ∧
    w'.heap.size = w.heap.size + 1 ∧ w'.cell? ⟨w.heap.size, 0, none⟩ = some (.map (some b)) ∧ Same [] w w' := by
  have hmf : ∀ (fn : Fn) (first cap : Array Value) (w : World), (Instr.makeFunc fn first cap).run Tryz.prog w = .ok (.func fn first cap) w := fun _ _ _ _ => rfl
  go_enter Tryz.func172, Tryz.ntmps172
  go_wp2
  go_ret
  exact ⟨rfl, by simp, blk_c (blk_new _ _), Same.alloc _ _ _⟩
def KIter {α : Type} (enc : α → Value) (w : World) (b r : Nat) (l : List (α × Value)) (done : List α) : Prop :=
  ∃ es clock seen, w.heap[b]? = some (.map es clock) ∧ es.toList.map (fun e => (e.key, e.val)) = l.map (fun p => (enc p.1, p.2)) ∧ (∀ x ∈ es.toList, x.born < clock) ∧ (es.toList.map (·.born)).Nodup ∧
    w.heap[r]? = some (.mapIter (some b) clock seen clock) ∧ ∃ ds : List MapEntry, (∀ x ∈ ds, x ∈ es.toList) ∧ ds.map (·.key) = done.map enc ∧ seen = (ds.map (·.born)).toArray ∧ (ds.map (·.born)).Nodup
theorem KIter.same {α : Type} {enc : α → Value} {S : List Nat} {w w' : World} {b r : Nat} {l : List (α × Value)} {done : List α} (h : KIter enc w b r l done) (hs : Same S w w') (hb : b ∉ S) (hr : r ∉ S) : KIter enc w' b r l done := by
  obtain ⟨es, clock, seen, h1, h2, h3, h4, h5, h6⟩ := h
  exact ⟨es, clock, seen, hs.get h1 hb, h2, h3, h4, hs.get h5 hr, h6⟩
theorem KIter.map {α : Type} {enc : α → Value} {w : World} {b r : Nat} {l : List (α × Value)} {done : List α} (h : KIter enc w b r l done) : KMap enc w b l := by
  obtain ⟨es, clock, seen, h1, h2, h3, h4, _⟩ := h
  exact ⟨es, clock, h1, h2, h3, h4⟩
theorem KIter.lt {α : Type} {enc : α → Value} {w : World} {b r : Nat} {l : List (α × Value)} {done : List α} (h : KIter enc w b r l done) : r < w.heap.size := by
  obtain ⟨es, clock, seen, h1, h2, h3, h4, h5, _⟩ := h
  exact blk_lt h5
theorem KMap.run_range {α : Type} [DecidableEq α] {enc : α → Value} {P : Program} {w : World} {b : Nat} {l : List (α × Value)} {t kt et : TypeId} (h : KMap enc w b l) (ht : P.underlying t = some (.map kt et)) :
    ∃ w', (Instr.range t (.map (some b))).run P w = .ok (.pointer (some ⟨w.heap.size, 0, none⟩)) w' ∧ KIter enc w' b w.heap.size l [] ∧ Same [] w w' ∧ w'.heap.size = w.heap.size + 1 := by
  obtain ⟨es, clock, hb, he, hbo, hnd⟩ := h
  refine ⟨w.alloc (.mapIter (some b) clock #[] clock), ?_, ⟨es, clock, #[], blk_old hb _, he, hbo, hnd, blk_new _ _, [], by simp, rfl, rfl, by simp⟩, Same.alloc _ _ _, by simp⟩
  simp only [Instr.range, Sem.run_bind, run_underlying ht, Result.andThen_ok, MapKept.run_getObj_map hb]
  rfl
open Classical in
theorem KIter.run_next {α : Type} [DecidableEq α] {enc : α → Value} (hinj : ∀ x y, enc x = enc y → x = y) {P : Program} {w : World} {b r : Nat} {l : List (α × Value)} {done : List α} (h : KIter enc w b r l done) (hk : (l.map (·.1)).Nodup) (ty : TypeId) :
    ((Instr.next (.pointer (some ⟨r, 0, none⟩)) false ty).run P w = .ok (.tuple #[.bool false]) w ∧ done.Perm (l.map (·.1))) ∨
    ∃ x v w', (x, v) ∈ l ∧ x ∉ done ∧ (Instr.next (.pointer (some ⟨r, 0, none⟩)) false ty).run P w = .ok (.tuple #[.bool true, enc x, v]) w' ∧ KIter enc w' b r l (done ++ [x]) ∧ Same [r] w w' ∧
      (Instr.entry (.pointer (some ⟨r, 0, none⟩))).run P w' = .ok (.tuple #[enc x, v]) w' := by
  obtain ⟨es, clock, seen, hb, he, hbo, hnd, hr, ds, hd1, hd2, rfl, hd3⟩ := h
  have hkeys : es.toList.map (·.key) = (l.map (·.1)).map enc := by
    have := congrArg (List.map Prod.fst) he
    simpa [List.map_map, Function.comp_def] using this
  have hknd : (es.toList.map (·.key)).Nodup := by
    rw [hkeys]
    exact List.Pairwise.map _ (fun a b hab hc => hab (hinj _ _ hc)) hk
  have hborn : ∀ x ∈ es.toList, ∀ y ∈ es.toList, x.born = y.born → x = y := by
    intro x hx y hy hxy
    have key : ∀ (L : List MapEntry), (L.map (·.born)).Nodup → x ∈ L → y ∈ L → x = y := by
      intro L
      induction L with
      | nil => intro _ h; cases h
      | cons a L ih =>
        intro hn h1 h2
        simp only [List.map_cons, List.nodup_cons] at hn
        rcases List.mem_cons.1 h1 with e1 | h1 <;> rcases List.mem_cons.1 h2 with e2 | h2
        · rw [e1, e2]
        · exact absurd (List.mem_map.2 ⟨y, h2, by rw [← hxy, e1]⟩) hn.1
        · exact absurd (List.mem_map.2 ⟨x, h1, by rw [hxy, e2]⟩) hn.1
        · exact ih hn.2 h1 h2
    exact key _ hnd hx hy
  have hkey : ∀ x ∈ es.toList, ∀ y ∈ es.toList, x.key = y.key → x = y := by
    intro x hx y hy hxy
    have key : ∀ (L : List MapEntry), (L.map (·.key)).Nodup → x ∈ L → y ∈ L → x = y := by
      intro L
      induction L with
      | nil => intro _ h; cases h
      | cons a L ih =>
        intro hn h1 h2
        simp only [List.map_cons, List.nodup_cons] at hn
        rcases List.mem_cons.1 h1 with e1 | h1 <;> rcases List.mem_cons.1 h2 with e2 | h2
        · rw [e1, e2]
        · exact absurd (List.mem_map.2 ⟨y, h2, by rw [← hxy, e1]⟩) hn.1
        · exact absurd (List.mem_map.2 ⟨x, h1, by rw [hxy, e2]⟩) hn.1
        · exact ih hn.2 h1 h2
    exact key _ hknd hx hy
  have hseen : ∀ x ∈ es.toList, ((ds.map (·.born)).toArray.contains x.born) = decide (x ∈ ds) := by
    intro x hx
    rw [Bool.eq_iff_iff]
    simp only [List.contains_toArray, List.contains_eq_mem, List.mem_map, decide_eq_true_eq]
    exact ⟨fun ⟨y, hy, hxy⟩ => by rw [← hborn y (hd1 y hy) x hx hxy]; exact hy, fun h => ⟨x, h, rfl⟩⟩
  rcases run_next_at (P := P) w ty r b clock clock (ds.map (·.born)).toArray es clock hr hb hbo (Nat.le_refl _) with ⟨h0, hrun⟩ | ⟨e, hem, w1, hal, hrun⟩
  · refine .inl ⟨hrun, ?_⟩
    have hall : ∀ x ∈ es.toList, x ∈ ds := by
      intro x hx
      have : leftOf es (ds.map (·.born)).toArray = #[] := Array.eq_empty_of_size_eq_zero h0
      have h1 := hseen x hx
      by_cases hc : x ∈ ds
      · exact hc
      · exfalso
        rw [decide_eq_false hc] at h1
        have : x ∈ leftOf es (ds.map (·.born)).toArray := by
          unfold leftOf
          rw [Array.mem_filter]
          exact ⟨by simpa using hx, by rw [h1]; rfl⟩
        rw [‹leftOf es _ = #[]›] at this
        simp at this
    have hdk : (ds.map (·.key)).Nodup := by
      have hsub : ∀ (L : List MapEntry), (∀ x ∈ L, x ∈ es.toList) → (L.map (·.born)).Nodup → (L.map (·.key)).Nodup := by
        intro L
        induction L with
        | nil => intro _ _; simp
        | cons a L ih =>
          intro h1 h2
          simp only [List.map_cons, List.nodup_cons] at h2 ⊢
          refine ⟨fun hm => ?_, ih (fun x hx => h1 x (List.mem_cons_of_mem _ hx)) h2.2⟩
          obtain ⟨y, hy, hyk⟩ := List.mem_map.1 hm
          have := hkey y (h1 y (List.mem_cons_of_mem _ hy)) a (h1 a (List.mem_cons_self ..)) hyk
          exact h2.1 (List.mem_map.2 ⟨y, hy, by rw [this]⟩)
      exact hsub ds hd1 hd3
    rw [hd2] at hdk
    have hdn : done.Nodup := List.Pairwise.of_map _ (fun a b hab e => hab (by rw [e])) hdk
    refine (List.perm_ext_iff_of_nodup hdn hk).2 (fun a => ⟨fun ha => ?_, fun ha => ?_⟩)
    · have : enc a ∈ ds.map (·.key) := by rw [hd2]; exact List.mem_map.2 ⟨a, ha, rfl⟩
      obtain ⟨y, hy, hyk⟩ := List.mem_map.1 this
      have h2 : enc a ∈ (l.map (·.1)).map enc := by rw [← hkeys, ← hyk]; exact List.mem_map.2 ⟨y, hd1 y hy, rfl⟩
      obtain ⟨z, hz, hza⟩ := List.mem_map.1 h2
      rw [← hinj _ _ hza]; exact hz
    · have : enc a ∈ es.toList.map (·.key) := by rw [hkeys]; exact List.mem_map.2 ⟨a, ha, rfl⟩
      obtain ⟨y, hy, hyk⟩ := List.mem_map.1 this
      have h2 : enc a ∈ done.map enc := by rw [← hd2, ← hyk]; exact List.mem_map.2 ⟨y, hall y hy, rfl⟩
      obtain ⟨z, hz, hza⟩ := List.mem_map.1 h2
      rw [← hinj _ _ hza]; exact hz
  · obtain ⟨hme, hse⟩ : e ∈ es.toList ∧ (ds.map (·.born)).toArray.contains e.born = false := by
      unfold leftOf at hem
      simp only [Array.mem_toList_iff, Array.mem_filter] at hem
      exact ⟨by simpa using hem.1, by simpa using hem.2⟩
    have hed : e ∉ ds := by
      have := hseen e hme
      rw [hse] at this
      intro hc
      rw [decide_eq_true hc] at this
      cases this
    obtain ⟨p, hp, hpe⟩ : ∃ p ∈ l, (enc p.1, p.2) = (e.key, e.val) := by
      have : (e.key, e.val) ∈ es.toList.map (fun e => (e.key, e.val)) := List.mem_map.2 ⟨e, hme, rfl⟩
      rw [he] at this
      exact List.mem_map.1 this
    obtain ⟨x, v⟩ := p
    simp only [Prod.mk.injEq] at hpe
    obtain ⟨hpk, hpv⟩ := hpe
    have hr1 : w1.heap[r]? = some (.mapIter (some b) clock (ds.map (·.born)).toArray clock) := by rcases hal with rfl | rfl <;> exact hr
    have hb1 : w1.heap[b]? = some (.map es clock) := by rcases hal with rfl | rfl <;> exact hb
    have hne : r ≠ b := fun e1 => by rw [e1, hb] at hr; cases hr
    have hset : (ChangeMaps.setBlock w1 r (Obj.mapIter (some b) clock ((ds.map (·.born)).toArray.push e.born) clock)).heap[r]? = some (Obj.mapIter (some b) clock ((ds.map (·.born)).toArray.push e.born) clock) ∧ ∀ r', r' ≠ r → (ChangeMaps.setBlock w1 r (Obj.mapIter (some b) clock ((ds.map (·.born)).toArray.push e.born) clock)).heap[r']? = w1.heap[r']? := MapKept.heap_set hr1
    have hb' : (ChangeMaps.setBlock w1 r (.mapIter (some b) clock ((ds.map (·.born)).toArray.push e.born) clock)).heap[b]? = some (.map es clock) := (hset.2 b (fun e1 => hne e1.symm)).trans hb1
    refine .inr ⟨x, v, _, hp, ?_, by rw [hrun, hpk, hpv], ⟨es, clock, (ds.map (·.born)).toArray.push e.born, hb', he, hbo, hnd, hset.1, ds ++ [e], ?_, ?_, ?_, ?_⟩, ?_, ?_⟩
    · intro hx
      have : enc x ∈ ds.map (·.key) := by rw [hd2]; exact List.mem_map.2 ⟨x, hx, rfl⟩
      obtain ⟨y, hy, hyk⟩ := List.mem_map.1 this
      exact hed (by rw [← hkey y (hd1 y hy) e hme (by rw [hyk, hpk])]; exact hy)
    · intro y hy
      rcases List.mem_append.1 hy with hy | hy
      · exact hd1 y hy
      · simp at hy; subst hy; exact hme
    · simp [hd2, hpk]
    · simp
    · rw [List.map_append]
      refine List.nodup_append.2 ⟨hd3, by simp, ?_⟩
      intro a ha c hc
      simp at hc
      subst hc
      obtain ⟨y, hy, rfl⟩ := List.mem_map.1 ha
      intro hc
      exact hed (by rw [← hborn y (hd1 y hy) e hme hc]; exact hy)
    · rcases hal with rfl | rfl <;> exact ⟨rfl, rfl, rfl, by simp [ChangeMaps.setBlock], fun i _ hi => hset.2 i (by simpa using hi)⟩
    · rw [hpk, hpv]
      exact run_entry_at _ r b clock _ es clock e hset.1 hb' hme hnd
theorem prV_inj : ∀ x y, prV x = prV y → x = y := by
  intro x y h
  simp only [prV, Value.agg.injEq, Array.mk.injEq, List.cons.injEq, Value.int.injEq, true_and, and_true] at h
  exact Prod.ext h.1 h.2
end Go.Proofs.YtdhkmfpfbjcdiaaGreatDoor
namespace Go.Proofs.YtdhkmfpfbjcdiaaGreatDoor
open Go.RowKit
attribute [local go_sem] Oper.semAt_some
theorem filt_len {α : Type} (p : α → Bool) : ∀ L : List α, (L.filter p).length + (L.filter (fun x => !p x)).length = L.length
  | [] => rfl
  | a :: L => by
    have := filt_len p L
    by_cases h : p a = true <;> simp [h] <;> omega
open Classical in
theorem KIter.left_eq {α : Type} {enc : α → Value} {w : World} {b r : Nat} {l : List (α × Value)} {done : List α} (h : KIter enc w b r l done) : w.rangeLeft b r = l.length - done.length := by
  obtain ⟨es, clock, seen, hb, he, hbo, hnd, hr, ds, hd1, hd2, rfl, hd3⟩ := h
  simp only [World.rangeLeft, hb, hr]
  have hel : es.toList.length = l.length := by have := congrArg List.length he; simpa using this
  have hdl : ds.length = done.length := by have := congrArg List.length hd2; simpa using this
  have hborn : ∀ x ∈ es.toList, ∀ y ∈ es.toList, x.born = y.born → x = y := by
    intro x hx y hy hxy
    have key : ∀ (L : List MapEntry), (L.map (·.born)).Nodup → x ∈ L → y ∈ L → x = y := by
      intro L
      induction L with
      | nil => intro _ h; cases h
      | cons a L ih =>
        intro hn h1 h2
        simp only [List.map_cons, List.nodup_cons] at hn
        rcases List.mem_cons.1 h1 with e1 | h1 <;> rcases List.mem_cons.1 h2 with e2 | h2
        · rw [e1, e2]
        · exact absurd (List.mem_map.2 ⟨y, h2, by rw [← hxy, e1]⟩) hn.1
        · exact absurd (List.mem_map.2 ⟨x, h1, by rw [hxy, e2]⟩) hn.1
        · exact ih hn.2 h1 h2
    exact key _ hnd hx hy
  have hdn : ds.Nodup := List.Pairwise.of_map _ (fun a b hab e => hab (by rw [e])) hd3
  have hen : es.toList.Nodup := List.Pairwise.of_map _ (fun a b hab e => hab (by rw [e])) hnd
  have hp : (es.toList.filter (fun x => decide (x ∈ ds))).Perm ds := by
    refine (List.perm_ext_iff_of_nodup (hen.filter _) hdn).2 (fun a => ?_)
    simp only [List.mem_filter, decide_eq_true_eq]
    exact ⟨fun h => h.2, fun h => ⟨hd1 a h, h⟩⟩
  have hlen : (leftOf es (ds.map (·.born)).toArray).size = (es.toList.filter (fun x => !decide (x ∈ ds))).length := by
    unfold leftOf
    rw [← Array.length_toList, Array.toList_filter]
    congr 1
    refine List.filter_congr (fun x hx => ?_)
    congr 1
    rw [Bool.eq_iff_iff]
    simp only [List.contains_toArray, List.contains_eq_mem, List.mem_map, decide_eq_true_eq]
    exact ⟨fun ⟨y, hy, hxy⟩ => by rw [← hborn y (hd1 y hy) x hx hxy]; exact hy, fun h => ⟨x, h, rfl⟩⟩
  have hsum := filt_len (fun x => decide (x ∈ ds)) es.toList
  have hpl := hp.length_eq
  omega
section
variable {α : Type} [DecidableEq α] {enc : α → Value} {F : Fence} {n : Nat} {P : Program} {w : World} {ops : Array Oper} {rest : List Oper} {o : Oper} {a : Act} {Q : Exit → Act → World → Prop} {b r : Nat} {l : List (α × Value)} {done : List α}
theorem wpI_krange (hg : o.guard = none) (m : Operand) (t : TypeId) (hop : o.op = Op.range t m) (k e : TypeId) (ht : P.underlying t = some (.map k e)) (hm : a.eval m = .map (some b)) (h : KMap enc w b l)
    (hK : ∀ w', KIter enc w' b w.heap.size l [] → Same [] w w' → w'.heap.size = w.heap.size + 1 → wpListIn F n P ops Q rest (a.put o.dst (.pointer (some ⟨w.heap.size, 0, none⟩))) w') :
    wpListIn F n P ops Q (o :: rest) a w := by
  refine wpListIn_plain hg fun K' hK' => ?_
  obtain ⟨w', hrun, r1, r2, r3⟩ := h.run_range (P := P) ht
  unfold Oper.wpIn
  refine ⟨?_, ?_⟩
  · simp [Oper.about, hop]
  · rw [Oper.semAt_plain F _ _ (by rw [hop]; intro c hc'; cases hc')]
    simp [execOp, hop, hm, hrun, Result.andThen]
    exact hK' _ _ (hK w' r1 r2 r3)
theorem wpI_knext (hinj : ∀ x y, enc x = enc y → x = y) (hg : o.guard = none) (it : Operand) (hop : o.op = Op.next it false) (hit : a.eval it = .pointer (some ⟨r, 0, none⟩)) (h : KIter enc w b r l done) (hk : (l.map (·.1)).Nodup)
    (hDone : done.Perm (l.map (·.1)) → wpListIn F n P ops Q rest (a.put o.dst (.tuple #[.bool false])) w)
    (hMore : ∀ (x : α) (v : Value) (w' : World), (x, v) ∈ l → x ∉ done → KIter enc w' b r l (done ++ [x]) → Same [r] w w' → (Instr.entry (.pointer (some ⟨r, 0, none⟩))).run P w' = .ok (.tuple #[enc x, v]) w' →
      wpListIn F n P ops Q rest (a.put o.dst (.tuple #[.bool true, enc x, v])) w') :
    wpListIn F n P ops Q (o :: rest) a w := by
  refine wpListIn_plain hg fun K' hK' => ?_
  unfold Oper.wpIn
  refine ⟨by simp [Oper.about, hop], ?_⟩
  rw [Oper.semAt_plain F _ _ (by rw [hop]; intro c hc'; cases hc')]
  rcases h.run_next (P := P) hinj hk o.type with ⟨hrun, hp⟩ | ⟨x, v, w', hxl, hxd, hrun, h2, hs, hen⟩
  · simp [execOp, hop, hit, hrun, Result.andThen]
    exact hK' _ _ (hDone hp)
  · simp [execOp, hop, hit, hrun, Result.andThen]
    exact hK' _ _ (hMore x v w' hxl hxd h2 hs hen)
end
theorem KIter.keep {α : Type} {enc : α → Value} {w w' : World} {b r : Nat} {l : List (α × Value)} {done : List α} (h : KIter enc w b r l done) (hb : w'.heap[b]? = w.heap[b]?) (hr : w'.heap[r]? = w.heap[r]?) : KIter enc w' b r l done := by
  obtain ⟨es, clock, seen, h1, h2, h3, h4, h5, h6⟩ := h
  exact ⟨es, clock, seen, hb.trans h1, h2, h3, h4, hr.trans h5, h6⟩
def KeysI (b : Nat) (l : List (Pr × Value)) (J : List Pr → World → Prop) (r : Nat) (wr : World) : Prop := ∃ pre, KIter prV wr b r l pre ∧ J pre wr ∧ pre.length ≤ l.length
set_option maxHeartbeats 4000000 in
theorem keys_tells (b : Nat) (l : List (Pr × Value)) (hk : (l.map (·.1)).Nodup) (B : Nat) (W : World) (hB : B < W.heap.size) (o : Obj) (hm : W.heap[b]? = some o) (hps : PSet W b l) :
    TellsP Tryz.prog 1 188 #[.pointer (some ⟨B, 0, none⟩)] (fun p : Pr => #[prV p]) (fun w => w.cell? ⟨B, 0, none⟩ = some (.map (some b)) ∧ w.heap[b]? = some o)
      (fun pre x => x ∈ l.map (·.1) ∧ x ∉ pre) (fun xs => xs.Perm (l.map (·.1))) W := by
  intro lp J Jx h0 hKp hJ hJx hY
  have hK0 := hKp _ _ h0
  have hbl := hps.lt
  refine callsIn_of_wp Tryz.func188 rfl trivial ?_ rfl
  simp only [Tryz.ntmps188, List.size_toArray, List.length_cons, List.length_nil, Nat.reduceAdd, Nat.reduceSub, Array.replicate_succ, Array.replicate_zero, List.push_toArray, List.append_toArray, List.nil_append, List.cons_append]
  have hc0 := hK0.1
  have HP := Lib.hid hps
  have Hm := Lib.hid hm
  clear hK0 hps hm
  gi_wp2_with (gi_at_range; refine wpI_krange rfl _ 242 rfl 113 _ Tryz.underlying242 rfl HP.out ?_; intro w1 hit hs1 hz1)
  (try simp only [Act.put, List.setIfInBounds_toArray, List.set_cons_succ, List.set_cons_zero])
  have hat : KeysI b l J W.heap.size w1 := ⟨[], hit, hJ _ _ _ _ h0 hs1 (by simp), Nat.zero_le _⟩
  have Hat := Lib.hid hat
  clear hat hit hs1
  gi_loopw [] (fun wr => KeysI b l J W.heap.size wr) (fun wr => wr.rangeLeft b W.heap.size)
  case atStart => exact Hat.out
  case round =>
    obtain ⟨pre, hit, hj, hpl⟩ := hrel
    have hlt := hit.lt
    have HIt := Lib.hid hit
    have hJ0 := Lib.hid hj
    clear hit hj
    gi_wp2_with (gi_at_next; refine wpI_knext prV_inj rfl _ rfl rfl HIt.out hk ?_ ?_)
    · intro hp
      gi_wp2
      go_end0
      exact ⟨⟨_, rfl⟩, .inl ⟨pre, hp, hJ0.out⟩⟩
    · intro a c v w' hxl hxd hit2 hs2 hen
      have hJ2 := hJ _ _ _ _ hJ0.out hs2 (by simp)
      have hz2 := hs2.size
      have hm2 := (hKp _ _ hJ2).2
      obtain ⟨fn, tmps, assign, body, hy, hR⟩ := hY pre (a, c) (w'.alloc (.cells #[.int .i64 a, .int .i64 c] 113)) ⟨List.mem_map.2 ⟨_, hxl, rfl⟩, hxd⟩ (hJ _ _ _ _ hJ2 (Same.alloc [] _ _) (by simp)) (by simp; omega)
      dsimp only [prV] at hy hen
      have HIt2 := Lib.hid hit2
      have HJ2 := Lib.hid hJ2
      have Hm2 := Lib.hid hm2
      clear hit2 hJ2 hm2 hs2
      gi_wp2
      refine hR.mono ?_
      rintro e W3 ⟨hst, (⟨rfl, hJ3⟩ | ⟨rfl, hJx3⟩)⟩
      · have hm3 := (hKp _ _ hJ3).2
        have hit3 : KIter prV W3 b W.heap.size l (pre ++ [(a, c)]) := HIt2.out.keep (hm3.trans Hm2.out.symm) ((hst.2 _ (by omega) (by omega)).trans ((Same.alloc [] w' _).block _ (by omega) (by simp)))
        have hlen : (pre ++ [(a, c)]).length ≤ l.length := by
          have h1 := hit3.left_eq
          obtain ⟨es, clock, seen, q1, q2, q3, q4, q5, ds, p1, p2, p3, p4⟩ := hit3
          have hdn : ds.Nodup := List.Pairwise.of_map _ (fun a b hab e => hab (by rw [e])) p4
          have := hdn.length_le_of_subset (fun x hx => p1 x hx)
          have e1 := congrArg List.length q2
          have e2 := congrArg List.length p2
          simp at e1 e2 this ⊢
          omega
        have Hit3 := Lib.hid hit3
        clear hit3 hm3 hst
        gi_wp2
        refine ⟨⟨pre ++ [(a, c)], Hit3.out, hJ3, hlen⟩, ?_⟩
        rw [Hit3.out.left_eq, HIt.out.left_eq]
        simp at hlen ⊢
        omega
      · gi_wp2
        refine bodyPost_ret (results_none rfl _ _ _) rfl ?_
        exact ⟨⟨_, rfl⟩, .inr ⟨_, hJx3⟩⟩
end Go.Proofs.YtdhkmfpfbjcdiaaGreatDoor
namespace Go.Proofs.YtdhkmfpfbjcdiaaGreatDoor
open Go.RowKit
def CloneR (e k n : Nat) (xs : List Value) (w : World) (r : Ending) (w' : World) : Prop := ∃ v, r = .returned v ∧ Row w' e k v n xs ∧ Same [] w w' ∧ (∀ b, v.ownBlock = some b → w.heap.size ≤ b)
theorem row_empty (w : World) (e k : Nat) : Row (w.alloc (.cells #[] e)) e k (.slice (some ⟨w.heap.size, 0, none⟩) 0 0) 0 [] :=
  ⟨by simp, .inr ⟨w.heap.size, 0, #[], rfl, Nat.zero_le _, blk_new _ _, Nat.le_refl _, by simp, by simp, by simp⟩⟩
section
variable {P : Program} {ops : Array Oper} {rest : List Oper} {o : Oper} {a : Act} {Q : Exit → Act → World → Prop}
theorem wp_appendRow {W : World} (hgd : o.guard = none) (s x : Operand) (t : TypeId) (ho : o.op = .call { callee := .builtin .append, args := #[s, x], argTypes := #[t, t] })
    (e k bytes : Nat) (z : Value) (ht : P.underlying t = some (.slice e)) (hinfo : (P.info? e).map (fun i => (i.zero, i.size, i.bytes)) = some (some z, k, bytes)) (hz : z.cells.size = k) (hk : 0 < k)
    (v : Value) (n : Nat) (xs : List Value) (hs : a.eval s = v) (hown : Row W e k v n xs) (g m c : Nat) (ys : List Value) (hx : a.eval x = .slice (some ⟨g, 0, none⟩) m c) (hsrc : Row W e k (.slice (some ⟨g, 0, none⟩) m c) m ys) (h1 : ∀ u ∈ ys, u.oneCell' = true)
    (hn : (n + m) * bytes ≤ 140737488355328) (hb : 0 < bytes)
    (h : ∀ v' w', Row w' e k v' (n + m) (xs ++ ys) → Same v.ownBlock.toList W w' → (v'.ownBlock = v.ownBlock ∨ ∃ b, v'.ownBlock = some b ∧ W.heap.size ≤ b) → wpList P ops Q rest (a.put o.dst v') w') :
    wpList P ops Q (o :: rest) a W := by
  obtain ⟨i, hi, hz0, hz1, hz2⟩ := info_split hinfo
  have hlen : n + m ≤ 140737488355328 := Nat.le_trans (Nat.le_mul_of_pos_right _ hb) hn
  refine wpList_append_own_at _ hgd s x t ho 0 e i z k bytes ht hi hz0 hz1 hz2 hz hk v n xs hs hown ⟨g, 0, none⟩ m c ys hx hsrc.1 (fun j u hj => ?_) h1 (by simp only [maxLen]; omega) hn (Nat.zero_le _) ?_
  · have hjl : j < m * k := by rw [← hsrc.1]; exact (List.getElem?_eq_some_iff.1 hj).1
    obtain ⟨g', c', hv, h2, _⟩ := hsrc.cell (j := j) hjl
    cases hv
    have e1 : (⟨g, 0, none⟩ : Addr).add j = ⟨g, j, none⟩ := by unfold Addr.add; split <;> simp_all
    rw [e1, h2]
    simp [List.getD_eq_getElem?_getD, hj]
  · intro v' w' hown' hg _ hat
    refine h v' w' hown' (Same.of_grown hg) ?_
    rcases hat with hat | hat
    · exact .inl hat
    · exact .inr ⟨_, hat, Nat.le_refl _⟩
end
theorem Tryz.infoInt' : (Tryz.prog.info? 3).map (fun i => (i.zero, i.size, i.bytes)) = some (some (.int .i64 0), 1, 8) := by kernel_rfl
theorem Tryz.infoPair : (Tryz.prog.info? 113).map (fun i => (i.zero, i.size, i.bytes)) = some (some (.agg #[.int .i64 0, .int .i64 0]), 2, 16) := by kernel_rfl
theorem Tryz.infoToken' : (Tryz.prog.info? 54).map (fun i => (i.zero, i.size, i.bytes)) = some (some (.agg #[.string ByteArray.empty, .int .i64 0, .int .i64 0, .int .i64 0]), 4, 40) := by kernel_rfl
theorem Tryz.infoHyp : (Tryz.prog.info? 150).map (fun i => (i.zero, i.size, i.bytes)) = some (some (.agg #[.string ByteArray.empty, .bool false, .int .i64 0, .slice none 0 0]), 4, 56) := by kernel_rfl
set_option maxHeartbeats 1000000 in
theorem CloneInt_calls (v : Value) (n : Nat) (xs : List Value) (w : World) (h : Row w 3 1 v n xs) (h1 : ∀ u ∈ xs, u.oneCell' = true) (hn : n ≤ 1000000) : Calls Tryz.prog 44 #[v] w (CloneR 3 1 n xs w) := by
  rcases h.2 with ⟨rfl, rfl⟩ | ⟨g, cap, cur, rfl, h2, h3, h4, h5, h6, h7⟩
  · have hxs : xs = [] := by have := h.1; simpa using this
    subst hxs
    have hnil := fun w => Lib.run_eql_slice_nil (P := Tryz.prog) w _ _ none 0 0 0 0 Tryz.underlying31
    clear h h1
    go_enter Tryz.func44, Tryz.ntmps44
    go_wp2
    go_ret
    exact ⟨_, rfl, World.ownsRow_nil _ _ _ _, Same.refl _ _, by simp [Value.ownBlock]⟩
  · have H := Lib.hid h
    have H1 := Lib.hid h1
    have hnil := fun w => Lib.run_eql_slice_nil (P := Tryz.prog) w _ _ (some ⟨g, 0, none⟩) n cap 0 0 Tryz.underlying31
    clear h h1 h2 h3 h4 h5 h6 h7
    go_enter Tryz.func44, Tryz.ntmps44
    go_wp2_with (at_builtin; go_must (refine wp_appendRow rfl _ _ 31 rfl 3 1 8 _ Tryz.underlying31 Tryz.infoInt' rfl (by decide) (.slice (some ⟨w.heap.size, 0, none⟩) 0 0) 0 [] rfl (row_empty w _ _) g n cap xs rfl (H.out.same (Same.alloc [] _ _) (by simp)) H1.out (by omega) (by decide) ?_; intro v1 w1 hr1 hs1 ho1; obtain ⟨A1, c1, rfl⟩ := hr1.shape))
    rw [List.nil_append] at hr1
    simp only [Nat.zero_add] at hr1 ho1 ⊢
    go_ret
    refine ⟨.slice A1 n c1, rfl, hr1, (Same.alloc [] w _).then hs1 (fun x hx => .inr (by simp [Value.ownBlock] at hx; omega)), fun b hb => ?_⟩
    rcases ho1 with ho | ⟨c, hc, hle⟩
    · rw [ho] at hb; simp [Value.ownBlock] at hb; omega
    · rw [hc] at hb; cases hb; simp at hle; omega
set_option maxHeartbeats 1000000 in
theorem ClonePair_calls (v : Value) (n : Nat) (xs : List Value) (w : World) (h : Row w 113 2 v n xs) (h1 : ∀ u ∈ xs, u.oneCell' = true) (hn : n ≤ 1000000) : Calls Tryz.prog 43 #[v] w (CloneR 113 2 n xs w) := by
  rcases h.2 with ⟨rfl, rfl⟩ | ⟨g, cap, cur, rfl, h2, h3, h4, h5, h6, h7⟩
  · have hxs : xs = [] := by have := h.1; simpa using this
    subst hxs
    have hnil := fun w => Lib.run_eql_slice_nil (P := Tryz.prog) w _ _ none 0 0 0 0 Tryz.underlying45
    clear h h1
    go_enter Tryz.func43, Tryz.ntmps43
    go_wp2
    go_ret
    exact ⟨_, rfl, World.ownsRow_nil _ _ _ _, Same.refl _ _, by simp [Value.ownBlock]⟩
  · have H := Lib.hid h
    have H1 := Lib.hid h1
    have hnil := fun w => Lib.run_eql_slice_nil (P := Tryz.prog) w _ _ (some ⟨g, 0, none⟩) n cap 0 0 Tryz.underlying45
    clear h h1 h2 h3 h4 h5 h6 h7
    go_enter Tryz.func43, Tryz.ntmps43
    go_wp2_with (at_builtin; go_must (refine wp_appendRow rfl _ _ 45 rfl 113 2 16 _ Tryz.underlying45 Tryz.infoPair rfl (by decide) (.slice (some ⟨w.heap.size, 0, none⟩) 0 0) 0 [] rfl (row_empty w _ _) g n cap xs rfl (H.out.same (Same.alloc [] _ _) (by simp)) H1.out (by omega) (by decide) ?_; intro v1 w1 hr1 hs1 ho1; obtain ⟨A1, c1, rfl⟩ := hr1.shape))
    rw [List.nil_append] at hr1
    simp only [Nat.zero_add] at hr1 ho1 ⊢
    go_ret
    refine ⟨.slice A1 n c1, rfl, hr1, (Same.alloc [] w _).then hs1 (fun x hx => .inr (by simp [Value.ownBlock] at hx; omega)), fun b hb => ?_⟩
    rcases ho1 with ho | ⟨c, hc, hle⟩
    · rw [ho] at hb; simp [Value.ownBlock] at hb; omega
    · rw [hc] at hb; cases hb; simp at hle; omega
set_option maxHeartbeats 1000000 in
theorem CloneToken_calls (v : Value) (n : Nat) (xs : List Value) (w : World) (h : Row w 54 4 v n xs) (h1 : ∀ u ∈ xs, u.oneCell' = true) (hn : n ≤ 1000000) : Calls Tryz.prog 45 #[v] w (CloneR 54 4 n xs w) := by
  rcases h.2 with ⟨rfl, rfl⟩ | ⟨g, cap, cur, rfl, h2, h3, h4, h5, h6, h7⟩
  · have hxs : xs = [] := by have := h.1; simpa using this
    subst hxs
    have hnil := fun w => Lib.run_eql_slice_nil (P := Tryz.prog) w _ _ none 0 0 0 0 Tryz.underlying50
    clear h h1
    go_enter Tryz.func45, Tryz.ntmps45
    go_wp2
    go_ret
    exact ⟨_, rfl, World.ownsRow_nil _ _ _ _, Same.refl _ _, by simp [Value.ownBlock]⟩
  · have H := Lib.hid h
    have H1 := Lib.hid h1
    have hnil := fun w => Lib.run_eql_slice_nil (P := Tryz.prog) w _ _ (some ⟨g, 0, none⟩) n cap 0 0 Tryz.underlying50
    clear h h1 h2 h3 h4 h5 h6 h7
    go_enter Tryz.func45, Tryz.ntmps45
    go_wp2_with (at_builtin; go_must (refine wp_appendRow rfl _ _ 50 rfl 54 4 40 _ Tryz.underlying50 Tryz.infoToken' rfl (by decide) (.slice (some ⟨w.heap.size, 0, none⟩) 0 0) 0 [] rfl (row_empty w _ _) g n cap xs rfl (H.out.same (Same.alloc [] _ _) (by simp)) H1.out (by omega) (by decide) ?_; intro v1 w1 hr1 hs1 ho1; obtain ⟨A1, c1, rfl⟩ := hr1.shape))
    rw [List.nil_append] at hr1
    simp only [Nat.zero_add] at hr1 ho1 ⊢
    go_ret
    refine ⟨.slice A1 n c1, rfl, hr1, (Same.alloc [] w _).then hs1 (fun x hx => .inr (by simp [Value.ownBlock] at hx; omega)), fun b hb => ?_⟩
    rcases ho1 with ho | ⟨c, hc, hle⟩
    · rw [ho] at hb; simp [Value.ownBlock] at hb; omega
    · rw [hc] at hb; cases hb; simp at hle; omega
set_option maxHeartbeats 1000000 in
theorem CloneHyp_calls (v : Value) (n : Nat) (xs : List Value) (w : World) (h : Row w 150 4 v n xs) (h1 : ∀ u ∈ xs, u.oneCell' = true) (hn : n ≤ 1000000) : Calls Tryz.prog 86 #[v] w (CloneR 150 4 n xs w) := by
  rcases h.2 with ⟨rfl, rfl⟩ | ⟨g, cap, cur, rfl, h2, h3, h4, h5, h6, h7⟩
  · have hxs : xs = [] := by have := h.1; simpa using this
    subst hxs
    have hnil := fun w => Lib.run_eql_slice_nil (P := Tryz.prog) w _ _ none 0 0 0 0 Tryz.underlying44
    clear h h1
    go_enter Tryz.func86, Tryz.ntmps86
    go_wp2
    go_ret
    exact ⟨_, rfl, World.ownsRow_nil _ _ _ _, Same.refl _ _, by simp [Value.ownBlock]⟩
  · have H := Lib.hid h
    have H1 := Lib.hid h1
    have hnil := fun w => Lib.run_eql_slice_nil (P := Tryz.prog) w _ _ (some ⟨g, 0, none⟩) n cap 0 0 Tryz.underlying44
    clear h h1 h2 h3 h4 h5 h6 h7
    go_enter Tryz.func86, Tryz.ntmps86
    go_wp2_with (at_builtin; go_must (refine wp_appendRow rfl _ _ 44 rfl 150 4 56 _ Tryz.underlying44 Tryz.infoHyp rfl (by decide) (.slice (some ⟨w.heap.size, 0, none⟩) 0 0) 0 [] rfl (row_empty w _ _) g n cap xs rfl (H.out.same (Same.alloc [] _ _) (by simp)) H1.out (by omega) (by decide) ?_; intro v1 w1 hr1 hs1 ho1; obtain ⟨A1, c1, rfl⟩ := hr1.shape))
    rw [List.nil_append] at hr1
    simp only [Nat.zero_add] at hr1 ho1 ⊢
    go_ret
    refine ⟨.slice A1 n c1, rfl, hr1, (Same.alloc [] w _).then hs1 (fun x hx => .inr (by simp [Value.ownBlock] at hx; omega)), fun b hb => ?_⟩
    rcases ho1 with ho | ⟨c, hc, hle⟩
    · rw [ho] at hb; simp [Value.ownBlock] at hb; omega
    · rw [hc] at hb; cases hb; simp at hle; omega
end Go.Proofs.YtdhkmfpfbjcdiaaGreatDoor
namespace Go.Proofs.YtdhkmfpfbjcdiaaGreatDoor
open Go.RowKit
attribute [local go_sem] Oper.semAt_some
def prCells (l : List Pr) : List Value := l.flatMap encPr
theorem prCells_snoc (l : List Pr) (p : Pr) : prCells (l ++ [p]) = prCells l ++ encPr p := by simp [prCells]
structure AppAt (lo : Nat) (L pre : List Pr) (v : Value) (w W : World) : Prop where
  base : Same [] w W
  r0 : W.heap[lo]? = some (.cells #[v] 45 (0, 0))
  row : Row W 113 2 v pre.length (prCells pre)
  vlo : ∀ b, v.ownBlock = some b → lo + 4 ≤ b
  nd : pre.Nodup
  sub : ∀ x ∈ pre, x ∈ L
  lt : lo + 1 ≤ W.heap.size
  sz : lo = w.heap.size
theorem AppAt.same {lo : Nat} {L pre : List Pr} {v : Value} {w W W' : World} {S : List Nat} (h : AppAt lo L pre v w W) (hs : Same S W W') (hS : ∀ b ∈ S, lo + 1 ≤ b ∧ b < lo + 4) : AppAt lo L pre v w W' := {
  base := h.base.then hs (fun x hx => .inr (by have := hS x hx; have := h.sz; omega))
  r0 := hs.get h.r0 (fun hm => by have := hS _ hm; omega)
  row := h.row.same hs (fun b hb hm => by have := hS _ hm; have := h.vlo b hb; omega)
  vlo := h.vlo
  nd := h.nd
  sub := h.sub
  lt := Nat.le_trans h.lt hs.size
  sz := h.sz }
theorem AppAt.push {lo : Nat} {L pre : List Pr} {v v1 : Value} {w W W1 : World} (h : AppAt lo L pre v w W) (h4 : lo + 4 ≤ W.heap.size) (x : Pr) (hx : x ∈ L) (hn : x ∉ pre) (hs : Same v.ownBlock.toList W W1) (hr : Row W1 113 2 v1 (pre.length + 1) (prCells pre ++ encPr x))
    (ho : v1.ownBlock = v.ownBlock ∨ ∃ b, v1.ownBlock = some b ∧ W.heap.size ≤ b) :
    AppAt lo L (pre ++ [x]) v1 w (W1.setCell ⟨lo, 0, none⟩ v1) ∧ Stays (lo + 1) 3 W (W1.setCell ⟨lo, 0, none⟩ v1) := by
  have hlt := h.lt
  have hsz := h.sz
  have hv1 : ∀ b, v1.ownBlock = some b → lo + 4 ≤ b := fun b hb => by
    rcases ho with ho | ⟨c, hc, hle⟩
    · exact h.vlo b (by rw [← ho]; exact hb)
    · rw [hc] at hb; cases hb; omega
  have hs' : Same (lo :: v.ownBlock.toList) W (W1.setCell ⟨lo, 0, none⟩ v1) := (hs.mono (fun y hy => .inl (List.mem_cons_of_mem _ hy))).set _ _ (by simp)
  have hno : ∀ b, b ∈ lo :: v.ownBlock.toList → b = lo ∨ lo + 4 ≤ b := fun b hb => by
    rcases List.mem_cons.1 hb with rfl | hb
    · exact .inl rfl
    · exact .inr (h.vlo b (Option.mem_toList.1 hb))
  refine ⟨⟨h.base.then hs' (fun y hy => .inr (by have := hno y hy; omega)), ?_, ?_, hv1, ?_, ?_, Nat.le_trans hlt hs'.size, hsz⟩, Stays.of_same hs' (fun b hb => by have := hno b hb; omega) (by omega)⟩
  · have := hs.get h.r0 (fun hm => by have := h.vlo _ (Option.mem_toList.1 hm); omega)
    simp [heap_setCell, this, cellPut]
  · have := hr.same (Same.setCell W1 ⟨lo, 0, none⟩ v1 (S := [lo]) (by simp)) (fun b hb hm => by have := hv1 b hb; simp at hm; omega)
    rw [prCells_snoc]
    simpa using this
  · exact List.nodup_append.2 ⟨h.nd, by simp, fun a ha b hb e => by simp at hb; subst hb; subst e; exact hn ha⟩
  · intro y hy
    rcases List.mem_append.1 hy with hy | hy
    · exact h.sub y hy
    · simp at hy; subst hy; exact hx
def CollR (L : List Pr) (w : World) (e : Ending) (w' : World) : Prop := ∃ v xs, e = .returned v ∧ xs.Perm L ∧ Row w' 113 2 v xs.length (prCells xs) ∧ Same [] w w' ∧ (∀ b, v.ownBlock = some b → w.heap.size ≤ b)
set_option maxHeartbeats 4000000 in
theorem AppendSeq_calls (L : List Pr) (hL : L.length ≤ 1000000) (b : Nat) (l : List (Pr × Value)) (hl : l.map (·.1) = L) (hk : (l.map (·.1)).Nodup) (B : Nat) (w : World) (hB : w.cell? ⟨B, 0, none⟩ = some (.map (some b))) (hps : PSet w b l) :
    Calls Tryz.prog 196 #[.slice none 0 0, .func (.func 188) #[] #[.pointer (some ⟨B, 0, none⟩)]] w (CollR L w) := by
  refine (callsIn_wide (n := 0)).1 ?_
  refine callsIn_of_wp_marks Tryz.func196 rfl trivial ?_ rfl
  simp only [Tryz.ntmps196, List.size_toArray, List.length_cons, List.length_nil, Nat.reduceAdd, Nat.reduceSub, Array.replicate_succ, Array.replicate_zero, List.push_toArray, List.append_toArray, List.nil_append, List.cons_append]
  have hBl := World.block_lt_of_cell? w ⟨B, 0, none⟩ hB
  have hbl := hps.lt
  obtain ⟨o, hm⟩ : ∃ o, w.heap[b]? = some o := ⟨_, Array.getElem?_eq_getElem hbl⟩
  gi_wp2
  have hA0 : AppAt w.heap.size L [] (.slice none 0 0) w (w.alloc (.cells #[.slice none 0 0] 45)) :=
    ⟨Same.alloc _ _ _, blk_new _ _, World.ownsRow_nil _ _ _ _, by simp [Value.ownBlock], by simp, by simp, by simp, rfl⟩
  refine wp_tellsP (p := 1) (gf := 188) (lb := #[.pointer (some ⟨B, 0, none⟩)]) (encs := fun p : Pr => #[prV p])
    (Kp := fun W => W.cell? ⟨B, 0, none⟩ = some (.map (some b)) ∧ W.heap[b]? = some o) (Nx := fun pre x => x ∈ l.map (·.1) ∧ x ∉ pre) (Fin := fun xs => xs.Perm (l.map (·.1))) (by simp [Act.eval]) (enters_of Tryz.func188 (by kernel_rfl) rfl) (fun _ => rfl)
    (fun W hW => keys_tells b l hk B W (by have := hW.size; simp at this; omega) o (hW.get (blk_old hm _) (by simp)) ((hps.same (Same.alloc [] _ _) (by simp)).same hW (by simp)))
    (fun pre W => ∃ v, AppAt w.heap.size L pre v w W) (fun _ _ _ => False) ⟨_, hA0⟩ ?kp ?hI ?hIx ?round ?done ?stop
  case kp =>
    rintro pre W ⟨v, hS⟩
    exact ⟨hS.base.cell hB (by simp), hS.base.get hm (by simp)⟩
  case hI =>
    rintro pre S W1 W2 ⟨v, hS⟩ hsm hin
    exact ⟨v, hS.same hsm (fun b hb => by have := hin b hb; simp only [World.size_alloc] at this; omega)⟩
  case hIx => exact fun _ _ _ _ _ h _ _ => h
  case round =>
    rintro lp pre x W ⟨hx1, hx2⟩ ⟨v, hS⟩ hsz
    dsimp only [prV]
    simp only [World.size_alloc] at hsz
    gi_wp2
    refine ⟨fun b h1 h2 => (Same.alloc [] W _).block b (by simp only [World.size_alloc] at h2; omega) (by simp), (Same.alloc [] W _).size, ?_⟩
    intro W2 hsm2
    simp only [World.size_alloc] at hsm2
    have hsm := (Same.alloc [w.heap.size + 1 + 1] W (.cells #[.int .i64 x.1, .int .i64 x.2] 113)).trans hsm2
    have hS2 := hS.same hsm (fun b hb => by simp at hb; omega)
    have hblk := hsm2.get (blk_new W (.cells #[.int .i64 x.1, .int .i64 x.2] 113)) (by simp; omega)
    obtain ⟨Av, cv, rfl⟩ := hS2.row.shape
    have i0 := blk_c (i := 0) (v := .int .i64 x.1) hblk rfl
    have i1 := blk_c (i := 1) (v := .int .i64 x.2) hblk rfl
    have e0 := blk_c (i := 0) (v := .slice Av pre.length cv) hS2.r0 rfl
    have f0 := blk_free hS2.r0
    have HS := Lib.hid hS2
    have Hx1 := Lib.hid hx1
    have Hx2 := Lib.hid hx2
    have hl0 := blk_lt hS2.r0
    have hl1 := blk_lt hblk
    have hpl : pre.length < 1000001 := by
      have := hS2.nd.length_le_of_subset (fun y hy => hS2.sub y hy)
      omega
    have h4 : w.heap.size + 4 ≤ W2.heap.size := by have := hsm.size; omega
    clear hS hS2 hx1 hx2 hblk hsm hsm2 hA0
    gi_wp2_with (gi_at_builtin; go_must (refine wpI_push (fun _ => trivial) rfl _ _ 45 rfl 113 2 16 _ Tryz.underlying45 Tryz.infoPair rfl (by decide) (.slice Av pre.length cv) pre.length _ rfl HS.out.row [.int .i64 x.1, .int .i64 x.2] _ rfl rfl rfl (by simp [Value.oneCell']) (by omega) (by decide) ?_; intro v1 W5 hrow5 hsm5 hor5; obtain ⟨A5, c5, rfl⟩ := hrow5.shape; have g2 := hsm5.get HS.out.r0 (fun hm => by have := HS.out.vlo _ (Option.mem_toList.1 hm); omega); have g2f := blk_free g2; have g2c := blk_c (i := 0) (v := .slice Av pre.length cv) g2 rfl))
    have hpush := HS.out.push h4 x (by rw [← hl]; exact Hx1.out) Hx2.out hsm5 hrow5 hor5
    exact ⟨by simpa using hpush.2, _, hpush.1⟩
  case done =>
    rintro xs W hfin ⟨v, hS⟩ hK
    simp only [World.size_alloc] at hK ⊢
    obtain ⟨Av, cv, rfl⟩ := hS.row.shape
    have e0 := blk_c (i := 0) (v := .slice Av xs.length cv) hS.r0 rfl
    have HS := Lib.hid hS
    have HK := Lib.hid hK
    have Hf := Lib.hid hfin
    clear hS hK hfin hA0
    gi_wp2
    refine ⟨by simp, .inl ⟨_, _, rfl, run_takeDeferred HK.out, ?_⟩⟩
    have hp : Same [w.heap.size + 1] W (W.putObj (w.heap.size + 1) (.deferred none)) := Same.put _ HK.out
    refine ⟨.slice Av xs.length cv, ?_, .slice Av xs.length cv, xs, rfl, by rw [← hl]; exact Hf.out, HS.out.row.same hp (fun b hb hm => by have := HS.out.vlo b hb; simp at hm; omega), Same.then (T := [w.heap.size + 1]) HS.out.base hp (fun x hx => .inr (by simp at hx; omega)), fun b hb => by have := HS.out.vlo b hb; omega⟩
    simp [results, Tryz.f196, go_sem]
  case stop => exact fun _ _ _ h _ => h.elim
end Go.Proofs.YtdhkmfpfbjcdiaaGreatDoor
