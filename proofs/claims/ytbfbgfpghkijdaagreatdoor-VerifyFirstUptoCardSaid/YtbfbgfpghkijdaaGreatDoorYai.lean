/- lemmalaw texts, part 9. -/
import Derived.Test.YtbfbgfpghkijdaaGreatDoorYaa
import Derived.Test.YtbfbgfpghkijdaaGreatDoorYab
import Derived.Test.YtbfbgfpghkijdaaGreatDoorYag
import Derived.Test.YtbfbgfpghkijdaaGreatDoorYah
import Derived.Maps.RangeRun
import Derived.Sort.OwnSortedInts
import Derived.Deep.DeepFit
import Derived.Sort.MapsRangeIn
set_option maxRecDepth 100000
set_option linter.unusedVariables false
set_option linter.unusedSimpArgs false
set_option maxHeartbeats 32000000
namespace Go.Proofs.YtbfbgfpghkijdaaGreatDoor
open Go.RowKit
def P4 {α : Type} (P : Program) (p : Nat) (g : FuncId) (lb : Array Value) (encs : α → Array Value) (Kp : World → Prop) (Nx : List α → α → Prop) (Fin : List α → Prop) (W : World) : Prop :=
 ∀ (l : Nat) (J Jx : List α → World → Prop), J [] W → (∀ pre W1, J pre W1 → Kp W1) →
  (∀ pre S W1 W2, J pre W1 → Ad S W1 W2 → (∀ b ∈ S, W.heap.size ≤ b ∧ b < W.heap.size + p) → J pre W2) →
  (∀ pre S W1 W2, Jx pre W1 → Ad S W1 W2 → (∀ b ∈ S, W.heap.size ≤ b ∧ b < W.heap.size + p) → Jx pre W2) →
  (∀ pre x W1, Nx pre x → J pre W1 → W.heap.size + p ≤ W1.heap.size → YieldAt Fence.wide 0 P l (encs x) W1 fun e W2 => Ch W.heap.size p W1 W2 ∧
   ((e = .returned (.bool true) ∧ J (pre ++ [x]) W2) ∨ (e = .returned (.bool false) ∧ Jx (pre ++ [x]) W2))) →
  CallsIn Fence.wide 0 P g (#[.func (.yield l) #[] #[]] ++ lb) W fun e W' => (∃ v, e = .returned v) ∧ ((∃ xs, Fin xs ∧ J xs W') ∨ ∃ pre, Jx pre W')
theorem OU {α : Type} {P : Program} {g : Operand} {ps : Array Tmp} {assign body : Code} {Q : Exit → Act → World → Prop} {a : Act} {w : World}
  {p : Nat} {gf : Nat} {lb : Array Value} {encs : α → Array Value} {Kp : World → Prop} {Nx : List α → α → Prop} {Fin : List α → Prop}
  (hg : a.eval g = .func (.func gf) #[] lb) (eg : ∀ args w, (callFunc gf args).run P w = .ok (.enter gf args) w) (hps : ∀ x, (encs x).size = ps.size)
  (hseq : ∀ W, Ad [] w W → P4 P p gf lb encs Kp Nx Fin W)
  (I : List α → World → Prop) (Ix : Code → List α → World → Prop) (h0 : I [] w) (hKp : ∀ pre W, I pre W → Kp W)
  (hI : ∀ pre S W1 W2, I pre W1 → Ad S W1 W2 → (∀ b ∈ S, w.heap.size ≤ b ∧ b < w.heap.size + (2 + p)) → I pre W2)
  (hIx : ∀ c pre S W1 W2, Ix c pre W1 → Ad S W1 W2 → (∀ b ∈ S, w.heap.size ≤ b ∧ b < w.heap.size + (2 + p)) → Ix c pre W2)
  (hround : ∀ (l : Nat) (pre : List α) (x : α) (W : World), Nx pre x → I pre W → w.heap.size + (2 + p) ≤ W.heap.size →
   assign.wpIn (Fence.wide.inRound l) 0 P (Exit.then (fun a₁ w₁ => (∀ b, w.heap.size ≤ b → b < w.heap.size + (2 + p) → w₁.heap[b]? = W.heap[b]?) ∧ W.heap.size ≤ w₁.heap.size ∧
    ∀ w₂, Ad [w.heap.size + 1] w₁ w₂ → body.wpIn (Fence.wide.inRound l) 0 P (MD w.heap.size (2 + p) I Ix (pre ++ [x]) w₂) a₁ w₂) (fun _ _ _ => False))
    { tmps := (ps.zip (encs x)).foldl (fun t (p, v) => t.setIfInBounds p v) a.tmps, defers := [] } W)
  (hdone : ∀ (xs : List α) (W : World), Fin xs → I xs W → W.heap[w.heap.size]? = some (.deferred (some [])) → Q .normal { a with defers := { target := .collected w.heap.size, args := #[] } :: a.defers } W)
  (hstop : ∀ (c : Code) (pre : List α) (W : World), Ix c pre W → W.heap[w.heap.size]? = some (.deferred (some [])) →
   c.wpIn Fence.wide 0 P Q { a with defers := { target := .collected w.heap.size, args := #[] } :: a.defers } W) :
  (Code.rangeFunc g ps assign body).wpIn Fence.wide 0 P Q a w := by
 refine wpIn_rangeFunc ?_
 intro fn hfn
 have hwide : ¬ (Fence.wide.depth.isSome = true) := by simp [Fence.wide]
 obtain ⟨R, hR⟩ : ∃ R : LoopState → Option Code → Loop, R = fun st pe => { state := st, pending := pe, fn, tmps := a.tmps, params := ps, assign, body, defers := w.heap.size } := ⟨_, rfl⟩
 obtain ⟨W1, hW1⟩ : ∃ W1, (w.alloc (.deferred (some []))).alloc (.loop (R .ready none)) = W1 := ⟨_, rfl⟩
 have hs1 : W1.heap.size = w.heap.size + 2 := by rw [← hW1]; simp
 have hsame1 : Ad [] w W1 := by rw [← hW1]; exact (Ad.alloc _ _ _).trans (Ad.alloc _ _ _)
 have hL1 : W1.heap[w.heap.size + 1]? = some (.loop (R .ready none)) := by
  exact zq111
 have hK1 : W1.heap[w.heap.size]? = some (.deferred (some [])) := by rw [← hW1]; exact AR (Aj _ _) _
 refine ⟨w.heap.size + 1, [{ target := .collected w.heap.size, args := #[] }], W1, { target := .fn (.func gf) lb, args := #[.func (.yield (w.heap.size + 1)) #[] #[]] }, W1, gf,
  #[.func (.yield (w.heap.size + 1)) #[] #[]] ++ lb, W1, ?_, ?_, ?_, ?_, fun h => absurd h hwide, ?_⟩
 ·rw [← hW1, hR]; exact run_enterLoop_outer _ _ _ _ _
 ·simp only [resolve, hg]
  simp [go_sem]
 ·intro f' _; trivial
 ·simp [invoke, go_sem, eg]
 ·refine (hseq W1 hsame1 (w.heap.size + 1)
   (fun pre W => I pre W ∧ W.heap[w.heap.size + 1]? = some (.loop (R .ready none)) ∧ W.heap[w.heap.size]? = some (.deferred (some [])))
   (fun pre W => ∃ c, Ix c pre W ∧ W.heap[w.heap.size + 1]? = some (.loop (R .done (some c))) ∧ W.heap[w.heap.size]? = some (.deferred (some [])))
   ⟨hI _ _ _ _ h0 hsame1 (by simp), hL1, hK1⟩ (fun pre W h => hKp _ _ h.1) ?_ ?_ ?_).mono ?_
  ·exact zq75
  ·exact zq71
  ·rintro pre x W hxs ⟨hi, hl, hk⟩ hsz
   have hy := run_yield (P := P) (args := encs x) hl (by rw [hR]; exact hps x)
   rw [hR] at hy
   refine ⟨fn, _, assign, body, hy, roundIn_of_wpIn hfn (wpIn_mono (hround _ pre x W hxs hi (by omega)) ?_)⟩
   exact zq8
  ·rintro e W2 ⟨⟨v, rfl⟩, (⟨xs, hfin, hi, hl, hk⟩ | ⟨pre, c, hi, hl, hk⟩)⟩
   ·exact ⟨none, _, by have := run_endLoop (P := P) hl (by rw [hR]; simp); rw [hR] at this; exact this, hdone xs _ hfin (hI _ _ _ _ hi (Ad.put _ hl) (by simp; omega)) ((World.putObj_heap_other (by omega)).trans hk)⟩
   ·exact ⟨some c, _, by have := run_endLoop (P := P) hl (by rw [hR]; simp); rw [hR] at this; exact this, hstop c pre _ (hIx _ _ _ _ _ hi (Ad.put _ hl) (by simp; omega)) ((World.putObj_heap_other (by omega)).trans hk)⟩
attribute [local go_sem] Oper.semAt_some
def BB (p : Pr) : Pr := if p.2 < p.1 then (p.2, p.1) else p
theorem H8 (p : Pr) (w : World) : Calls Tryz.prog 168 #[.agg #[.int .i64 p.1, .int .i64 p.2]] w fun e w' => e = .returned (prV (BB p)) ∧ Ad [] w w' := by
 by_cases h : p.2 < p.1
 ·have ht : BB p = (p.2, p.1) := by unfold BB; rw [if_pos h]
  rw [ht]
  clear ht
  go_enter Tryz.func168, Tryz.ntmps168
  go_wp2
  refine bodyPost_ret (v := prV (p.2, p.1)) (by simp [results, Tryz.f168, go_sem, prV]) rfl ⟨rfl, ?_⟩
  exact Ad.A
 ·have ht : BB p = p := by unfold BB; rw [if_neg h]
  rw [ht]
  clear ht
  go_enter Tryz.func168, Tryz.ntmps168
  go_wp2
  refine bodyPost_ret (v := prV p) (by simp [results, Tryz.f168, go_sem, prV]) rfl ⟨rfl, ?_⟩
  exact Ad.A
abbrev EY (w : World) (b : Nat) (l : List (Pr × Value)) : Prop := Cn prV w b l
def Cr (l : List (Pr × Value)) (p : Pr) : List (Pr × Value) := if p.1 = p.2 then l else Bd (BB p) (.agg #[]) l
theorem EU (b : Nat) (l : List (Pr × Value)) (p : Pr) (w : World) (h : EY w b l) : Calls Tryz.prog 150 #[.map (some b), .agg #[.int .i64 p.1, .int .i64 p.2]] w fun e w' => (∃ v, e = .returned v) ∧ EY w' b (Cr l p) ∧ Ad [b] w w' := by
 by_cases hp : p.1 = p.2
 ·have he : (p.1 != p.2) = false := by simp [hp]
  have hk : Cr l p = l := by unfold Cr; rw [if_pos hp]
  have Hk := Kd hk
  have H := Kd h
  clear hp hk h
  go_enter Tryz.func150, Tryz.ntmps150
  go_wp2
  go_end0
  rw [Hk.out]
  exact ⟨⟨_, rfl⟩, H.out.same (S := []) (by
   exact Ad.A
   ) (by simp), by
   exact Ad.A
   ⟩
 ·have he : (p.1 != p.2) = true := by simp [hp]
  have hk : Cr l p = Bd (BB p) (.agg #[]) l := by unfold Cr; rw [if_neg hp]
  have Hk := Kd hk
  have H := Kd h
  clear hp hk h
  go_enter Tryz.func150, Tryz.ntmps150
  go_wp2_with (first
   | (go_at_call 168; go_must (refine (H8 p _).mono ?_; rintro e W1 ⟨rfl, hs1⟩; have h1 := H.out.same ((Ad.alloc [] w _).trans hs1) (by simp); have Hs1 := Kd ((Ad.alloc [] w _).trans hs1); clear hs1))
   | (at_mapUpdate; go_must (refine C7 Mc h1 Tryz.underlying279 rfl _ _ _ rfl (BB p) (.agg #[]) rfl rfl rfl ?_; intro W2 h2 hs2)))
  go_end0
  rw [Hk.out]
  exact ⟨⟨_, rfl⟩, h2, (Hs1.out.mono (by simp)).trans hs2⟩
def D7 (p q : Pr) : Int := if p.1 = q.1 then Lib.compareInt p.2 q.2 else Lib.compareInt p.1 q.1
def BT (p : Pr) : List Value := [.int .i64 p.1, .int .i64 p.2]
theorem zq47 {P : Prop} (h : P := by
 go_ret
 exact ⟨rfl, 0, _, by rw [Go.Sort.alloc_eq_grow, Go.Sort.alloc_eq_grow, Go.Sort.grow_grow]; rfl⟩) : P := h
theorem Nd (p q : Pr) (W : World) : Calls Tryz.prog 173 #[.agg #[.int .i64 p.1, .int .i64 p.2], .agg #[.int .i64 q.1, .int .i64 q.2]] W fun e w' => e = .returned (.int .i64 (D7 p q)) ∧ ∃ n os', w' = Go.Sort.grow (W.drewN n) os' := by
 have hc := Tryz.cmp_Compare_int
 unfold D7
 by_cases h : p.1 = q.1
 ·rw [if_pos h]
  have hne : (p.1 != q.1) = false := by simp [h]
  generalize hr : Lib.compareInt p.2 q.2 = r
  have hc2 := fun w => hc p.2 q.2 w
  rw [hr] at hc2
  clear hc hr h
  go_enter Tryz.func173, Tryz.ntmps173
  go_wp2_with (go_at_call 174; refine (hc2 _).mono ?_; rintro e w' ⟨rfl, rfl⟩)
  exact zq47
 ·rw [if_neg h]
  have hne : (p.1 != q.1) = true := by simp [h]
  generalize hr : Lib.compareInt p.1 q.1 = r
  have hc2 := fun w => hc p.1 q.1 w
  rw [hr] at hc2
  clear hc hr h
  go_enter Tryz.func173, Tryz.ntmps173
  go_wp2_with (go_at_call 174; refine (hc2 _).mono ?_; rintro e w' ⟨rfl, rfl⟩)
  exact zq47
attribute [local go_sem] Oper.semAt_some
theorem Ob (b : Nat) (w : World) : Calls Tryz.prog 172 #[.map (some b)] w fun e w' => e = .returned (.func (.func 188) #[] #[.pointer (some ⟨w.heap.size, 0, none⟩)]) ∧
  w'.heap.size = w.heap.size + 1 ∧ w'.cell? ⟨w.heap.size, 0, none⟩ = some (.map (some b)) ∧ Ad [] w w' := by
 have hmf : ∀ (fn : Fn) (first cap : Array Value) (w : World), (Instr.makeFunc fn first cap).run Tryz.prog w = .ok (.func fn first cap) w := fun _ _ _ _ => rfl
 go_enter Tryz.func172, Tryz.ntmps172
 go_wp2
 go_ret
 exact ⟨rfl, by simp, Ai (Aj _ _), Ad.alloc _ _ _⟩
def C4 {α : Type} (enc : α → Value) (w : World) (b r : Nat) (l : List (α × Value)) (done : List α) : Prop :=
 ∃ es clock seen, w.heap[b]? = some (.map es clock) ∧ es.toList.map (fun e => (e.key, e.val)) = l.map (fun p => (enc p.1, p.2)) ∧ (∀ x ∈ es.toList, x.born < clock) ∧ (es.toList.map (·.born)).Nodup ∧
  w.heap[r]? = some (.mapIter (some b) clock seen clock) ∧ ∃ ds : List MapEntry, (∀ x ∈ ds, x ∈ es.toList) ∧ ds.map (·.key) = done.map enc ∧ seen = (ds.map (·.born)).toArray ∧ (ds.map (·.born)).Nodup
theorem C4.same {α : Type} {enc : α → Value} {S : List Nat} {w w' : World} {b r : Nat} {l : List (α × Value)} {done : List α} (h : C4 enc w b r l done) (hs : Ad S w w') (hb : b ∉ S) (hr : r ∉ S) : C4 enc w' b r l done := by
 obtain ⟨es, clock, seen, h1, h2, h3, h4, h5, h6⟩ := h
 exact ⟨es, clock, seen, hs.get h1 hb, h2, h3, h4, hs.get h5 hr, h6⟩
theorem C4.map {α : Type} {enc : α → Value} {w : World} {b r : Nat} {l : List (α × Value)} {done : List α} (h : C4 enc w b r l done) : Cn enc w b l := by
 obtain ⟨es, clock, seen, h1, h2, h3, h4, _⟩ := h
 exact ⟨es, clock, h1, h2, h3, h4⟩
theorem C4.lt {α : Type} {enc : α → Value} {w : World} {b r : Nat} {l : List (α × Value)} {done : List α} (h : C4 enc w b r l done) : r < w.heap.size := by
 obtain ⟨es, clock, seen, h1, h2, h3, h4, h5, _⟩ := h
 exact Af h5
theorem Cn.run_range {α : Type} [DecidableEq α] {enc : α → Value} {P : Program} {w : World} {b : Nat} {l : List (α × Value)} {t kt et : TypeId} (h : Cn enc w b l) (ht : P.underlying t = some (.map kt et)) :
  ∃ w', (Instr.range t (.map (some b))).run P w = .ok (.pointer (some ⟨w.heap.size, 0, none⟩)) w' ∧ C4 enc w' b w.heap.size l [] ∧ Ad [] w w' ∧ w'.heap.size = w.heap.size + 1 := by
 obtain ⟨es, clock, hb, he, hbo, hnd⟩ := h
 refine ⟨w.alloc (.mapIter (some b) clock #[] clock), ?_, ⟨es, clock, #[], AR hb _, he, hbo, hnd, Aj _ _, [], by simp, rfl, rfl, by simp⟩, Ad.alloc _ _ _, by simp⟩
 simp only [Instr.range, Sem.run_bind, run_underlying ht, Result.andThen_ok, MapKept.run_getObj_map hb]
 rfl
theorem zq38 {P : Prop} (h : P := by
 intro L
 induction L with
 | nil => intro _ h; cases h
 | cons a L ih =>
  intro hn h1 h2
  simp only [List.map_cons, List.nodup_cons] at hn
  rcases List.mem_cons.1 h1 with e1 | h1 <;> rcases List.mem_cons.1 h2 with e2 | h2
  ·rw [e1, e2]
  ·exact absurd (List.mem_map.2 ⟨y, h2, by rw [← hxy, e1]⟩) hn.1
  ·exact absurd (List.mem_map.2 ⟨x, h1, by rw [hxy, e2]⟩) hn.1
  ·exact ih hn.2 h1 h2) : P := h
theorem zq70 {P : Prop} (h : P := by
 rw [Bool.eq_iff_iff]
 simp only [List.contains_toArray, List.contains_eq_mem, List.mem_map, decide_eq_true_eq]
 exact ⟨fun ⟨y, hy, hxy⟩ => by rw [← hborn y (hd1 y hy) x hx hxy]; exact hy, fun h => ⟨x, h, rfl⟩⟩) : P := h
open Classical in
theorem C4.run_next {α : Type} [DecidableEq α] {enc : α → Value} (hinj : ∀ x y, enc x = enc y → x = y) {P : Program} {w : World} {b r : Nat} {l : List (α × Value)} {done : List α} (h : C4 enc w b r l done) (hk : (l.map (·.1)).Nodup) (ty : TypeId) :
  ((Instr.next (.pointer (some ⟨r, 0, none⟩)) false ty).run P w = .ok (.tuple #[.bool false]) w ∧ done.Perm (l.map (·.1))) ∨
  ∃ x v w', (x, v) ∈ l ∧ x ∉ done ∧ (Instr.next (.pointer (some ⟨r, 0, none⟩)) false ty).run P w = .ok (.tuple #[.bool true, enc x, v]) w' ∧ C4 enc w' b r l (done ++ [x]) ∧ Ad [r] w w' ∧
   (Instr.entry (.pointer (some ⟨r, 0, none⟩))).run P w' = .ok (.tuple #[enc x, v]) w' := by
 obtain ⟨es, clock, seen, hb, he, hbo, hnd, hr, ds, hd1, hd2, rfl, hd3⟩ := h
 have hkeys : es.toList.map (·.key) = (l.map (·.1)).map enc := by
  have := congrArg (List.map Prod.fst) he
  simpa [List.map_map, Function.comp_def] using this
 have hknd : (es.toList.map (·.key)).Nodup := by
  rw [hkeys]
  exact List.Pairwise.map _ (fun a b hab hc => hab (hinj _ _ hc)) hk
 have hborn : ∀ x ∈ es.toList, ∀ y ∈ es.toList, x.born = y.born → x = y := by
  intro x hx y hy hxy
  have key : ∀ (L : List MapEntry), (L.map (·.born)).Nodup → x ∈ L → y ∈ L → x = y := by
   exact zq38
  exact key _ hnd hx hy
 have hkey : ∀ x ∈ es.toList, ∀ y ∈ es.toList, x.key = y.key → x = y := by
  intro x hx y hy hxy
  have key : ∀ (L : List MapEntry), (L.map (·.key)).Nodup → x ∈ L → y ∈ L → x = y := by
   exact zq38
  exact key _ hknd hx hy
 have hseen : ∀ x ∈ es.toList, ((ds.map (·.born)).toArray.contains x.born) = decide (x ∈ ds) := by
  intro x hx
  exact zq70
 rcases run_next_at (P := P) w ty r b clock clock (ds.map (·.born)).toArray es clock hr hb hbo (Nat.le_refl _) with ⟨h0, hrun⟩ | ⟨e, hem, w1, hal, hrun⟩
 ·refine .inl ⟨hrun, ?_⟩
  have hall : ∀ x ∈ es.toList, x ∈ ds := by
   intro x hx
   have : leftOf es (ds.map (·.born)).toArray = #[] := Array.eq_empty_of_size_eq_zero h0
   have h1 := hseen x hx
   by_cases hc : x ∈ ds
   ·exact hc
   ·exfalso
    rw [decide_eq_false hc] at h1
    have : x ∈ leftOf es (ds.map (·.born)).toArray := by
     unfold leftOf
     rw [Array.mem_filter]
     exact ⟨by simpa using hx, by rw [h1]; rfl⟩
    rw [‹leftOf es _ = #[]›] at this
    simp at this
  have hdk : (ds.map (·.key)).Nodup := by
   have hsub : ∀ (L : List MapEntry), (∀ x ∈ L, x ∈ es.toList) → (L.map (·.born)).Nodup → (L.map (·.key)).Nodup := by
    intro L
    induction L with
    | nil => intro _ _; simp
    | cons a L ih =>
     intro h1 h2
     simp only [List.map_cons, List.nodup_cons] at h2 ⊢
     refine ⟨fun hm => ?_, ih (fun x hx => h1 x (List.mem_cons_of_mem _ hx)) h2.2⟩
     obtain ⟨y, hy, hyk⟩ := List.mem_map.1 hm
     have := hkey y (h1 y (List.mem_cons_of_mem _ hy)) a (h1 a (List.mem_cons_self ..)) hyk
     exact h2.1 (List.mem_map.2 ⟨y, hy, by rw [this]⟩)
   exact hsub ds hd1 hd3
  rw [hd2] at hdk
  have hdn : done.Nodup := List.Pairwise.of_map _ (fun a b hab e => hab (by rw [e])) hdk
  refine (List.perm_ext_iff_of_nodup hdn hk).2 (fun a => ⟨fun ha => ?_, fun ha => ?_⟩)
  ·have : enc a ∈ ds.map (·.key) := by rw [hd2]; exact List.mem_map.2 ⟨a, ha, rfl⟩
   obtain ⟨y, hy, hyk⟩ := List.mem_map.1 this
   have h2 : enc a ∈ (l.map (·.1)).map enc := by rw [← hkeys, ← hyk]; exact List.mem_map.2 ⟨y, hd1 y hy, rfl⟩
   obtain ⟨z, hz, hza⟩ := List.mem_map.1 h2
   rw [← hinj _ _ hza]; exact hz
  ·have : enc a ∈ es.toList.map (·.key) := by rw [hkeys]; exact List.mem_map.2 ⟨a, ha, rfl⟩
   obtain ⟨y, hy, hyk⟩ := List.mem_map.1 this
   have h2 : enc a ∈ done.map enc := by rw [← hd2, ← hyk]; exact List.mem_map.2 ⟨y, hall y hy, rfl⟩
   obtain ⟨z, hz, hza⟩ := List.mem_map.1 h2
   rw [← hinj _ _ hza]; exact hz
 ·obtain ⟨hme, hse⟩ : e ∈ es.toList ∧ (ds.map (·.born)).toArray.contains e.born = false := by
   unfold leftOf at hem
   simp only [Array.mem_toList_iff, Array.mem_filter] at hem
   exact ⟨by simpa using hem.1, by simpa using hem.2⟩
  have hed : e ∉ ds := by
   have := hseen e hme
   rw [hse] at this
   intro hc
   rw [decide_eq_true hc] at this
   cases this
  obtain ⟨p, hp, hpe⟩ : ∃ p ∈ l, (enc p.1, p.2) = (e.key, e.val) := by
   have : (e.key, e.val) ∈ es.toList.map (fun e => (e.key, e.val)) := List.mem_map.2 ⟨e, hme, rfl⟩
   rw [he] at this
   exact List.mem_map.1 this
  obtain ⟨x, v⟩ := p
  simp only [Prod.mk.injEq] at hpe
  obtain ⟨hpk, hpv⟩ := hpe
  have hr1 : w1.heap[r]? = some (.mapIter (some b) clock (ds.map (·.born)).toArray clock) := by rcases hal with rfl | rfl <;> exact hr
  have hb1 : w1.heap[b]? = some (.map es clock) := by rcases hal with rfl | rfl <;> exact hb
  have hne : r ≠ b := fun e1 => by rw [e1, hb] at hr; cases hr
  have hset : (ChangeMaps.setBlock w1 r (Obj.mapIter (some b) clock ((ds.map (·.born)).toArray.push e.born) clock)).heap[r]? = some (Obj.mapIter (some b) clock ((ds.map (·.born)).toArray.push e.born) clock) ∧ ∀ r', r' ≠ r → (ChangeMaps.setBlock w1 r (Obj.mapIter (some b) clock ((ds.map (·.born)).toArray.push e.born) clock)).heap[r']? = w1.heap[r']? := MapKept.heap_set hr1
  have hb' : (ChangeMaps.setBlock w1 r (.mapIter (some b) clock ((ds.map (·.born)).toArray.push e.born) clock)).heap[b]? = some (.map es clock) := (hset.2 b (fun e1 => hne e1.symm)).trans hb1
  refine .inr ⟨x, v, _, hp, ?_, by rw [hrun, hpk, hpv], ⟨es, clock, (ds.map (·.born)).toArray.push e.born, hb', he, hbo, hnd, hset.1, ds ++ [e], ?_, ?_, ?_, ?_⟩, ?_, ?_⟩
  ·intro hx
   have : enc x ∈ ds.map (·.key) := by rw [hd2]; exact List.mem_map.2 ⟨x, hx, rfl⟩
   obtain ⟨y, hy, hyk⟩ := List.mem_map.1 this
   exact hed (by rw [← hkey y (hd1 y hy) e hme (by rw [hyk, hpk])]; exact hy)
  ·intro y hy
   rcases List.mem_append.1 hy with hy | hy
   ·exact hd1 y hy
   ·simp at hy; subst hy; exact hme
  ·simp [hd2, hpk]
  ·simp
  ·rw [List.map_append]
   refine List.nodup_append.2 ⟨hd3, by simp, ?_⟩
   intro a ha c hc
   simp at hc
   subst hc
   obtain ⟨y, hy, rfl⟩ := List.mem_map.1 ha
   intro hc
   exact hed (by rw [← hborn y (hd1 y hy) e hme hc]; exact hy)
  ·rcases hal with rfl | rfl <;> exact ⟨rfl, rfl, rfl, by simp [ChangeMaps.setBlock], fun i _ hi => hset.2 i (by simpa using hi)⟩
  ·rw [hpk, hpv]
   exact run_entry_at _ r b clock _ es clock e hset.1 hb' hme hnd
theorem Q2 : ∀ x y, prV x = prV y → x = y := by
 intro x y h
 simp only [prV, Value.agg.injEq, Array.mk.injEq, List.cons.injEq, Value.int.injEq, true_and, and_true] at h
 exact Prod.ext h.1 h.2
attribute [local go_sem] Oper.semAt_some
theorem MV {α : Type} (p : α → Bool) : ∀ L : List α, (L.filter p).length + (L.filter (fun x => !p x)).length = L.length
 | [] => rfl
 | a :: L => by
  have := MV p L
  by_cases h : p a = true <;> simp [h] <;> omega
open Classical in
theorem C4.left_eq {α : Type} {enc : α → Value} {w : World} {b r : Nat} {l : List (α × Value)} {done : List α} (h : C4 enc w b r l done) : w.rangeLeft b r = l.length - done.length := by
 obtain ⟨es, clock, seen, hb, he, hbo, hnd, hr, ds, hd1, hd2, rfl, hd3⟩ := h
 simp only [World.rangeLeft, hb, hr]
 have hel : es.toList.length = l.length := by have := congrArg List.length he; simpa using this
 have hdl : ds.length = done.length := by have := congrArg List.length hd2; simpa using this
 have hborn : ∀ x ∈ es.toList, ∀ y ∈ es.toList, x.born = y.born → x = y := by
  intro x hx y hy hxy
  have key : ∀ (L : List MapEntry), (L.map (·.born)).Nodup → x ∈ L → y ∈ L → x = y := by
   exact zq38
  exact key _ hnd hx hy
 have hdn : ds.Nodup := List.Pairwise.of_map _ (fun a b hab e => hab (by rw [e])) hd3
 have hen : es.toList.Nodup := List.Pairwise.of_map _ (fun a b hab e => hab (by rw [e])) hnd
 have hp : (es.toList.filter (fun x => decide (x ∈ ds))).Perm ds := by
  refine (List.perm_ext_iff_of_nodup (hen.filter _) hdn).2 (fun a => ?_)
  simp only [List.mem_filter, decide_eq_true_eq]
  exact ⟨fun h => h.2, fun h => ⟨hd1 a h, h⟩⟩
 have hlen : (leftOf es (ds.map (·.born)).toArray).size = (es.toList.filter (fun x => !decide (x ∈ ds))).length := by
  unfold leftOf
  rw [← Array.length_toList, Array.toList_filter]
  congr 1
  refine List.filter_congr (fun x hx => ?_)
  congr 1
  exact zq70
 have hsum := MV (fun x => decide (x ∈ ds)) es.toList
 have hpl := hp.length_eq
 omega
section
variable {α : Type} [DecidableEq α] {enc : α → Value} {F : Fence} {n : Nat} {P : Program} {w : World} {ops : Array Oper} {rest : List Oper} {o : Oper} {a : Act} {Q : Exit → Act → World → Prop} {b r : Nat} {l : List (α × Value)} {done : List α}
theorem Nr (hg : o.guard = none) (m : Operand) (t : TypeId) (hop : o.op = Op.range t m) (k e : TypeId) (ht : P.underlying t = some (.map k e)) (hm : a.eval m = .map (some b)) (h : Cn enc w b l)
  (hK : ∀ w', C4 enc w' b w.heap.size l [] → Ad [] w w' → w'.heap.size = w.heap.size + 1 → wpListIn F n P ops Q rest (a.put o.dst (.pointer (some ⟨w.heap.size, 0, none⟩))) w') :
  wpListIn F n P ops Q (o :: rest) a w := by
 refine wpListIn_plain hg fun K' hK' => ?_
 obtain ⟨w', hrun, r1, r2, r3⟩ := h.run_range (P := P) ht
 unfold Oper.wpIn
 refine ⟨?_, ?_⟩
 ·simp [Oper.about, hop]
 ·rw [Oper.semAt_plain F _ _ (by rw [hop]; intro c hc'; cases hc')]
  simp [execOp, hop, hm, hrun, Result.andThen]
  exact hK' _ _ (hK w' r1 r2 r3)
theorem OT (hinj : ∀ x y, enc x = enc y → x = y) (hg : o.guard = none) (it : Operand) (hop : o.op = Op.next it false) (hit : a.eval it = .pointer (some ⟨r, 0, none⟩)) (h : C4 enc w b r l done) (hk : (l.map (·.1)).Nodup)
  (hDone : done.Perm (l.map (·.1)) → wpListIn F n P ops Q rest (a.put o.dst (.tuple #[.bool false])) w)
  (hMore : ∀ (x : α) (v : Value) (w' : World), (x, v) ∈ l → x ∉ done → C4 enc w' b r l (done ++ [x]) → Ad [r] w w' → (Instr.entry (.pointer (some ⟨r, 0, none⟩))).run P w' = .ok (.tuple #[enc x, v]) w' →
   wpListIn F n P ops Q rest (a.put o.dst (.tuple #[.bool true, enc x, v])) w') :
  wpListIn F n P ops Q (o :: rest) a w := by
 refine wpListIn_plain hg fun K' hK' => ?_
 unfold Oper.wpIn
 refine ⟨by simp [Oper.about, hop], ?_⟩
 rw [Oper.semAt_plain F _ _ (by rw [hop]; intro c hc'; cases hc')]
 rcases h.run_next (P := P) hinj hk o.type with ⟨hrun, hp⟩ | ⟨x, v, w', hxl, hxd, hrun, h2, hs, hen⟩
 ·simp [execOp, hop, hit, hrun, Result.andThen]
  exact hK' _ _ (hDone hp)
 ·simp [execOp, hop, hit, hrun, Result.andThen]
  exact hK' _ _ (hMore x v w' hxl hxd h2 hs hen)
end
theorem C4.keep {α : Type} {enc : α → Value} {w w' : World} {b r : Nat} {l : List (α × Value)} {done : List α} (h : C4 enc w b r l done) (hb : w'.heap[b]? = w.heap[b]?) (hr : w'.heap[r]? = w.heap[r]?) : C4 enc w' b r l done := by
 obtain ⟨es, clock, seen, h1, h2, h3, h4, h5, h6⟩ := h
 exact ⟨es, clock, seen, hb.trans h1, h2, h3, h4, hr.trans h5, h6⟩
def Rf (b : Nat) (l : List (Pr × Value)) (J : List Pr → World → Prop) (r : Nat) (wr : World) : Prop := ∃ pre, C4 prV wr b r l pre ∧ J pre wr ∧ pre.length ≤ l.length
theorem Oj (b : Nat) (l : List (Pr × Value)) (hk : (l.map (·.1)).Nodup) (B : Nat) (W : World) (hB : B < W.heap.size) (o : Obj) (hm : W.heap[b]? = some o) (hps : EY W b l) :
  P4 Tryz.prog 1 188 #[.pointer (some ⟨B, 0, none⟩)] (fun p : Pr => #[prV p]) (fun w => w.cell? ⟨B, 0, none⟩ = some (.map (some b)) ∧ w.heap[b]? = some o)
   (fun pre x => x ∈ l.map (·.1) ∧ x ∉ pre) (fun xs => xs.Perm (l.map (·.1))) W := by
 intro lp J Jx h0 hKp hJ hJx hY
 have hK0 := hKp _ _ h0
 have hbl := hps.lt
 refine callsIn_of_wp Tryz.func188 rfl trivial ?_ rfl
 simp only [Tryz.ntmps188, List.size_toArray, List.length_cons, List.length_nil, Nat.reduceAdd, Nat.reduceSub, Array.replicate_succ, Array.replicate_zero, List.push_toArray, List.append_toArray, List.nil_append, List.cons_append]
 have hc0 := hK0.1
 have HP := Kd hps
 have Hm := Kd hm
 clear hK0 hps hm
 gi_wp2_with (gi_at_range; refine Nr rfl _ 279 rfl 47 _ Tryz.underlying279 rfl HP.out ?_; intro w1 hit hs1 hz1)
 (try simp only [Act.put, List.setIfInBounds_toArray, List.set_cons_succ, List.set_cons_zero])
 have hat : Rf b l J W.heap.size w1 := ⟨[], hit, hJ _ _ _ _ h0 hs1 (by simp), Nat.zero_le _⟩
 have Hat := Kd hat
 clear hat hit hs1
 gi_loopw [] (fun wr => Rf b l J W.heap.size wr) (fun wr => wr.rangeLeft b W.heap.size)
 case atStart => exact Hat.out
 case round =>
  obtain ⟨pre, hit, hj, hpl⟩ := hrel
  have hlt := hit.lt
  have HIt := Kd hit
  have hJ0 := Kd hj
  clear hit hj
  gi_wp2_with (gi_at_next; refine OT Q2 rfl _ rfl rfl HIt.out hk ?_ ?_)
  ·intro hp
   gi_wp2
   go_end0
   exact ⟨⟨_, rfl⟩, .inl ⟨pre, hp, hJ0.out⟩⟩
  ·intro a c v w' hxl hxd hit2 hs2 hen
   have hJ2 := hJ _ _ _ _ hJ0.out hs2 (by simp)
   have hz2 := hs2.size
   have hm2 := (hKp _ _ hJ2).2
   obtain ⟨fn, tmps, assign, body, hy, hR⟩ := hY pre (a, c) (w'.alloc (.cells #[.int .i64 a, .int .i64 c] 47)) ⟨List.mem_map.2 ⟨_, hxl, rfl⟩, hxd⟩ (hJ _ _ _ _ hJ2 (Ad.alloc [] _ _) (by simp)) (by simp; omega)
   dsimp only [prV] at hy hen
   have HIt2 := Kd hit2
   have HJ2 := Kd hJ2
   have Hm2 := Kd hm2
   clear hit2 hJ2 hm2 hs2
   gi_wp2
   refine hR.mono ?_
   rintro e W3 ⟨hst, (⟨rfl, hJ3⟩ | ⟨rfl, hJx3⟩)⟩
   ·have hm3 := (hKp _ _ hJ3).2
    have hit3 : C4 prV W3 b W.heap.size l (pre ++ [(a, c)]) := HIt2.out.keep (hm3.trans Hm2.out.symm) ((hst.2 _ (by omega) (by omega)).trans ((Ad.alloc [] w' _).block _ (by omega) (by simp)))
    have hlen : (pre ++ [(a, c)]).length ≤ l.length := by
     have h1 := hit3.left_eq
     obtain ⟨es, clock, seen, q1, q2, q3, q4, q5, ds, p1, p2, p3, p4⟩ := hit3
     have hdn : ds.Nodup := List.Pairwise.of_map _ (fun a b hab e => hab (by rw [e])) p4
     have := hdn.length_le_of_subset (fun x hx => p1 x hx)
     have e1 := congrArg List.length q2
     have e2 := congrArg List.length p2
     simp at e1 e2 this ⊢
     omega
    have Hit3 := Kd hit3
    clear hit3 hm3 hst
    gi_wp2
    refine ⟨⟨pre ++ [(a, c)], Hit3.out, hJ3, hlen⟩, ?_⟩
    rw [Hit3.out.left_eq, HIt.out.left_eq]
    simp at hlen ⊢
    omega
   ·gi_wp2
    refine bodyPost_ret (results_none rfl _ _ _) rfl ?_
    exact ⟨⟨_, rfl⟩, .inr ⟨_, hJx3⟩⟩
end Go.Proofs.YtbfbgfpghkijdaaGreatDoor
