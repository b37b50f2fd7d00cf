/- lemmalaw texts, part 2. -/
import Derived.Test.YtdhkmfpfbjcdiaaGreatDoorProg
import Derived.WalkKit
import Derived.WalkSpells
import Derived.WalkLawsBesides
import Derived.Maps.AppendAt
import Derived.Maps.Own
import Derived.Maps.OwnOps
import Derived.MapKept
import Derived.Deep.QuietTactic
import Derived.BigQuiet
import Derived.StillTailTactics
import Derived.Deep.RegionHeld3
import Derived.Deep.AppendLies
import Derived.Lib.Hide
set_option maxRecDepth 100000
set_option linter.unusedVariables false
set_option linter.unusedSimpArgs false
set_option maxHeartbeats 32000000
namespace Go.Proofs.YtdhkmfpfbjcdiaaGreatDoor
open Go.RowKit
theorem Kd {p : Prop} (h : p) : Hid p := h
structure Same (S : List Nat) (w w' : World) : Prop where
 os : w'.os = w.os
 tape : w'.tape = w.tape
 output : w'.output = w.output
 size : w.heap.size ≤ w'.heap.size
 block : ∀ b, b < w.heap.size → b ∉ S → w'.heap[b]? = w.heap[b]?
theorem Same.refl (S : List Nat) (w : World) : Same S w w := ⟨rfl, rfl, rfl, Nat.le_refl _, fun _ _ _ => rfl⟩
theorem Same.trans {S : List Nat} {a b c : World} (h : Same S a b) (k : Same S b c) : Same S a c :=
 ⟨k.os.trans h.os, k.tape.trans h.tape, k.output.trans h.output, Nat.le_trans h.size k.size, fun i hi hn => (k.block i (Nat.lt_of_lt_of_le hi h.size) hn).trans (h.block i hi hn)⟩
theorem Same.then {S T : List Nat} {a b c : World} (h : Same S a b) (k : Same T b c) (hT : ∀ x ∈ T, x ∈ S ∨ a.heap.size ≤ x) : Same S a c :=
 ⟨k.os.trans h.os, k.tape.trans h.tape, k.output.trans h.output, Nat.le_trans h.size k.size, fun i hi hn => (k.block i (Nat.lt_of_lt_of_le hi h.size) (fun hm => by
  rcases hT i hm with h1 | h1
  ·exact hn h1
  ·omega)).trans (h.block i hi hn)⟩
theorem Same.mono {S T : List Nat} {a b : World} (h : Same S a b) (hS : ∀ x ∈ S, x ∈ T ∨ a.heap.size ≤ x) : Same T a b :=
 ⟨h.os, h.tape, h.output, h.size, fun i hi hn => h.block i hi (fun hm => by
  rcases hS i hm with h1 | h1
  ·exact hn h1
  ·omega)⟩
theorem Same.below {w w' : World} (h : Same [] w w') : Below w.heap.size w w' := ⟨h.os, h.tape, h.output, h.size, fun k hk => h.block k hk (by simp)⟩
theorem Same.of_below {S : List Nat} {w w' : World} (h : Below w.heap.size w w') : Same S w w' := ⟨h.os, h.tape, h.output, h.size, fun k hk _ => h.block k hk⟩
theorem Same.of_grown {w w' : World} {g : Option Nat} (h : w.grownBy w' g) : Same g.toList w w' :=
 ⟨h.os, h.tape, h.output, h.size, fun k hk hn => h.block k hk (fun e => hn (by rw [← e]; simp))⟩
theorem Same.alloc (S : List Nat) (w : World) (o : Obj) : Same S w (w.alloc o) := Same.of_below ((Below.refl _ _).alloc (Nat.le_refl _) o)
theorem Same.drew (S : List Nat) (w : World) : Same S w w.drew := ⟨rfl, rfl, rfl, Nat.le_refl _, fun _ _ _ => rfl⟩
theorem Same.setCell (w : World) (a : Addr) (v : Value) {S : List Nat} (h : a.block ∈ S) : Same S w (w.setCell a v) :=
 ⟨rfl, rfl, rfl, by simp [World.setCell], fun b _ hn => by
  have : b ≠ a.block := fun e => hn (e ▸ h)
  simp [World.setCell, Array.getElem?_modify, Ne.symm this]⟩
theorem Same.get {S : List Nat} {w w' : World} (h : Same S w w') {b : Nat} {o : Obj} (hb : w.heap[b]? = some o) (hn : b ∉ S) : w'.heap[b]? = some o :=
 (h.block b (Array.getElem?_eq_some_iff.1 hb).1 hn).trans hb
theorem blk_lt {w : World} {b : Nat} {o : Obj} (hb : w.heap[b]? = some o) : b < w.heap.size := (Array.getElem?_eq_some_iff.1 hb).1
theorem Same.cell {S : List Nat} {w w' : World} (h : Same S w w') {b o : Nat} {v : Value} (hc : w.cell? ⟨b, o, none⟩ = some v) (hn : b ∉ S) : w'.cell? ⟨b, o, none⟩ = some v :=
 (World.cell?_of_block (h.block b (World.block_lt_of_cell? w ⟨b, o, none⟩ hc) hn)).trans hc
theorem blk_cell {w : World} {b : Nat} {cs : Array Value} {t : TypeId} {fr : Nat × Nat} (h : w.heap[b]? = some (.cells cs t fr)) (i : Nat) : w.cell? ⟨b, i, none⟩ = cs[i]? := by simp [World.cell?, h]
theorem blk_free {w : World} {b : Nat} {cs : Array Value} {t : TypeId} (h : w.heap[b]? = some (.cells cs t (0, 0))) (i : Nat) : w.frozen? ⟨b, i, none⟩ = false := by simp [World.frozen?, h]
theorem blk_set {w : World} {b : Nat} {cs : Array Value} {t : TypeId} {fr : Nat × Nat} (h : w.heap[b]? = some (.cells cs t fr)) (i : Nat) (v : Value) :
  (w.setCell ⟨b, i, none⟩ v).heap[b]? = some (.cells (cs.setIfInBounds i v) t fr) := by
 simp [World.setCell, Array.getElem?_modify, h]
theorem blk_set_other {w : World} {b : Nat} (a : Addr) (v : Value) (h : b ≠ a.block) : (w.setCell a v).heap[b]? = w.heap[b]? := by
 simp [World.setCell, Array.getElem?_modify, Ne.symm h]
theorem blk_new (w : World) (o : Obj) : (w.alloc o).heap[w.heap.size]? = some o := by show (w.heap.push o)[w.heap.size]? = some o; simp
theorem blk_old {w : World} {b : Nat} {x : Obj} (h : w.heap[b]? = some x) (o : Obj) : (w.alloc o).heap[b]? = some x := by
 have := blk_lt h
 show (w.heap.push o)[b]? = some x
 rw [Array.getElem?_push, if_neg (by omega)]
 exact h
def cellPut (i : Nat) (v : Value) : Obj → Obj
 | .cells c e f => .cells (c.setIfInBounds i v) e f
 | o => o
theorem heap_setCell (w : World) (b i : Nat) (v : Value) (b' : Nat) : (w.setCell ⟨b, i, none⟩ v).heap[b']? = if b' = b then (w.heap[b]?).map (cellPut i v) else w.heap[b']? := by
 by_cases h : b' = b
 ·subst h
  rw [if_pos rfl]
  simp only [World.setCell, Array.getElem?_modify, if_true]
  cases w.heap[b']? with
  | none => rfl
  | some o => cases o <;> simp [cellPut]
 ·rw [if_neg h]
  exact blk_set_other _ _ h
theorem Same.set {S : List Nat} {w w' : World} (h : Same S w w') (a : Addr) (v : Value) (ha : a.block ∈ S) : Same S w (w'.setCell a v) := h.trans (Same.setCell _ _ _ ha)
structure Ps where
 off : Nat
 line : Nat
 col : Nat
 deriving DecidableEq, Inhabited
structure Tk where
 text : ByteArray
 at_ : Ps
 deriving DecidableEq
def Ps.cells (p : Ps) : List Value := [.int .i64 p.off, .int .i64 p.line, .int .i64 p.col]
def Tk.cells (t : Tk) : List Value := .string t.text :: t.at_.cells
def Tk.none : Tk := ⟨⟨#[]⟩, ⟨0, 0, 0⟩⟩
def aget {α β : Type} [DecidableEq α] (k : α) : List (α × β) → Option β
 | [] => none
 | (k', v) :: r => if k = k' then some v else aget k r
def aput {α β : Type} [DecidableEq α] (k : α) (v : β) : List (α × β) → List (α × β)
 | [] => [(k, v)]
 | (k', v') :: r => if k = k' then (k', v) :: r else (k', v') :: aput k v r
def adel {α β : Type} [DecidableEq α] (k : α) : List (α × β) → List (α × β)
 | [] => []
 | (k', v') :: r => if k = k' then r else (k', v') :: adel k r
def SMap (w : World) (b : Nat) (l : List (ByteArray × Value)) : Prop :=
 ∃ es clock, w.heap[b]? = some (.map es clock) ∧ es.toList.map (fun e => (e.key, e.val)) = l.map (fun p => (Value.string p.1, p.2))
theorem SMap.lt {w : World} {b : Nat} {l : List (ByteArray × Value)} (h : SMap w b l) : b < w.heap.size := by
 obtain ⟨_, _, h, _⟩ := h; exact blk_lt h
theorem SMap.same {S : List Nat} {w w' : World} {b : Nat} {l : List (ByteArray × Value)} (h : SMap w b l) (hs : Same S w w') (hn : b ∉ S) : SMap w' b l := by
 obtain ⟨es, clock, h, e⟩ := h; exact ⟨es, clock, hs.get h hn, e⟩
theorem SMap.ne_cells {w : World} {b c : Nat} {l : List (ByteArray × Value)} {cs : Array Value} {t : TypeId} {fr : Nat × Nat} (h : SMap w b l) (hc : w.heap[c]? = some (.cells cs t fr)) : b ≠ c := by
 rintro rfl
 obtain ⟨es, clock, h, _⟩ := h
 rw [h] at hc
 cases hc
theorem bytes_beq_self (k : ByteArray) : (k == k) = true := (MapKept.bytes_beq k k).2 rfl
theorem bytes_beq_ne {k k' : ByteArray} (h : k ≠ k') : (k == k') = false := by
 cases hb : (k == k') with
 | false => rfl
 | true => exact absurd ((MapKept.bytes_beq k k').1 hb) h
theorem findNow_str (k : ByteArray) : ∀ (es : List MapEntry) (l : List (ByteArray × Value)) (i : Nat), es.map (fun e => (e.key, e.val)) = l.map (fun p => (Value.string p.1, p.2)) →
  (aget k l = none ∧ Instr.findNow .string (.string k) es i = some none ∧ (∀ v, aput k v l = l ++ [(k, v)]) ∧ adel k l = l) ∨
  (∃ j v, aget k l = some v ∧ Instr.findNow .string (.string k) es i = some (some (i + j, v)) ∧ (∃ e, es[j]? = some e ∧ e.key = .string k) ∧
   (∀ (f : MapEntry → MapEntry) u, (∀ e, (f e).key = .string k ∧ (f e).val = u) → (es.modify j f).map (fun e => (e.key, e.val)) = ((aput k u l).map (fun p => (Value.string p.1, p.2)))) ∧
   (es.eraseIdx j).map (fun e => (e.key, e.val)) = (adel k l).map (fun p => (Value.string p.1, p.2)))
 | [], [], i, _ => .inl ⟨rfl, rfl, fun _ => rfl, rfl⟩
 | [], _ :: _, i, h => by simp at h
 | _ :: _, [], i, h => by simp at h
 | e :: es, (k', v') :: l, i, h => by
  simp only [List.map_cons, List.cons.injEq, Prod.mk.injEq] at h
  obtain ⟨⟨hk, hv⟩, hr⟩ := h
  by_cases hkk : k = k'
  ·subst hkk
   refine .inr ⟨0, v', by simp [aget], ?_, ⟨e, rfl, hk⟩, ?_, ?_⟩
   ·simp [Instr.findNow, hk, Instr.sameNow, hv, bytes_beq_self]
   ·intro f u hf
    simp [aput, hr, hf]
   ·simp [adel, hr]
  ·have hb : (k == k') = false := bytes_beq_ne hkk
   rcases findNow_str k es l (i + 1) hr with ⟨h1, h2, h3, h4⟩ | ⟨j, v, h1, h2, ⟨e1, he1, he2⟩, h3, h4⟩
   ·refine .inl ⟨by simp [aget, hkk, h1], ?_, fun v => by simp [aput, hkk, h3 v], by simp [adel, hkk, h4]⟩
    simp [Instr.findNow, hk, Instr.sameNow, hb, h2]
   ·refine .inr ⟨j + 1, v, by simp [aget, hkk, h1], ?_, ⟨e1, by simpa using he1, he2⟩, ?_, ?_⟩
    ·simp only [Instr.findNow, hk, Instr.sameNow, hb, h2]
     rw [show i + 1 + j = i + (j + 1) by omega]
    ·intro f u hf
     simp [aput, hkk, hk, hv, h3 f u hf]
    ·simp [adel, hkk, hk, hv, h4]
section
variable {P : Program} {w : World} {b : Nat} {l : List (ByteArray × Value)} {t kt et : TypeId}
theorem SMap.run_lookup (h : SMap w b l) (ht : P.underlying t = some (.map kt et)) (hk : P.underlying kt = some .string) {z : Value} (hz : (zeroValue et).run P w = .ok z w) (k : ByteArray) (c : Bool) :
  (Instr.lookup t (.map (some b)) (.string k) c).run P w = .ok (if c then .tuple #[(aget k l).getD z, .bool (aget k l).isSome] else (aget k l).getD z) w := by
 obtain ⟨es, clock, hb, he⟩ := h
 have hg := MapKept.run_getObj_map (P := P) hb
 have hc := MapKept.run_checkKey (P := P) (w := w) (k := .string k) hk (by simp [MapKept.IsKey]) es.isEmpty 9999
 rcases findNow_str k es.toList l 0 he with ⟨h1, h2, _⟩ | ⟨j, v, h1, h2, _⟩
 ·have hf := MapKept.run_findKey (P := P) (w := w) hk h2
  simp [Instr.lookup, run_underlying ht, hg, hc, hf, h1, hz]
 ·have hf := MapKept.run_findKey (P := P) (w := w) hk h2
  simp [Instr.lookup, run_underlying ht, hg, hc, hf, h1]
theorem SMap.run_put (h : SMap w b l) (ht : P.underlying t = some (.map kt et)) (hk : P.underlying kt = some .string) (k : ByteArray) (v : Value) :
  ∃ w', (Instr.mapUpdate t (.map (some b)) (.string k) v).run P w = .ok () w' ∧ SMap w' b (aput k v l) ∧ Same [b] w w' := by
 obtain ⟨es, clock, hb, he⟩ := h
 have hg := MapKept.run_getObj_map (P := P) hb
 have hc := MapKept.run_checkKey (P := P) (w := w) (k := .string k) hk (by simp [MapKept.IsKey]) false 9999
 have hset : ∀ o, (setObj b o).run P w = .ok () { w with heap := w.heap.setIfInBounds b o } := fun o => MapKept.run_setObj_map o hb
 have hsame : ∀ o, Same [b] w { w with heap := w.heap.setIfInBounds b o } := fun o => ⟨rfl, rfl, rfl, by simp, fun i _ hi => by
  have : i ≠ b := by simpa using hi
  simp [Array.getElem?_setIfInBounds, Ne.symm this]⟩
 have hnew : ∀ o, ({ w with heap := w.heap.setIfInBounds b o } : World).heap[b]? = some o := fun o => by
  have := blk_lt hb
  simp [Array.getElem?_setIfInBounds, this]
 rcases findNow_str k es.toList l 0 he with ⟨h1, h2, h3, _⟩ | ⟨j, u, h1, h2, ⟨e, he1, he2⟩, h3, _⟩
 ·have hf := MapKept.run_findKey (P := P) (w := w) hk h2
  refine ⟨_, by simp [Instr.mapUpdate, run_underlying ht, hg, hc, hf, hset]; rfl, ⟨_, _, hnew _, ?_⟩, hsame _⟩
  simp [he, h3 v]
 ·have hf := MapKept.run_findKey (P := P) (w := w) hk h2
  have hst : (Instr.keyThatStays (.string k) (.string k)).run P w = .ok (.string k) w := MapKept.run_keyThatStays (d := .string) (by simp [MapKept.IsKey])
  have hj : es[j]? = some e := by simpa using he1
  refine ⟨_, by simp [Instr.mapUpdate, run_underlying ht, hg, hc, hf, hset, hj, he2, hst]; rfl, ⟨_, _, hnew _, ?_⟩, hsame _⟩
  simpa using h3 (fun e => { e with key := .string k, val := v }) v (fun _ => ⟨rfl, rfl⟩)
theorem SMap.run_del (h : SMap w b l) (ht : P.underlying t = some (.map kt et)) (hk : P.underlying kt = some .string) (k : ByteArray) (us : Array TypeId) (ty : TypeId) (hu : us[0]? = some t) :
  ∃ w', (Builtin.delete_ us ty #[.map (some b), .string k]).run P w = .ok (.tuple #[]) w' ∧ SMap w' b (adel k l) ∧ Same [b] w w' := by
 obtain ⟨es, clock, hb, he⟩ := h
 have hg := MapKept.run_getObj_map (P := P) hb
 have hc := MapKept.run_checkKey (P := P) (w := w) (k := .string k) hk (by simp [MapKept.IsKey]) es.isEmpty 9999
 have hset : ∀ o, (setObj b o).run P w = .ok () { w with heap := w.heap.setIfInBounds b o } := fun o => MapKept.run_setObj_map o hb
 have hsame : ∀ o, Same [b] w { w with heap := w.heap.setIfInBounds b o } := fun o => ⟨rfl, rfl, rfl, by simp, fun i _ hi => by
  have : i ≠ b := by simpa using hi
  simp [Array.getElem?_setIfInBounds, Ne.symm this]⟩
 have hnew : ∀ o, ({ w with heap := w.heap.setIfInBounds b o } : World).heap[b]? = some o := fun o => by
  have := blk_lt hb
  simp [Array.getElem?_setIfInBounds, this]
 rcases findNow_str k es.toList l 0 he with ⟨h1, h2, _, h4⟩ | ⟨j, u, h1, h2, _, _, h4⟩
 ·have hf := MapKept.run_findKey (P := P) (w := w) hk h2
  refine ⟨_, by simp [Builtin.delete_, hu, run_underlying ht, hg, hc, hf, hset]; rfl, ⟨_, _, hnew _, ?_⟩, hsame _⟩
  simp [he, h4]
 ·have hf := MapKept.run_findKey (P := P) (w := w) hk h2
  refine ⟨_, by simp [Builtin.delete_, hu, run_underlying ht, hg, hc, hf, hset]; rfl, ⟨_, _, hnew _, ?_⟩, hsame _⟩
  rw [← h4]
  simp
end
section
variable {P : Program} {ops : Array Oper} {rest : List Oper} {o : Oper} {a : Act} {Q : Exit → Act → World → Prop} {w : World} {b : Nat} {l : List (ByteArray × Value)} {t kt et : TypeId}
theorem wp_sput (h : SMap w b l) (ht : P.underlying t = some (.map kt et)) (hk : P.underlying kt = some .string)
  (hg : o.guard = none) (m x v : Operand) (hop : o.op = .mapUpdate t m x v) (k : ByteArray) (u : Value) (hm : a.eval m = .map (some b)) (hx : a.eval x = .string k) (hv : a.eval v = u)
  (hK : ∀ w', SMap w' b (aput k u l) → Same [b] w w' → wpList P ops Q rest (a.put o.dst undef) w') : wpList P ops Q (o :: rest) a w := by
 refine wpList_plain hg fun K' hK' => ?_
 obtain ⟨w', hrun, r1, r2⟩ := h.run_put ht hk k u
 unfold Oper.wp
 simp [execOp, hop, hm, hx, hv, hrun, Result.andThen]
 exact hK' _ _ (hK w' r1 r2)
theorem wp_sdel (h : SMap w b l) (ht : P.underlying t = some (.map kt et)) (hk : P.underlying kt = some .string)
  (hg : o.guard = none) (m x : Operand) (hop : o.op = .call { callee := .builtin .delete, args := #[m, x], argTypes := #[t, kt] }) (k : ByteArray) (hm : a.eval m = .map (some b)) (hx : a.eval x = .string k)
  (hK : ∀ w', SMap w' b (adel k l) → Same [b] w w' → wpList P ops Q rest (a.put o.dst (.tuple #[])) w') : wpList P ops Q (o :: rest) a w := by
 refine wpList_plain hg fun K' hK' => ?_
 obtain ⟨w', hrun, r1, r2⟩ := h.run_del ht hk k #[t, kt] o.type rfl
 unfold Oper.wp execOp
 simp only [hop, resolve, invoke, builtin, Sem.run_bind, Sem.run_pure, Result.andThen_ok, List.map_toArray, List.map_cons, List.map_nil, hm, hx, hrun]
 exact hK' _ _ (hK w' r1 r2)
end
theorem blk_c {w : World} {b i : Nat} {cs : Array Value} {t : TypeId} {fr : Nat × Nat} {v : Value} (h : w.heap[b]? = some (.cells cs t fr)) (hi : cs[i]? = some v := by rfl) : w.cell? ⟨b, i, none⟩ = some v := (blk_cell h i).trans hi
abbrev Row (w : World) (e k : Nat) (v : Value) (n : Nat) (xs : List Value) : Prop := w.ownsRow 0 e k v n xs
theorem Row.same {S : List Nat} {w w' : World} {e k n : Nat} {v : Value} {xs : List Value} (h : Row w e k v n xs) (hs : Same S w w') (hn : ∀ b, v.ownBlock = some b → b ∉ S) : Row w' e k v n xs := by
 refine ⟨h.1, ?_⟩
 rcases h.2 with h2 | ⟨g, cap, cur, rfl, h0, h1, h3⟩
 ·exact .inl h2
 ·exact .inr ⟨g, cap, cur, rfl, h0, hs.get h1 (hn g rfl), h3⟩
theorem Row.lt {w : World} {e k n : Nat} {v : Value} {xs : List Value} (h : Row w e k v n xs) {b : Nat} (hb : v.ownBlock = some b) : b < w.heap.size := by
 rcases h.2 with ⟨rfl, _⟩ | ⟨g, cap, cur, rfl, h0, h1, h3⟩
 ·cases hb
 ·cases hb; exact blk_lt h1
theorem Row.ne {w : World} {e k n : Nat} {v : Value} {xs : List Value} (h : Row w e k v n xs) {b : Nat} {cs : Array Value} {t : TypeId} {fr : Nat × Nat} (hb : w.heap[b]? = some (.cells cs t fr)) (ht : e ≠ t) : v.ownBlock ≠ some b := by
 rcases h.2 with ⟨rfl, _⟩ | ⟨g, cap, cur, rfl, h0, h1, h3⟩
 ·simp [Value.ownBlock]
 ·intro e'
  simp [Value.ownBlock] at e'
  subst e'
  rw [h1] at hb
  cases hb
  exact ht rfl
theorem Row.ne_row {w : World} {e k n e' k' n' : Nat} {v v' : Value} {xs xs' : List Value} (h : Row w e k v n xs) (h' : Row w e' k' v' n' xs') (ht : e ≠ e') {b : Nat} (hb : v'.ownBlock = some b) : v.ownBlock ≠ some b := by
 rcases h'.2 with ⟨rfl, _⟩ | ⟨g, cap, cur, rfl, h0, h1, h3⟩
 ·cases hb
 ·cases hb; exact h.ne h1 ht
theorem Row.ne_map {w : World} {e k n : Nat} {v : Value} {xs : List Value} (h : Row w e k v n xs) {b : Nat} {es : Array MapEntry} {clock : Nat} (hb : w.heap[b]? = some (.map es clock)) : v.ownBlock ≠ some b := by
 rcases h.2 with ⟨rfl, _⟩ | ⟨g, cap, cur, rfl, h0, h1, h3⟩
 ·simp [Value.ownBlock]
 ·intro e'
  simp [Value.ownBlock] at e'
  subst e'
  rw [h1] at hb
  cases hb
theorem Row.shape {w : World} {e k n : Nat} {v : Value} {xs : List Value} (h : Row w e k v n xs) : ∃ A c, v = .slice A n c := by
 rcases h.2 with ⟨rfl, rfl⟩ | ⟨g, cap, cur, rfl, _⟩
 ·exact ⟨none, 0, rfl⟩
 ·exact ⟨_, cap, rfl⟩
theorem Row.cell {w : World} {e k n : Nat} {v : Value} {xs : List Value} (h : Row w e k v n xs) {j : Nat} (hj : j < n * k) : ∃ g c, v = .slice (some ⟨g, 0, none⟩) n c ∧ w.cell? ⟨g, j, none⟩ = some (xs.getD j undef) ∧ w.frozen? ⟨g, j, none⟩ = false := by
 rcases h.2 with ⟨rfl, rfl⟩ | ⟨g, cap, cur, rfl, _, h1, h2, h3, h4, h5⟩
 ·simp at hj
 ·refine ⟨g, cap, rfl, ?_, blk_free h1 j⟩
  rw [blk_cell h1]
  have hl : j < xs.length := by rw [h.1]; exact hj
  have : xs[j]? = cur.toList[j]? := by rw [← h5, List.getElem?_take, if_pos hj]
  simp only [Array.getElem?_toList] at this
  rw [← this]
  simp [List.getD_eq_getElem?_getD, List.getElem?_eq_getElem hl]
theorem Row.set1 {w : World} {e k n g c : Nat} {xs : List Value} (h : Row w e k (.slice (some ⟨g, 0, none⟩) n c) n xs) {j : Nat} (hj : j < n * k) (u : Value) :
  Row (w.setCell ⟨g, j, none⟩ u) e k (.slice (some ⟨g, 0, none⟩) n c) n (xs.set j u) := by
 refine ⟨by simp [h.1], ?_⟩
 rcases h.2 with ⟨h1, _⟩ | ⟨g', cap, cur, h1, h2, h3, h4, h5, h6, h7⟩
 ·simp at h1
 ·cases h1
  refine .inr ⟨g, c, _, rfl, h2, blk_set h3 j u, h4, h5, by simp [h6], ?_⟩
  simp only [Array.toList_setIfInBounds]
  rw [← h7, List.take_set]
theorem Row.blk {w : World} {e k n m g c : Nat} {xs : List Value} (h : Row w e k (.slice (some ⟨g, 0, none⟩) m c) n xs) : ∃ cur, w.heap[g]? = some (.cells cur e (0, 0)) := by
 rcases h.2 with ⟨h1, _⟩ | ⟨g', cap, cur, h1, h2, h3, _⟩
 ·simp at h1
 ·cases h1; exact ⟨_, h3⟩
theorem tl_empty (s : ByteArray) : s.toList.isEmpty = decide (s.size = 0) := by
 rw [ByteArray.toList_eq]
 have hl : s.data.toList.length = s.size := by simp
 cases hd : s.data.toList with
 | nil => rw [hd] at hl; rw [decide_eq_true (by simpa using hl.symm)]; rfl
 | cons x r => rw [hd] at hl; simp at hl; rw [decide_eq_false (by omega)]; rfl
theorem tl_nil_iff (s : ByteArray) : s.toList = [] ↔ s.size = 0 := by
 have := tl_empty s
 by_cases h : s.size = 0 <;> simp [h] at this ⊢ <;> exact this
theorem ret_int {k : IntKind} {a b : Int} (h : a = b) : Ending.returned (.int k a) = .returned (.int k b) := by rw [h]
theorem ret_bool {a b : Bool} (h : a = b) : Ending.returned (.bool a) = .returned (.bool b) := by rw [h]
section
variable {P : Program} {ops : Array Oper} {rest : List Oper} {o : Oper} {a : Act} {Q : Exit → Act → World → Prop}
theorem info_split {P : Program} {e : TypeId} {z : Value} {k bytes : Nat} (h : (P.info? e).map (fun i => (i.zero, i.size, i.bytes)) = some (some z, k, bytes)) : ∃ i, P.info? e = some i ∧ i.zero = some z ∧ i.size = k ∧ i.bytes = bytes := by
 obtain ⟨i, hi, hzz⟩ := Option.map_eq_some_iff.1 h
 simp only [Prod.mk.injEq] at hzz
 exact ⟨i, hi, hzz⟩
theorem cells_new (w : World) (ys : List Value) (t : TypeId) : ∀ j u, ys[j]? = some u → (w.alloc (.cells ys.toArray t)).cell? ((⟨w.heap.size, 0, none⟩ : Addr).add j) = some u := by
 intro j u hj
 have : (⟨w.heap.size, 0, none⟩ : Addr).add j = ⟨w.heap.size, j, none⟩ := by unfold Addr.add; split <;> simp_all
 rw [this, blk_cell (blk_new w _)]
 simpa using hj
theorem wp_push {W : World} (hgd : o.guard = none) (s x : Operand) (t : TypeId) (ho : o.op = .call { callee := .builtin .append, args := #[s, x], argTypes := #[t, t] })
  (e k bytes : Nat) (z : Value) (ht : P.underlying t = some (.slice e)) (hinfo : (P.info? e).map (fun i => (i.zero, i.size, i.bytes)) = some (some z, k, bytes)) (hz : z.cells.size = k) (hk : 0 < k)
  (v : Value) (n : Nat) (xs : List Value) (hs : a.eval s = v) (hown : Row W e k v n xs) (ys : List Value) (hx : a.eval x = .slice (some ⟨W.heap.size, 0, none⟩) 1 1) (hl : ys.length = k) (h1 : ∀ u ∈ ys, u.oneCell' = true)
  (hn : (n + 1) * bytes ≤ 140737488355328) (hb : 0 < bytes)
  (h : ∀ v' w', Row w' e k v' (n + 1) (xs ++ ys) → Same v.ownBlock.toList W w' → (v'.ownBlock = v.ownBlock ∨ ∃ b, v'.ownBlock = some b ∧ W.heap.size ≤ b) → wpList P ops Q rest (a.put o.dst v') w') :
  wpList P ops Q (o :: rest) a (W.alloc (.cells ys.toArray e)) := by
 obtain ⟨i, hi, hz0, hz1, hz2⟩ := info_split hinfo
 have hlen : n + 1 ≤ 140737488355328 := Nat.le_trans (Nat.le_mul_of_pos_right _ hb) hn
 refine wpList_append_own_at _ hgd s x t ho 0 e i z k bytes ht hi hz0 hz1 hz2 hz hk v n xs hs (hown.same (Same.alloc [] W _) (by simp)) ⟨W.heap.size, 0, none⟩ 1 1 ys hx (by simpa using hl) (cells_new W ys e) h1 (by simp only [maxLen]; omega) hn (Nat.zero_le _) ?_
 intro v' w' hown' hg _ hat
 refine h v' w' hown' ((Same.alloc _ W _).trans (Same.of_grown hg)) ?_
 rcases hat with hat | hat
 ·exact .inl hat
 ·exact .inr ⟨_, hat, by simp⟩
end
def blankB (c : Nat) : Bool := c == 9 || c == 10 || c == 12 || c == 13 || c == 32
def kindN (c : Nat) : Nat := if 33 ≤ c ∧ c ≤ 126 then 2 else if blankB c = true then 1 else 0
def Blanks (w : World) : Prop := ∀ c : Nat, c < 33 → w.cell? ⟨1, c, none⟩ = some (.bool (blankB c))
theorem Blanks.same {w w' : World} (h : Blanks w) (hs : Same [] w w') : Blanks w' := fun c hc => hs.cell (h c hc) (by simp)
theorem Blanks.sameS {w w' : World} {S : List Nat} (h : Blanks w) (hs : Same S w w') (hn : 1 ∉ S) : Blanks w' := fun c hc => hs.cell (h c hc) hn
theorem kind_calls (c : UInt8) (w : World) (hb : Blanks w) :
  Calls Tryz.prog 155 #[.int .u8 c.toNat] w fun e w' => e = .returned (.int .i64 (kindN c.toNat)) ∧ w = w' := by
 have h0 : c.toNat < 256 := c.toNat_lt
 by_cases h1 : c.toNat < 33
 ·have hc := hb c.toNat h1
  have hk : kindN c.toNat = if blankB c.toNat = true then 1 else 0 := by unfold kindN; rw [if_neg (by omega)]
  have Hk := Kd hk
  clear hk hb
  cases hbl : blankB c.toNat
  all_goals
   rw [hbl] at hc
   have Hb := Kd hbl
   clear hbl
   go_enter Tryz.func155, Tryz.ntmps155
   go_wp2
   go_ret
   exact ⟨ret_int (by rw [Hk.out, Hb.out]; rfl), rfl⟩
 ·have hk : kindN c.toNat = if c.toNat ≤ 126 then 2 else 0 := by
   unfold kindN blankB
   have e1 : (c.toNat == 9) = false := by simp; omega
   have e2 : (c.toNat == 10) = false := by simp; omega
   have e3 : (c.toNat == 12) = false := by simp; omega
   have e4 : (c.toNat == 13) = false := by simp; omega
   have e5 : (c.toNat == 32) = false := by simp; omega
   rw [e1, e2, e3, e4, e5]
   by_cases h2 : c.toNat ≤ 126
   ·rw [if_pos ⟨by omega, h2⟩, if_pos h2]
   ·rw [if_neg (by omega), if_neg h2]; rfl
  have Hk := Kd hk
  clear hk hb
  by_cases h2 : c.toNat ≤ 126
  ·have : kindN c.toNat = 2 := by rw [Hk.out, if_pos h2]
   have Hk := Kd this
   clear this
   go_enter Tryz.func155, Tryz.ntmps155
   go_wp2
   go_ret
   exact ⟨ret_int (by rw [Hk.out]; rfl), rfl⟩
  ·have : kindN c.toNat = 0 := by rw [Hk.out, if_neg h2]
   have Hk := Kd this
   clear this
   go_enter Tryz.func155, Tryz.ntmps155
   go_wp2
   go_ret
   exact ⟨ret_int (by rw [Hk.out]; rfl), rfl⟩
def symB (c : UInt8) : Bool := decide (33 ≤ c.toNat ∧ c.toNat ≤ 126 ∧ c.toNat ≠ 36)
def symOK (s : ByteArray) : Bool := s.data.toList.all symB && decide (s.size ≠ 0 ∧ s.size ≤ 32)
theorem Symbol_calls (s : ByteArray) (w : World) (hb : Blanks w) (hs : s.size ≤ maxLen) :
  Calls Tryz.prog 118 #[.string s] w fun e w' => e = .returned (.bool (symOK s)) ∧ w = w' := by
 unfold maxLen at hs
 have hlen : s.data.toList.length = s.size := by simp
 go_enter Tryz.func118, Tryz.ntmps118
 go_wp2
 go_loop [2, 3, 6] (fun _ _ i => ∃ k : Nat, k ≤ s.size ∧ i = .int .i64 k ∧ (s.data.toList.take k).all symB = true) (fun _ _ i => s.size - (intOf i).toNat)
 case atStart => exact ⟨0, Nat.zero_le _, rfl, by simp⟩
 case round =>
  obtain ⟨k, hk, rfl, hall⟩ := hrel
  by_cases hlt : k < s.size
  ·have hke := kind_calls s[k] w hb
   have hsn : s.data.toList.take (k + 1) = s.data.toList.take k ++ [s[k]] := by
    rw [List.take_succ_eq_append_getElem (by simpa using hlt)]; rfl
   have Hsn := Kd hsn
   have h256 : s[k].toNat < 256 := s[k].toNat_lt
   have hsz : (k + 1 : Int) ≤ s.size := by omega
   by_cases h1 : symB s[k] = true
   ·have h2 : 33 ≤ s[k].toNat ∧ s[k].toNat ≤ 126 ∧ s[k].toNat ≠ 36 := by simpa [symB] using h1
    have hkd : (kindN s[k].toNat : Int) = 2 := by unfold kindN; rw [if_pos ⟨h2.1, h2.2.1⟩]; rfl
    rw [hkd] at hke
    have h3 : ((s[k].toNat : Int) == 36) = false := by simp; omega
    have H1 := Kd h1
    clear h1 h2 hkd hsn
    go_wp2_with (go_at_call 155; refine hke.mono ?_; rintro e w' ⟨rfl, rfl⟩)
    go_round
    case rel => exact ⟨k + 1, by omega, by go_num, by rw [Hsn.out, List.all_append, hall]; simp [H1.out]⟩
    case measure => simp [intOf]; omega
   ·have hb0 : symOK s = false := by
     have : s.data.toList.all symB = false := by
      rw [← List.take_append_drop (k + 1) s.data.toList, List.all_append, hsn, List.all_append]
      simp only [List.all_cons]
      simp [h1]
     simp [symOK, this]
    have H0 := Kd hb0
    clear hb0 hsn
    by_cases h2 : 33 ≤ s[k].toNat ∧ s[k].toNat ≤ 126
    ·have h3 : s[k].toNat = 36 := by
      simp [symB] at h1
      exact h1 h2.1 h2.2
     have hkd : (kindN s[k].toNat : Int) = 2 := by unfold kindN; rw [if_pos h2]; rfl
     rw [hkd] at hke
     have h4 : ((s[k].toNat : Int) == 36) = true := beq_iff_eq.2 (by omega)
     clear h3
     clear h1 h2 hkd
     go_wp2_with (go_at_call 155; refine hke.mono ?_; rintro e w' ⟨rfl, rfl⟩)
     go_ret
     exact ⟨ret_bool H0.out.symm, rfl⟩
    ·have hkd : ((kindN s[k].toNat : Int) == 2) = false := by
      unfold kindN
      rw [if_neg h2]
      split <;> simp
     generalize hkn : kindN s[k].toNat = kk at *
     have Hkn := Kd hkn
     clear h1 h2 hkn
     go_wp2_with (go_at_call 155; refine hke.mono ?_; rintro e w' ⟨rfl, rfl⟩)
     go_ret
     exact ⟨ret_bool H0.out.symm, rfl⟩
  ·have hkk : k = s.size := by omega
   have hfin : symOK s = decide (s.size ≠ 0 ∧ s.size ≤ 32) := by
    have : s.data.toList.take k = s.data.toList := List.take_of_length_le (by omega)
    rw [this] at hall
    simp only [symOK, hall, Bool.true_and]
   have Hf := Kd hfin
   clear hfin hkk hall
   by_cases hz : s.size = 0
   ·have he : s.toList = [] := (tl_nil_iff s).2 hz
    have hr : symOK s = false := by rw [Hf.out]; simp [hz]
    have He := Kd hr
    clear hr
    go_wp2
    go_ret
    exact ⟨ret_bool He.out.symm, rfl⟩
   ·have he : s.toList.isEmpty = false := by rw [tl_empty]; simp [hz]
    by_cases h32 : s.size ≤ 32
    all_goals
     have He : Hid (symOK s = decide (s.size ≤ 32)) := Kd (by rw [Hf.out]; simp [hz])
     go_wp2
     go_ret
     exact ⟨ret_bool (by rw [He.out]; simp; omega), rfl⟩
def nameB (c : UInt8) : Bool := decide ((97 ≤ c.toNat ∧ c.toNat ≤ 122) ∨ (65 ≤ c.toNat ∧ c.toNat ≤ 90) ∨ (48 ≤ c.toNat ∧ c.toNat ≤ 57) ∨ c.toNat = 46 ∨ c.toNat = 45 ∨ c.toNat = 95)
def nameOK (s : ByteArray) : Bool := s.data.toList.all nameB && decide (s.size ≠ 0 ∧ s.size ≤ 32)
theorem name_parts (c : Nat) : (97 ≤ c ∧ c ≤ 122) ∨ (65 ≤ c ∧ c ≤ 90) ∨ (48 ≤ c ∧ c ≤ 57) ∨ c = 46 ∨ c = 45 ∨ c = 95 ∨ (c < 48 ∧ ¬ c = 46 ∧ ¬ c = 45 ∧ ¬ c = 95) ∨ (58 ≤ c ∧ c ≤ 64 ∧ ¬ c = 46 ∧ ¬ c = 45 ∧ ¬ c = 95) ∨ (91 ≤ c ∧ c ≤ 96 ∧ ¬ c = 46 ∧ ¬ c = 45 ∧ ¬ c = 95) ∨ (122 < c ∧ ¬ c = 46 ∧ ¬ c = 45 ∧ ¬ c = 95) := by omega
theorem Name_calls (s : ByteArray) (w : World) (hs : s.size ≤ maxLen) :
  Calls Tryz.prog 115 #[.string s] w fun e w' => e = .returned (.bool (nameOK s)) ∧ w = w' := by
 unfold maxLen at hs
 have hlen : s.data.toList.length = s.size := by simp
 go_enter Tryz.func115, Tryz.ntmps115
 go_wp2
 go_loop [2, 3, 4, 7] (fun _ _ _ i => ∃ k : Nat, k ≤ s.size ∧ i = .int .i64 k ∧ (s.data.toList.take k).all nameB = true) (fun _ _ _ i => s.size - (intOf i).toNat)
 case atStart => exact ⟨0, Nat.zero_le _, rfl, by simp⟩
 case round =>
  obtain ⟨k, hk, rfl, hall⟩ := hrel
  by_cases hlt : k < s.size
  ·have hsn : s.data.toList.take (k + 1) = s.data.toList.take k ++ [s[k]] := by
    rw [List.take_succ_eq_append_getElem (by simpa using hlt)]; rfl
   have Hsn := Kd hsn
   have h256 : s[k].toNat < 256 := s[k].toNat_lt
   have Hb : Hid (nameB s[k] = decide ((97 ≤ s[k].toNat ∧ s[k].toNat ≤ 122) ∨ (65 ≤ s[k].toNat ∧ s[k].toNat ≤ 90) ∨ (48 ≤ s[k].toNat ∧ s[k].toNat ≤ 57) ∨ s[k].toNat = 46 ∨ s[k].toNat = 45 ∨ s[k].toNat = 95)) := Kd rfl
   have Hf : Hid (nameB s[k] = false → nameOK s = false) := Kd (fun h1 => by
    have : s.data.toList.all nameB = false := by
     rw [← List.take_append_drop (k + 1) s.data.toList, List.all_append, hsn, List.all_append]
     simp only [List.all_cons]
     simp [h1]
    simp [nameOK, this])
   clear hsn
   rcases name_parts s[k].toNat with h1 | h1 | h1 | h1 | h1 | h1 | ⟨h1, h2, h3, h4⟩ | ⟨h1, h1', h2, h3, h4⟩ | ⟨h1, h1', h2, h3, h4⟩ | ⟨h1, h2, h3, h4⟩
   case inl | inr.inl | inr.inr.inl =>
    have Hy : Hid (nameB s[k] = true) := Kd (by rw [Hb.out]; apply decide_eq_true; omega)
    go_wp2
    exact ⟨⟨k + 1, by omega, by go_num, by rw [Hsn.out, List.all_append, hall]; simp [Hy.out]⟩, by simp [intOf]; omega⟩
   case inr.inr.inr.inl | inr.inr.inr.inr.inl | inr.inr.inr.inr.inr.inl =>
    have Hy : Hid (nameB s[k] = true) := Kd (by rw [Hb.out]; apply decide_eq_true; omega)
    clear Hb Hf
    go_wp2
    exact ⟨⟨k + 1, by omega, by go_num, by rw [Hsn.out, List.all_append, hall]; simp [Hy.out]⟩, by simp [intOf]; omega⟩
   all_goals
    have Hn : Hid (nameOK s = false) := Kd (Hf.out (by rw [Hb.out]; apply decide_eq_false; omega))
    have e2 : ((s[k].toNat : Int) != 46) = true := by rw [bne_iff_ne]; omega
    have e3 : ((s[k].toNat : Int) != 45) = true := by rw [bne_iff_ne]; omega
    have e4 : ((s[k].toNat : Int) != 95) = true := by rw [bne_iff_ne]; omega
    clear Hb Hf h2 h3 h4
    go_wp2
    go_ret
    exact ⟨ret_bool Hn.out.symm, rfl⟩
  ·have hkk : k = s.size := by omega
   have hfin : nameOK s = decide (s.size ≠ 0 ∧ s.size ≤ 32) := by
    have : s.data.toList.take k = s.data.toList := List.take_of_length_le (by omega)
    rw [this] at hall
    simp only [nameOK, hall, Bool.true_and]
   have Hf := Kd hfin
   clear hfin hkk hall
   by_cases hz : s.size = 0
   ·have he : s.toList = [] := (tl_nil_iff s).2 hz
    have hr : nameOK s = false := by rw [Hf.out]; simp [hz]
    have He := Kd hr
    clear hr
    go_wp2
    go_ret
    exact ⟨ret_bool He.out.symm, rfl⟩
   ·have he : s.toList.isEmpty = false := by rw [tl_empty]; simp [hz]
    by_cases h32 : s.size ≤ 32
    all_goals
     have He : Hid (nameOK s = decide (s.size ≤ 32)) := Kd (by rw [Hf.out]; simp [hz])
     go_wp2
     go_ret
     exact ⟨ret_bool (by rw [He.out]; simp; omega), rfl⟩
end Go.Proofs.YtdhkmfpfbjcdiaaGreatDoor
