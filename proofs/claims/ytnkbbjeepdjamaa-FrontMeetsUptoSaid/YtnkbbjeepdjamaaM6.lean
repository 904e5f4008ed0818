/- What lookup, store, delete and len do on a map with integer keys that the call made, told by a list of pairs. Condition: the map's block holds just these pairs, each key once. -/
import Derived.Test.YtnkbbjeepdjamaaM2
import Derived.Carry
import Derived.RangeFuncNested
import Derived.RangeFuncBound
import Derived.OwnWalkIn
import Derived.Test.YtnkbbjeepdjamaaProg
import Derived.WalkLawsBesides
import Derived.WalkSpells
import Derived.Lib.AppendZeros
import Derived.RangeFuncCalls
import Derived.RangeFuncLeaves
import Derived.Shelf.Abstract
import Derived.Shelf.RegionOpen
import Derived.WalkKit
import Derived.TacticsInMore
import Derived.LoopNIn
import Derived.LoopIn
import Derived.Lib.Hide
import Derived.Deep.QuietTactic
import Derived.BigQuiet
namespace Go.Proofs.Ytnkbbjeepdjamaa
open Go.RowKit

/-- What is at a key. -/
def getK (al : List (Int × Value)) (x : Int) : Option Value :=
  match al with
  | [] => none
  | p :: al => if p.1 = x then some p.2 else getK al x
def updK (al : List (Int × Value)) (x : Int) (v : Value) : List (Int × Value) :=
  match al with
  | [] => [(x, v)]
  | p :: al => if p.1 = x then (x, v) :: al else p :: updK al x v
def delK (al : List (Int × Value)) (x : Int) : List (Int × Value) :=
  match al with
  | [] => []
  | p :: al => if p.1 = x then al else p :: delK al x
theorem getK_upd (al : List (Int × Value)) (x : Int) (v : Value) (y : Int) : getK (updK al x v) y = if x = y then some v else getK al y := by
  induction al with
  | nil => simp [getK, updK]
  | cons p al ih =>
    by_cases h : p.1 = x
    · by_cases k : x = y
      · simp [getK, updK, h, k]
      · simp [getK, updK, h, k]
    · by_cases k : x = y
      · subst k
        simp [getK, updK, h, ih]
      · simp [getK, updK, h, k, ih]
theorem getK_mem {al : List (Int × Value)} {x : Int} {v : Value} (h : getK al x = some v) : (x, v) ∈ al := by
  induction al with
  | nil => simp [getK] at h
  | cons p al ih =>
    simp only [getK] at h
    split at h
    · rename_i e
      injection h with h
      subst e h
      simp
    · exact List.mem_cons_of_mem _ (ih h)
theorem getK_none {al : List (Int × Value)} {x : Int} : getK al x = none ↔ x ∉ al.map (·.1) := by
  induction al with
  | nil => simp [getK]
  | cons p al ih =>
    simp only [getK, List.map_cons, List.mem_cons, not_or]
    split
    · rename_i e
      simp [e]
    · rename_i e
      rw [ih]
      exact ⟨fun h => ⟨fun e' => e e'.symm, h⟩, fun h => h.2⟩
theorem getK_of_mem {al : List (Int × Value)} (hn : (al.map (·.1)).Nodup) {x : Int} {v : Value} (h : (x, v) ∈ al) : getK al x = some v := by
  induction al with
  | nil => cases h
  | cons p al ih =>
    simp only [List.map_cons, List.nodup_cons] at hn
    simp only [getK]
    rcases List.mem_cons.1 h with rfl | h
    · simp
    · rw [if_neg]
      · exact ih hn.2 h
      · intro e
        exact hn.1 (List.mem_map.2 ⟨_, h, e.symm⟩)
theorem keys_upd (al : List (Int × Value)) (x : Int) (v : Value) : (updK al x v).map (·.1) = if x ∈ al.map (·.1) then al.map (·.1) else al.map (·.1) ++ [x] := by
  induction al with
  | nil => simp [updK]
  | cons p al ih =>
    simp only [updK]
    split
    · rename_i e
      simp [e]
    · rename_i e
      simp only [List.map_cons, ih, List.mem_cons]
      by_cases h : x ∈ al.map (·.1)
      · rw [if_pos h, if_pos (.inr h)]
      · rw [if_neg h, if_neg (by rintro (k | k); exact e k.symm; exact h k)]
        rfl
theorem nodup_upd {al : List (Int × Value)} (hn : (al.map (·.1)).Nodup) (x : Int) (v : Value) : ((updK al x v).map (·.1)).Nodup := by
  rw [keys_upd]
  split
  · exact hn
  · rename_i h
    rw [List.nodup_append]
    refine ⟨hn, by simp, ?_⟩
    rintro a ha b hb rfl
    simp at hb
    subst hb
    exact h ha
theorem len_upd (al : List (Int × Value)) (x : Int) (v : Value) : (updK al x v).length = if x ∈ al.map (·.1) then al.length else al.length + 1 := by
  have := congrArg List.length (keys_upd al x v)
  simp only [List.length_map] at this
  rw [this]
  split <;> simp
theorem getK_del {al : List (Int × Value)} (hn : (al.map (·.1)).Nodup) (x y : Int) : getK (delK al x) y = if x = y then none else getK al y := by
  induction al with
  | nil => simp [getK, delK]
  | cons p al ih =>
    simp only [List.map_cons, List.nodup_cons] at hn
    simp only [delK]
    split
    · rename_i e
      split
      · rename_i k
        rw [getK_none, ← k, ← e]
        exact hn.1
      · rename_i k
        simp only [getK]
        rw [if_neg (fun h => k (by rw [← e, h]))]
    · rename_i e
      simp only [getK, ih hn.2]
      by_cases k : p.1 = y
      · rw [if_pos k, if_neg (fun h => e (by rw [h, k])), if_pos k]
      · rw [if_neg k]
        split
        · rfl
        · rfl
theorem del_sub (al : List (Int × Value)) (x : Int) : (delK al x).Sublist al := by
  induction al with
  | nil => exact List.Sublist.refl _
  | cons p al ih =>
    simp only [delK]
    split
    · exact List.sublist_cons_self _ _
    · exact ih.cons_cons _
theorem nodup_del {al : List (Int × Value)} (hn : (al.map (·.1)).Nodup) (x : Int) : ((delK al x).map (·.1)).Nodup := ((del_sub al x).map _).nodup hn
theorem len_del (al : List (Int × Value)) (x : Int) : (delK al x).length = if x ∈ al.map (·.1) then al.length - 1 else al.length := by
  induction al with
  | nil => simp [delK]
  | cons p al ih =>
    simp only [delK]
    split
    · rename_i e
      simp [e]
    · rename_i e
      simp only [List.length_cons, ih, List.map_cons, List.mem_cons]
      by_cases h : x ∈ al.map (·.1)
      · rw [if_pos h, if_pos (.inr h)]
        have : 0 < al.length := by
          obtain ⟨q, hq, _⟩ := List.mem_map.1 h
          exact List.length_pos_of_mem hq
        omega
      · rw [if_neg h, if_neg (by rintro (k | k); exact e k.symm; exact h k)]

/-- The entries' stamps rise, and are below the clock. -/
def Births (es : List MapEntry) (c : Nat) : Prop := (es.map (·.born)).Pairwise (· < ·) ∧ ∀ b ∈ es.map (·.born), b < c
theorem births_push {es : List MapEntry} {c : Nat} (h : Births es c) (e : MapEntry) (he : e.born = c) : Births (es ++ [e]) (c + 1) := by
  constructor
  · rw [List.map_append, List.pairwise_append]
    refine ⟨h.1, by simp, ?_⟩
    intro a ha b hb
    simp at hb
    subst hb
    rw [he]
    exact h.2 a ha
  · intro b hb
    rw [List.map_append, List.mem_append] at hb
    rcases hb with hb | hb
    · have := h.2 b hb; omega
    · simp at hb; subst hb; omega
theorem map_modify_born (es : List MapEntry) (i : Nat) (f : MapEntry → MapEntry) (hf : ∀ e, (f e).born = e.born) : (es.modify i f).map (·.born) = es.map (·.born) := by
  apply List.ext_getElem?
  intro k
  simp only [List.getElem?_map, List.getElem?_modify]
  split <;> cases es[k]? <;> simp [hf]
theorem births_modify {es : List MapEntry} {c : Nat} (h : Births es c) (i : Nat) (f : MapEntry → MapEntry) (hf : ∀ e, (f e).born = e.born) : Births (es.modify i f) c := by
  unfold Births
  rw [map_modify_born es i f hf]
  exact h
theorem findIdx_list {α : Type} (xs : Array α) (p : α → Bool) : xs.findIdx? p = xs.toList.findIdx? p := by
  cases xs; simp
theorem mod_last (l : List MapEntry) (e : MapEntry) (f : MapEntry → MapEntry) : (l ++ [e]).modify l.length f = l ++ [f e] := by
  induction l with
  | nil => rfl
  | cons a l ih => simp [ih]
theorem mod_last' (es : Array MapEntry) (e : MapEntry) (f : MapEntry → MapEntry) : (es.toList ++ [e]).modify es.size f = es.toList ++ [f e] := by
  have := mod_last es.toList e f
  simpa using this
theorem births_erase {es : List MapEntry} {c : Nat} (h : Births es c) (i : Nat) : Births (es.eraseIdx i) c :=
  ⟨h.1.sublist ((List.eraseIdx_sublist es i).map _), fun b hb => h.2 b (((List.eraseIdx_sublist es i).map _).subset hb)⟩
theorem births_find {es : List MapEntry} {c : Nat} (h : Births es c) (i : Nat) (hi : i < es.length) : es.findIdx? (fun e => (e.born : Int) == ((es[i].born : Nat) : Int)) = some i := by
  rw [List.findIdx?_eq_some_iff_getElem]
  refine ⟨hi, by simp, fun j hj => ?_⟩
  have := List.pairwise_iff_getElem.1 h.1 j i (by simp; omega) (by simp; omega) hj
  simp only [List.getElem_map] at this
  simp
  omega

structure MapIs (w : World) (m : Nat) (K : IntKind) (al : List (Int × Value)) : Prop where
  blk : ∃ es clock, w.heap[m]? = some (.map es clock) ∧ es.toList.map (fun e => (e.key, e.val)) = al.map (fun p => (Value.int K p.1, p.2)) ∧ Births es.toList clock
  nodup : (al.map (·.1)).Nodup
theorem MapIs.lt {w : World} {m : Nat} {K : IntKind} {al : List (Int × Value)} (h : MapIs w m K al) : m < w.heap.size := by
  obtain ⟨es, c, hh, _⟩ := h.blk
  exact (Array.getElem?_eq_some_iff.1 hh).1
theorem MapIs.only {S : Nat → Prop} {a b : World} {m : Nat} {K : IntKind} {al : List (Int × Value)} (h : MapIs a m K al) (ho : Only S a b) (hn : ¬ S m) : MapIs b m K al := by
  obtain ⟨es, c, hh, he⟩ := h.blk
  exact ⟨⟨es, c, (ho.block m h.lt hn).trans hh, he⟩, h.nodup⟩
theorem MapIs.new (w : World) (K : IntKind) : MapIs (w.alloc (.map #[] 0)) w.heap.size K [] := ⟨⟨#[], 0, heap_alloc_new w _, rfl, by simp [Births]⟩, List.nodup_nil⟩

theorem findNow_at (K : IntKind) (x : Int) : ∀ (es : List MapEntry) (al : List (Int × Value)) (i : Nat), es.map (fun e => (e.key, e.val)) = al.map (fun p => (Value.int K p.1, p.2)) →
    ∃ j, Instr.findNow (.int K) (.int K x) es i = some ((getK al x).map fun v => (i + j, v)) ∧ (∀ v, getK al x = some v → ∃ hj : j < es.length, (es.modify j fun e => { e with key := .int K x, val := v }).map (fun e => (e.key, e.val)) = al.map (fun p => (Value.int K p.1, p.2)) ∧
      (∀ u, (es.modify j fun e => { e with key := .int K x, val := u }).map (fun e => (e.key, e.val)) = (updK al x u).map (fun p => (Value.int K p.1, p.2))) ∧ (es.eraseIdx j).map (fun e => (e.key, e.val)) = (delK al x).map (fun p => (Value.int K p.1, p.2)) ∧ (es[j]).key = .int K x)
  | [], [], i, _ => ⟨0, rfl, fun v hv => by simp [getK] at hv⟩
  | [], _ :: _, i, h => by simp at h
  | _ :: _, [], i, h => by simp at h
  | e :: es, p :: al, i, h => by
    simp only [List.map_cons, List.cons.injEq, Prod.mk.injEq] at h
    obtain ⟨⟨hk, hv⟩, hr⟩ := h
    by_cases hx : p.1 = x
    · refine ⟨0, ?_, fun v hg => ⟨by simp, ?_, ?_, ?_, ?_⟩⟩
      · simp [Instr.findNow, Instr.sameNow, hk, hx, getK, hv]
      · simp [getK, hx] at hg
        subst hg
        simp [hr, hx]
      · intro u
        simp [updK, hx, hr]
      · simp [delK, hx, hr]
      · simp [hk, hx]
    · obtain ⟨j, h1, h2⟩ := findNow_at K x es al (i + 1) hr
      have hne : (x == p.1) = false := by simpa using fun e => hx e.symm
      refine ⟨j + 1, ?_, ?_⟩
      · simp only [Instr.findNow, Instr.sameNow, hk, if_true, hne, h1, getK, if_neg hx]
        congr 2
        funext v
        rw [show i + 1 + j = i + (j + 1) by omega]
      · intro v hg
        simp only [getK, if_neg hx] at hg
        obtain ⟨hj, a, b, c, d⟩ := h2 v hg
        refine ⟨by simp; omega, ?_, ?_, ?_, ?_⟩
        · simp [hk, hv, a]
        · intro u
          simp [updK, hx, hk, hv, b u]
        · simp [delK, hx, hk, hv, c]
        · simpa using d

section
variable {P : Program}
theorem findKey_run {kt : TypeId} {K : IntKind} (hk : P.underlying kt = some (.int K)) (x : Int) (es : List MapEntry) (al : List (Int × Value)) (w : World)
    (h : es.map (fun e => (e.key, e.val)) = al.map (fun p => (Value.int K p.1, p.2))) :
    ∃ j, (Instr.findKey kt (.int K x) es).run P w = .ok ((getK al x).map fun v => (j, v)) w ∧ (∀ v, getK al x = some v → ∃ hj : j < es.length,
      (∀ u, (es.modify j fun e => { e with key := .int K x, val := u }).map (fun e => (e.key, e.val)) = (updK al x u).map (fun p => (Value.int K p.1, p.2))) ∧ (es.eraseIdx j).map (fun e => (e.key, e.val)) = (delK al x).map (fun p => (Value.int K p.1, p.2)) ∧ (es[j]).key = .int K x) := by
  obtain ⟨j, h1, h2⟩ := findNow_at K x es al 0 h
  refine ⟨j, ?_, fun v hv => let ⟨hj, _, b, c, d⟩ := h2 v hv; ⟨hj, b, c, d⟩⟩
  simp [Instr.findKey, run_underlying hk, h1]
theorem checkKey_run {kt : TypeId} {K : IntKind} (hk : P.underlying kt = some (.int K)) (b : Bool) (x : Int) (w : World) : (Instr.checkKey b 10000 kt (.int K x)).run P w = .ok () w := by
  have h : ∀ n : Nat, (Instr.checkKey b (n + 1) kt (.int K x)).run P w = .ok () w := fun n => by simp [Instr.checkKey, run_underlying hk]
  exact h 9999
theorem sameBits_int (n : Nat) (K : IntKind) (a : Int) : Instr.sameBits n (.int K a) (.int K a) = true := by
  cases n <;> simp [Instr.sameBits]
theorem getObj_map {w : World} {m : Nat} {es : Array MapEntry} {c : Nat} (h : w.heap[m]? = some (.map es c)) : (getObj m).run P w = .ok (.map es c) w := by
  simp [getObj, Sem.run, h]
theorem run_lookupK {T kt et : TypeId} {K : IntKind} (hT : P.underlying T = some (.map kt et)) (hk : P.underlying kt = some (.int K)) {z : Value} (hz : ∀ w, (zeroValue et).run P w = .ok z w)
    {w : World} {m : Nat} {al : List (Int × Value)} (h : MapIs w m K al) (x : Int) : (Instr.lookup T (.map (some m)) (.int K x) false).run P w = .ok ((getK al x).getD z) w := by
  obtain ⟨es, c, hh, he, hbo⟩ := h.blk
  obtain ⟨j, h1, _⟩ := findKey_run (P := P) hk x es.toList al w he
  simp only [Instr.lookup]
  simp [run_underlying hT, getObj_map hh, checkKey_run hk, h1]
  cases getK al x with
  | none => simp [hz]
  | some v => simp
theorem run_lookupK_ok {T kt et : TypeId} {K : IntKind} (hT : P.underlying T = some (.map kt et)) (hk : P.underlying kt = some (.int K)) {z : Value} (hz : ∀ w, (zeroValue et).run P w = .ok z w)
    {w : World} {m : Nat} {al : List (Int × Value)} (h : MapIs w m K al) (x : Int) : (Instr.lookup T (.map (some m)) (.int K x) true).run P w = .ok (.tuple #[(getK al x).getD z, .bool (getK al x).isSome]) w := by
  obtain ⟨es, c, hh, he, hbo⟩ := h.blk
  obtain ⟨j, h1, _⟩ := findKey_run (P := P) hk x es.toList al w he
  simp only [Instr.lookup]
  simp [run_underlying hT, getObj_map hh, checkKey_run hk, h1]
  cases getK al x with
  | none => simp [hz]
  | some v => simp
theorem run_lookupK_nil {T kt et : TypeId} {K : IntKind} (hT : P.underlying T = some (.map kt et)) (hk : P.underlying kt = some (.int K)) {z : Value} (hz : ∀ w, (zeroValue et).run P w = .ok z w)
    (w : World) (x : Int) : (Instr.lookup T (.map none) (.int K x) false).run P w = .ok z w := by
  simp only [Instr.lookup]
  simp [run_underlying hT, checkKey_run hk, Instr.findKey, run_underlying hk, Instr.findNow, hz]
theorem run_lookupK_nil_ok {T kt et : TypeId} {K : IntKind} (hT : P.underlying T = some (.map kt et)) (hk : P.underlying kt = some (.int K)) {z : Value} (hz : ∀ w, (zeroValue et).run P w = .ok z w)
    (w : World) (x : Int) : (Instr.lookup T (.map none) (.int K x) true).run P w = .ok (.tuple #[z, .bool false]) w := by
  simp only [Instr.lookup]
  simp [run_underlying hT, checkKey_run hk, Instr.findKey, run_underlying hk, Instr.findNow, hz]
theorem setObj_map {w : World} {m : Nat} {es : Array MapEntry} {c : Nat} (h : w.heap[m]? = some (.map es c)) (es' : Array MapEntry) (c' : Nat) :
    (setObj m (.map es' c')).run P w = .ok () { w with heap := w.heap.setIfInBounds m (.map es' c') } := by
  simp [setObj, Sem.run, h]
theorem only_putMap (w : World) (m : Nat) (o : Obj) : Only (fun k => k = m) w { w with heap := w.heap.setIfInBounds m o } :=
  ⟨rfl, rfl, rfl, by simp, fun k _ hn => by
    show (w.heap.setIfInBounds m o)[k]? = w.heap[k]?
    rw [Array.getElem?_setIfInBounds, if_neg (fun e => hn e.symm)]⟩
theorem put_at (w : World) (m : Nat) (o : Obj) (h : m < w.heap.size) : ({ w with heap := w.heap.setIfInBounds m o } : World).heap[m]? = some o := by
  show (w.heap.setIfInBounds m o)[m]? = some o
  rw [Array.getElem?_setIfInBounds, if_pos rfl, if_pos h]
theorem run_updK {T kt et : TypeId} {K : IntKind} (hT : P.underlying T = some (.map kt et)) (hk : P.underlying kt = some (.int K))
    {w : World} {m : Nat} {al : List (Int × Value)} (h : MapIs w m K al) (x : Int) (v : Value) :
    ∃ w', (Instr.mapUpdate T (.map (some m)) (.int K x) v).run P w = .ok () w' ∧ MapIs w' m K (updK al x v) ∧ Only (fun k => k = m) w w' := by
  obtain ⟨es, c, hh, he, hbo⟩ := h.blk
  obtain ⟨j, h1, h2⟩ := findKey_run (P := P) hk x es.toList al w he
  cases hg : getK al x with
  | none =>
    rw [hg] at h1
    refine ⟨{ w with heap := w.heap.setIfInBounds m (.map (es.push { key := .int K x, val := v, born := c }) (c + 1)) }, ?_, ⟨⟨_, _, put_at w m _ h.lt, ?_, by simpa using births_push hbo _ rfl⟩, nodup_upd h.nodup x v⟩, only_putMap w m _⟩
    · simp only [Instr.mapUpdate]
      simp [run_underlying hT, getObj_map hh, checkKey_run hk, h1, setObj_map hh]
    · have hn := getK_none.1 hg
      have e2 : updK al x v = al ++ [(x, v)] := by
        have : ∀ l : List (Int × Value), x ∉ l.map (·.1) → updK l x v = l ++ [(x, v)] := by
          intro l
          induction l with
          | nil => intro _; rfl
          | cons p l ih =>
            intro hx
            simp only [List.map_cons, List.mem_cons, not_or] at hx
            have hne : ¬ p.1 = x := fun e => hx.1 e.symm
            simp only [updK, if_neg hne, ih hx.2, List.cons_append]
        exact this al hn
      rw [e2]
      simp [he]
  | some u =>
    rw [hg] at h1
    obtain ⟨hj, a, _, d⟩ := h2 u hg
    have hj' : j < es.size := by simpa using hj
    refine ⟨{ w with heap := w.heap.setIfInBounds m (.map (es.modify j fun e => { e with key := .int K x, val := v }) c) }, ?_, ⟨⟨_, _, put_at w m _ h.lt, ?_, by have := births_modify hbo j (fun e => { e with key := .int K x, val := v }) (fun _ => rfl); simpa using this⟩, nodup_upd h.nodup x v⟩, only_putMap w m _⟩
    · have hkey : ((es[j]?).map (·.key)).getD (.int K x) = .int K x := by
        rw [Array.getElem?_eq_getElem hj']
        have : es[j].key = .int K x := by simpa using d
        simp [this]
      have hst : ∀ W : World, (Instr.keyThatStays (((es[j]?).map (·.key)).getD (.int K x)) (.int K x)).run P W = .ok (.int K x) W := fun W => by
        rw [hkey]; simp [Instr.keyThatStays, sameBits_int]
      simp only [Instr.mapUpdate]
      simp [run_underlying hT, getObj_map hh, checkKey_run hk, h1]
      rw [hst]
      simp [setObj_map hh]
    · rw [← a v]
      simp
theorem run_delK {T kt et ty : TypeId} {K : IntKind} (hT : P.underlying T = some (.map kt et)) (hk : P.underlying kt = some (.int K))
    {w : World} {m : Nat} {al : List (Int × Value)} (h : MapIs w m K al) (x : Int) {ats : Array TypeId} (hats : ats[0]? = some T) :
    ∃ w', (Builtin.delete_ ats ty #[.map (some m), .int K x]).run P w = .ok (.tuple #[]) w' ∧ MapIs w' m K (delK al x) ∧ Only (fun k => k = m) w w' := by
  obtain ⟨es, c, hh, he, hbo⟩ := h.blk
  obtain ⟨j, h1, h2⟩ := findKey_run (P := P) hk x es.toList al w he
  cases hg : getK al x with
  | none =>
    rw [hg] at h1
    refine ⟨{ w with heap := w.heap.setIfInBounds m (.map es c) }, ?_, ⟨⟨_, _, put_at w m _ h.lt, ?_, hbo⟩, nodup_del h.nodup x⟩, only_putMap w m _⟩
    · simp only [Builtin.delete_]
      simp [hats, run_underlying hT, getObj_map hh, checkKey_run hk, h1, setObj_map hh]
    · have hn := getK_none.1 hg
      have : ∀ l : List (Int × Value), x ∉ l.map (·.1) → delK l x = l := by
        intro l
        induction l with
        | nil => intro _; rfl
        | cons p l ih =>
          intro hx
          simp only [List.map_cons, List.mem_cons, not_or] at hx
          have hne : ¬ p.1 = x := fun e => hx.1 e.symm
          simp only [delK, if_neg hne, ih hx.2]
      rw [this al hn]
      exact he
  | some u =>
    rw [hg] at h1
    obtain ⟨hj, _, b, _⟩ := h2 u hg
    have hj' : j < es.size := by simpa using hj
    refine ⟨{ w with heap := w.heap.setIfInBounds m (.map (es.eraseIdxIfInBounds j) c) }, ?_, ⟨⟨_, _, put_at w m _ h.lt, ?_, by simpa [Array.eraseIdxIfInBounds, hj'] using births_erase hbo j⟩, nodup_del h.nodup x⟩, only_putMap w m _⟩
    · simp only [Builtin.delete_]
      simp [hats, run_underlying hT, getObj_map hh, checkKey_run hk, h1, setObj_map hh]
    · rw [← b]
      simp [Array.eraseIdxIfInBounds, hj']
theorem run_lenK {T kt et ty : TypeId} {K : IntKind} (hT : P.underlying T = some (.map kt et)) {w : World} {m : Nat} {al : List (Int × Value)} (h : MapIs w m K al) {ats : Array TypeId} (hats : ats[0]? = some T) :
    (Builtin.len_ ats ty #[.map (some m)]).run P w = .ok (.int .i64 al.length) w := by
  obtain ⟨es, c, hh, he, hbo⟩ := h.blk
  have hl : es.size = al.length := by
    have := congrArg List.length he
    simpa using this
  simp only [Builtin.len_]
  simp [hats, run_underlying hT, getObj_map hh, goInt, hl]
theorem run_lenK_nil {T kt et ty : TypeId} (hT : P.underlying T = some (.map kt et)) (w : World) {ats : Array TypeId} (hats : ats[0]? = some T) :
    (Builtin.len_ ats ty #[.map none]).run P w = .ok (.int .i64 0) w := by
  simp only [Builtin.len_]
  simp [hats, run_underlying hT, goInt]
/-- An entry is made ready, and stored into later: the map then holds the pair. -/
theorem run_entryK {T kt et : TypeId} {K : IntKind} (hT : P.underlying T = some (.map kt et)) (hk : P.underlying kt = some (.int K)) {z : Value} (hz : ∀ w, (zeroValue et).run P w = .ok z w)
    {w : World} {m : Nat} {al : List (Int × Value)} (h : MapIs w m K al) (x : Int) :
    ∃ w1 st u, (Instr.mapEntry T (.map (some m)) (.int K x)).run P w = .ok (.tuple #[u, .int .i64 st]) w1 ∧ Only (fun k => k = m) w w1 ∧
      ∀ w2 : World, w2.heap[m]? = w1.heap[m]? → ∀ v, ∃ w3, (Instr.entryStore T (.map (some m)) (.int .i64 st) v).run P w2 = .ok () w3 ∧ MapIs w3 m K (updK al x v) ∧ Only (fun k => k = m) w2 w3 := by
  obtain ⟨es, c, hh, he, hbo⟩ := h.blk
  obtain ⟨j, h1, h2⟩ := findKey_run (P := P) hk x es.toList al w he
  cases hg : getK al x with
  | none =>
    rw [hg] at h1
    have e2 : ∀ v, updK al x v = al ++ [(x, v)] := by
      have hn := getK_none.1 hg
      have : ∀ v, ∀ l : List (Int × Value), x ∉ l.map (·.1) → updK l x v = l ++ [(x, v)] := by
        intro v l
        induction l with
        | nil => intro _; rfl
        | cons p l ih =>
          intro hx
          simp only [List.map_cons, List.mem_cons, not_or] at hx
          have hne : ¬ p.1 = x := fun e => hx.1 e.symm
          simp only [updK, if_neg hne, ih hx.2, List.cons_append]
      exact fun v => this v al hn
    refine ⟨{ w with heap := w.heap.setIfInBounds m (.map (es.push { key := .int K x, val := z, born := c }) (c + 1)) }, c, z, ?_, only_putMap w m _, ?_⟩
    · simp only [Instr.mapEntry]
      simp [run_underlying hT, getObj_map hh, checkKey_run hk, h1, setObj_map hh, hz, goInt]
    · intro w2 hw2 v
      rw [put_at w m _ h.lt] at hw2
      have hlt2 : m < w2.heap.size := (Array.getElem?_eq_some_iff.1 hw2).1
      have hb2 : Births (es.toList ++ [{ key := .int K x, val := z, born := c }]) (c + 1) := births_push hbo _ rfl
      have hf := births_find hb2 es.size (by simp)
      have hf' : (es.push { key := .int K x, val := z, born := c }).findIdx? (fun e => (e.born : Int) == (c : Int)) = some es.size := by
        rw [findIdx_list]
        simp only [Array.toList_push]
        have : (es.toList ++ [({ key := .int K x, val := z, born := c } : MapEntry)])[es.size]'(by simp) = { key := .int K x, val := z, born := c } := by simp [List.getElem_append_right]
        rw [this] at hf
        simpa using hf
      refine ⟨{ w2 with heap := w2.heap.setIfInBounds m (.map ((es.push { key := .int K x, val := z, born := c }).modify es.size fun e => { e with val := v }) (c + 1)) }, ?_, ⟨⟨_, _, put_at w2 m _ hlt2, ?_, ?_⟩, nodup_upd h.nodup x v⟩, only_putMap w2 m _⟩
      · simp only [Instr.entryStore]
        simp [getObj_map hw2, asInt, asIntOf, hf', setObj_map hw2]
      · rw [e2 v]
        simp [he, mod_last']
      · have := births_modify hb2 es.size (fun e => { e with val := v }) (fun _ => rfl)
        simpa using this
  | some u =>
    rw [hg] at h1
    obtain ⟨hj, a, _, d⟩ := h2 u hg
    have hj' : j < es.size := by simpa using hj
    have hd : es[j].key = .int K x := by simpa using d
    have hkey : ((es[j]?).map (·.key)).getD (.int K x) = .int K x := by
      rw [Array.getElem?_eq_getElem hj']
      simp [hd]
    have hst : ∀ W : World, (Instr.keyThatStays (((es[j]?).map (·.key)).getD (.int K x)) (.int K x)).run P W = .ok (.int K x) W := fun W => by
      rw [hkey]; simp [Instr.keyThatStays, sameBits_int]
    refine ⟨{ w with heap := w.heap.setIfInBounds m (.map (es.modify j fun e => { e with key := .int K x }) c) }, es[j].born, u, ?_, only_putMap w m _, ?_⟩
    · simp only [Instr.mapEntry]
      simp [run_underlying hT, getObj_map hh, checkKey_run hk, h1]
      rw [hst]
      simp [setObj_map hh, goInt, Array.getElem?_eq_getElem hj']
    · intro w2 hw2 v
      rw [put_at w m _ h.lt] at hw2
      have hlt2 : m < w2.heap.size := (Array.getElem?_eq_some_iff.1 hw2).1
      have hb2 : Births (es.toList.modify j fun e => { e with key := .int K x }) c := births_modify hbo j _ (fun _ => rfl)
      have hf := births_find hb2 j (by simpa using hj')
      have hf' : (es.modify j fun e => { e with key := .int K x }).findIdx? (fun e => (e.born : Int) == (es[j].born : Int)) = some j := by
        rw [findIdx_list]
        simp only [Array.toList_modify]
        simpa [List.getElem_modify] using hf
      refine ⟨{ w2 with heap := w2.heap.setIfInBounds m (.map ((es.modify j fun e => { e with key := .int K x }).modify j fun e => { e with val := v }) c) }, ?_, ⟨⟨_, _, put_at w2 m _ hlt2, ?_, ?_⟩, nodup_upd h.nodup x v⟩, only_putMap w2 m _⟩
      · simp only [Instr.entryStore]
        simp [getObj_map hw2, asInt, asIntOf, hf', setObj_map hw2]
      · rw [← a v]
        simp [List.modify_modify_eq, Function.comp_def]
      · have := births_modify hb2 j (fun e => { e with val := v }) (fun _ => rfl)
        simpa using this
end
end Go.Proofs.Ytnkbbjeepdjamaa
/- A range over a function, for whatever invariants: the statement out of its iterator's contract and its body's walk. Conditions: the loop is an outermost one; the body keeps the loop's two blocks. -/
namespace Go.Proofs.Ytnkbbjeepdjamaa
open Go.RowKit
variable {F : Fence} {n : Nat} {P : Program}

theorem Only.putObj (W : World) (r : Nat) (o : Obj) : Only (fun k => k = r) W (W.putObj r o) :=
  ⟨rfl, rfl, rfl, by simp, fun _ _ hn => World.putObj_heap_other hn⟩

/-- The loop's record. -/
def rfRec (fn : FuncId) (tmps : Array Value) (ps : Array Tmp) (assign body : Code) (D : Nat) (st : LoopState) (pe : Option Code) : Loop :=
  { state := st, pending := pe, fn, tmps, params := ps, assign, body, defers := D }

/-- What a body's way out owes: the loop's two blocks lie as they lay; the invariant. -/
def rfPost (D : Nat) (I : World → Prop) (Ix : Code → World → Prop) (W : World) : Exit → Act → World → Prop
  | .normal, _, W' => W'.heap[D]? = W.heap[D]? ∧ W'.heap[D + 1]? = W.heap[D + 1]? ∧ I W'
  | .ret, _, W' => W'.heap[D]? = W.heap[D]? ∧ W'.heap[D + 1]? = W.heap[D + 1]? ∧ Ix .ret W'
  | .exit id, _, W' => W'.heap[D]? = W.heap[D]? ∧ W'.heap[D + 1]? = W.heap[D + 1]? ∧ Ix (.exit id) W'
  | .goto t, _, W' => W'.heap[D]? = W.heap[D]? ∧ W'.heap[D + 1]? = W.heap[D + 1]? ∧ Ix (.goto t) W'
  | .panic _, _, _ => False
  | .outgrown, _, _ => False

/-- ONE ROUND, out of the walks of the assignments and of the body. -/
theorem yield_rf {fn : FuncId} {tmps : Array Value} {ps : Array Tmp} {assign body : Code} {D : Nat} {W : World} {args : Array Value} (hF : F.fn fn) (hps : args.size = ps.size)
    (hk : W.heap[D]? = some (.deferred (some []))) (hl : W.heap[D + 1]? = some (.loop (rfRec fn tmps ps assign body D .ready none)))
    (I0 I1 : World → Prop) (Ix : Code → World → Prop) (hI0 : ∀ A B, I0 A → Only (fun j => j = D + 1) A B → I0 B) (hI1 : ∀ A B, I1 A → Only (fun j => j = D + 1) A B → I1 B) (hIx : ∀ c A B, Ix c A → Only (fun j => j = D + 1) A B → Ix c B) (h0 : I0 W)
    (Ax : Act → World → Prop) (hAx : ∀ a' A B, Ax a' A → Only (fun j => j = D + 1) A B → Ax a' B)
    (hassign : ∀ (K : Act → World → Prop), (∀ a' W', Only (fun _ => False) W W' → Ax a' W' → K a' W') →
      assign.wpIn (F.inRound (D + 1)) n P (Exit.then K (fun _ _ _ => False)) { tmps := (ps.zip args).foldl (fun t (p, v) => t.setIfInBounds p v) tmps, defers := [] } W)
    (hbody : ∀ (a' : Act) (W' : World), I0 W' → Ax a' W' → W'.heap[D]? = some (.deferred (some [])) → (∃ r, W'.heap[D + 1]? = some (.loop r)) → body.wpIn (F.inRound (D + 1)) n P (rfPost D I1 Ix W') a' W') :
    YieldAt F n P (D + 1) args W fun e W' =>
      (e = .returned (.bool true) ∧ I1 W' ∧ W'.heap[D]? = some (.deferred (some [])) ∧ W'.heap[D + 1]? = some (.loop (rfRec fn tmps ps assign body D .ready none))) ∨
      (e = .returned (.bool false) ∧ ∃ c, Ix c W' ∧ W'.heap[D]? = some (.deferred (some [])) ∧ W'.heap[D + 1]? = some (.loop (rfRec fn tmps ps assign body D .done (some c)))) := by
  refine ⟨fn, _, assign, body, run_yield hl hps, roundIn_of_wpIn hF (hassign _ ?_)⟩
  intro a' Wa hoa hax
  have hlW : D + 1 < W.heap.size := (Array.getElem?_eq_some_iff.1 hl).1
  have hla := (hoa.block (D + 1) hlW id).trans hl
  have hka := (hoa.block D (by omega) id).trans hk
  have hlt : D + 1 < Wa.heap.size := (Array.getElem?_eq_some_iff.1 hla).1
  have hia := hI0 _ _ h0 (hoa.mono (fun _ _ h => h.elim))
  have hob := Only.putObj Wa (D + 1) (.loop { rfRec fn tmps ps assign body D .ready none with state := .busy })
  refine ⟨_, run_beginRound hla rfl, ?_⟩
  have hl2 : (Wa.putObj (D + 1) (.loop { rfRec fn tmps ps assign body D .ready none with state := .busy })).heap[D + 1]? = some (.loop { rfRec fn tmps ps assign body D .ready none with state := .busy }) := World.putObj_heap_same hlt
  have hk2 : (Wa.putObj (D + 1) (.loop { rfRec fn tmps ps assign body D .ready none with state := .busy })).heap[D]? = some (.deferred (some [])) := (World.putObj_heap_other (by omega)).trans hka
  refine wpIn_mono (hbody a' _ (hI0 _ _ hia hob) (hAx _ _ _ hax hob) hk2 ⟨_, hl2⟩) ?_
  have fin : ∀ (jump : Option Code) (W3 : World), W3.heap[D]? = some (.deferred (some [])) → W3.heap[D + 1]? = some (.loop { rfRec fn tmps ps assign body D .ready none with state := .busy }) →
      (Instr.endRound (D + 1) jump).run P W3 = .ok (.bool jump.isNone) (W3.putObj (D + 1) (.loop (rfRec fn tmps ps assign body D (if jump.isNone then .ready else .done) jump))) ∧
      (W3.putObj (D + 1) (.loop (rfRec fn tmps ps assign body D (if jump.isNone then .ready else .done) jump))).heap[D]? = some (.deferred (some [])) ∧
      (W3.putObj (D + 1) (.loop (rfRec fn tmps ps assign body D (if jump.isNone then .ready else .done) jump))).heap[D + 1]? = some (.loop (rfRec fn tmps ps assign body D (if jump.isNone then .ready else .done) jump)) := fun jump W3 h1 h2 =>
    ⟨run_endRound jump h2, (World.putObj_heap_other (by omega)).trans h1, World.putObj_heap_same (Array.getElem?_eq_some_iff.1 h2).1⟩
  rintro e a3 W3 hp
  cases e with
  | normal =>
    obtain ⟨hd3, hl3, hi3⟩ := hp
    obtain ⟨hr, hk4, hl4⟩ := fin none W3 (hd3.trans hk2) (hl3.trans hl2)
    exact ⟨_, _, hr, .inl ⟨rfl, hI1 _ _ hi3 (Only.putObj _ _ _), hk4, hl4⟩⟩
  | ret =>
    obtain ⟨hd3, hl3, hi3⟩ := hp
    obtain ⟨hr, hk4, hl4⟩ := fin (some .ret) W3 (hd3.trans hk2) (hl3.trans hl2)
    exact ⟨_, _, hr, .inr ⟨rfl, .ret, hIx _ _ _ hi3 (Only.putObj _ _ _), hk4, hl4⟩⟩
  | exit id =>
    obtain ⟨hd3, hl3, hi3⟩ := hp
    obtain ⟨hr, hk4, hl4⟩ := fin (some (.exit id)) W3 (hd3.trans hk2) (hl3.trans hl2)
    exact ⟨_, _, hr, .inr ⟨rfl, .exit id, hIx _ _ _ hi3 (Only.putObj _ _ _), hk4, hl4⟩⟩
  | goto t =>
    obtain ⟨hd3, hl3, hi3⟩ := hp
    obtain ⟨hr, hk4, hl4⟩ := fin (some (.goto t)) W3 (hd3.trans hk2) (hl3.trans hl2)
    exact ⟨_, _, hr, .inr ⟨rfl, .goto t, hIx _ _ _ hi3 (Only.putObj _ _ _), hk4, hl4⟩⟩
  | panic ch => exact hp.elim
  | outgrown => exact hp.elim

/-- THE STATEMENT, out of the call of its iterator. -/
theorem wpIn_rf {g : Operand} {ps : Array Tmp} {assign body : Code} {Q : Exit → Act → World → Prop} {a : Act} {w : World}
    (hro : F.round = none) (h1 : 1 ≤ n) {gf : Nat} {lb : Array Value} (hg : a.eval g = .func (.func gf) #[] lb) (hFg : F.fn gf) (eg : ∀ args w, (callFunc gf args).run P w = .ok (.enter gf args) w)
    (h : ∀ (fn : FuncId) (W1 : World), F.fn fn → Only (fun _ => False) w W1 → W1.heap[w.heap.size]? = some (.deferred (some [])) → W1.heap[w.heap.size + 1]? = some (.loop (rfRec fn a.tmps ps assign body w.heap.size .ready none)) →
      CallsIn F (n - 1) P gf (#[.func (.yield (w.heap.size + 1)) #[] #[]] ++ lb) W1 fun e W2 => (∃ v, e = .returned v) ∧ ∃ st jump, st ≠ LoopState.busy ∧
        W2.heap[w.heap.size]? = some (.deferred (some [])) ∧ W2.heap[w.heap.size + 1]? = some (.loop (rfRec fn a.tmps ps assign body w.heap.size st jump)) ∧
        ∀ W3, Only (fun k => k = w.heap.size + 1) W2 W3 → W3.heap[w.heap.size]? = some (.deferred (some [])) →
          (match jump with
           | none => Q .normal { a with defers := { target := .collected w.heap.size, args := #[] } :: a.defers } W3
           | some c => c.wpIn F n P Q { a with defers := { target := .collected w.heap.size, args := #[] } :: a.defers } W3)) :
    (Code.rangeFunc g ps assign body).wpIn F n P Q a w := by
  refine wpIn_rangeFunc ?_
  intro fn hfn
  rw [hro]
  obtain ⟨W1, hW1⟩ : ∃ W1, (w.alloc (.deferred (some []))).alloc (.loop (rfRec fn a.tmps ps assign body w.heap.size .ready none)) = W1 := ⟨_, rfl⟩
  have hL1 : W1.heap[w.heap.size + 1]? = some (.loop (rfRec fn a.tmps ps assign body w.heap.size .ready none)) := by
    rw [← hW1]; have := World.alloc_heap_new (w.alloc (.deferred (some []))) (.loop (rfRec fn a.tmps ps assign body w.heap.size .ready none)); rwa [World.size_alloc] at this
  have hK1 : W1.heap[w.heap.size]? = some (.deferred (some [])) := by
    rw [← hW1]; exact (Below.heap_alloc _ _ _ (by simp)).trans (World.alloc_heap_new w _)
  have hO1 : Only (fun _ => False) w W1 := by
    rw [← hW1]; exact (Only.alloc _ w _).trans (Only.alloc (fun _ => False) _ _) (fun _ _ => id)
  refine ⟨w.heap.size + 1, [{ target := .collected w.heap.size, args := #[] }], W1, { target := .fn (.func gf) lb, args := #[.func (.yield (w.heap.size + 1)) #[] #[]] }, W1, gf,
    #[.func (.yield (w.heap.size + 1)) #[] #[]] ++ lb, W1, ?_, ?_, ?_, ?_, fun _ => h1, ?_⟩
  · rw [← hW1]; exact run_enterLoop_outer _ _ _ _ _
  · simp only [resolve, hg]
    simp [go_sem]
  · intro f' hf'; simp [Target.leads] at hf'; subst hf'; exact hFg
  · simp [invoke, go_sem, eg]
  · refine (h fn W1 hfn hO1 hK1 hL1).mono ?_
    rintro e W2 ⟨⟨v, rfl⟩, st, jump, hst, hk, hl, hQ⟩
    exact ⟨jump, _, run_endLoop hl hst, hQ _ (Only.putObj _ _ _) ((World.putObj_heap_other (by omega)).trans hk)⟩

/-- THE STATEMENT over an iterator that takes N steps: 'encs k' comes at step k; 'Rd': what the iterator reads between two rounds. -/
theorem wpIn_rf_steps {g : Operand} {ps : Array Tmp} {assign body : Code} {Q : Exit → Act → World → Prop} {a : Act} {w : World}
    (hro : F.round = none) (h1 : 1 ≤ n) {gf : Nat} {lb : Array Value} (hg : a.eval g = .func (.func gf) #[] lb) (hFg : F.fn gf) (eg : ∀ args w, (callFunc gf args).run P w = .ok (.enter gf args) w)
    {encs : Nat → Array Value} {N : Nat} (hps : ∀ k, (encs k).size = ps.size) {Rd : World → Prop}
    (hseq : ∀ (J Jx : Nat → World → Prop), (∀ k W, J k W → Rd W) →
      (∀ k W, k < N → J k W → YieldAt F (n - 1 - 1) P (w.heap.size + 1) (encs k) W fun e W' => (e = .returned (.bool true) ∧ J (k + 1) W') ∨ (e = .returned (.bool false) ∧ Jx (k + 1) W')) →
      ∀ W, J 0 W → CallsIn F (n - 1) P gf (#[.func (.yield (w.heap.size + 1)) #[] #[]] ++ lb) W fun e W' => (∃ v, e = .returned v) ∧ (J N W' ∨ ∃ k, Jx k W'))
    (I : Nat → World → Prop) (Ix : Code → Nat → World → Prop) (hRd : ∀ k W, I k W → Rd W)
    (hI : ∀ k A B, I k A → Only (fun j => j = w.heap.size + 1) A B → I k B) (hIx : ∀ c k A B, Ix c k A → Only (fun j => j = w.heap.size + 1) A B → Ix c k B)
    (h0 : ∀ W, Only (fun _ => False) w W → w.heap.size + 1 < W.heap.size → I 0 W)
    (Ax : Nat → Act → World → Prop) (hAx : ∀ k a' A B, Ax k a' A → Only (fun j => j = w.heap.size + 1) A B → Ax k a' B)
    (hassign : ∀ (k : Nat) (W : World) (K : Act → World → Prop), k < N → I k W → w.heap.size + 1 < W.heap.size → (∀ a' W', Only (fun _ => False) W W' → Ax k a' W' → K a' W') →
      assign.wpIn (F.inRound (w.heap.size + 1)) (n - 1 - 1) P (Exit.then K (fun _ _ _ => False)) { tmps := (ps.zip (encs k)).foldl (fun t (p, v) => t.setIfInBounds p v) a.tmps, defers := [] } W)
    (hbody : ∀ (k : Nat) (a' : Act) (W : World), k < N → I k W → Ax k a' W → W.heap[w.heap.size]? = some (.deferred (some [])) → (∃ r, W.heap[w.heap.size + 1]? = some (.loop r)) →
      body.wpIn (F.inRound (w.heap.size + 1)) (n - 1 - 1) P (rfPost w.heap.size (I (k + 1)) (fun c => Ix c (k + 1)) W) a' W)
    (hdone : ∀ W, I N W → W.heap[w.heap.size]? = some (.deferred (some [])) → Q .normal { a with defers := { target := .collected w.heap.size, args := #[] } :: a.defers } W)
    (hstop : ∀ c k W, Ix c k W → W.heap[w.heap.size]? = some (.deferred (some [])) → c.wpIn F n P Q { a with defers := { target := .collected w.heap.size, args := #[] } :: a.defers } W) :
    (Code.rangeFunc g ps assign body).wpIn F n P Q a w := by
  refine wpIn_rf hro h1 hg hFg eg ?_
  intro fn W1 hfn hO hk hl
  refine (hseq (fun k W => I k W ∧ W.heap[w.heap.size]? = some (.deferred (some [])) ∧ W.heap[w.heap.size + 1]? = some (.loop (rfRec fn a.tmps ps assign body w.heap.size .ready none)))
    (fun k W => ∃ c, Ix c k W ∧ W.heap[w.heap.size]? = some (.deferred (some [])) ∧ W.heap[w.heap.size + 1]? = some (.loop (rfRec fn a.tmps ps assign body w.heap.size .done (some c))))
    (fun k W h => hRd k W h.1) ?_ W1 ⟨h0 W1 hO (Array.getElem?_eq_some_iff.1 hl).1, hk, hl⟩).mono ?_
  · rintro k W hkN ⟨hi, hk', hl'⟩
    exact yield_rf hfn (hps k) hk' hl' (I k) (I (k + 1)) (fun c => Ix c (k + 1)) (hI k) (hI (k + 1)) (fun c => hIx c (k + 1)) hi (Ax k) (hAx k)
      (fun K hK => hassign k W K hkN hi (Array.getElem?_eq_some_iff.1 hl').1 hK) (fun a' W' h1 h2 h3 h4 => hbody k a' W' hkN h1 h2 h3 h4)
  · rintro e W2 ⟨hv, (⟨hi, hk', hl'⟩ | ⟨k, c, hx, hk', hl'⟩)⟩
    · exact ⟨hv, .ready, none, by simp, hk', hl', fun W3 hO3 hk3 => hdone W3 (hI _ _ _ hi hO3) hk3⟩
    · exact ⟨hv, .done, some c, by simp, hk', hl', fun W3 hO3 hk3 => hstop c k W3 (hIx _ _ _ _ hx hO3) hk3⟩

/-- An append whose run is known, in a fenced walk. -/
theorem wpListIn_append_run (w : World) {ops : Array Oper} {rest : List Oper} {o : Oper} {a : Act} {Q : Exit → Act → World → Prop} (hg : o.guard = none) (s x : Operand) (t tn : TypeId)
    (hop : o.op = .call { callee := .builtin .append, args := #[s, x], argTypes := #[t, tn] }) (vs vx : Value) (hs : a.eval s = vs) (hx : a.eval x = vx)
    (v' : Value) (w' : World) (hrun : (Builtin.append_ #[t, tn] o.type #[vs, vx]).run P w = .ok v' w') (h : wpListIn F n P ops Q rest (a.put o.dst v') w') : wpListIn F n P ops Q (o :: rest) a w := by
  refine wpListIn_plain hg fun K hK' => ?_
  unfold Oper.wpIn
  refine ⟨?_, ?_⟩
  · simp [Oper.about, hop, resolve, Target.leads, Sem.run_pure]
  · rw [Oper.semAt_plain F _ _ (by rw [hop]; intro c hc'; cases hc')]
    simp [execOp, hop, resolve, invoke, builtin, hs, hx, hrun, Result.andThen]
    exact hK' _ _ h
end Go.Proofs.Ytnkbbjeepdjamaa
/- A range over a function, for whatever iterator: its states are told by the caller; outermost, or within a round of another one. Conditions: the body keeps the loop's own blocks. -/
namespace Go.Proofs.Ytnkbbjeepdjamaa
open Go.RowKit
variable {F : Fence} {n : Nat} {P : Program}

/-- What a body's way out owes: the loop's block lies as it lay; the invariant. -/
def rgPost (L : Nat) (I : World → Prop) (Ix : Code → World → Prop) (W : World) : Exit → Act → World → Prop
  | .normal, _, W' => W'.heap[L]? = W.heap[L]? ∧ I W'
  | .ret, _, W' => W'.heap[L]? = W.heap[L]? ∧ Ix .ret W'
  | .exit id, _, W' => W'.heap[L]? = W.heap[L]? ∧ Ix (.exit id) W'
  | .goto t, _, W' => W'.heap[L]? = W.heap[L]? ∧ Ix (.goto t) W'
  | .panic _, _, _ => False
  | .outgrown, _, _ => False
theorem rgPost.of_rf {D : Nat} {I I' : World → Prop} {Ix Ix' : Code → World → Prop} {W : World} (h1 : ∀ W', I W' → W'.heap[D]? = W.heap[D]? → I' W') (h2 : ∀ c W', Ix c W' → W'.heap[D]? = W.heap[D]? → Ix' c W') :
    ∀ e a W', rfPost D I Ix W e a W' → rgPost (D + 1) I' Ix' W e a W' := by
  intro e a W' h
  cases e with
  | normal => exact ⟨h.2.1, h1 _ h.2.2 h.1⟩
  | ret => exact ⟨h.2.1, h2 _ _ h.2.2 h.1⟩
  | exit id => exact ⟨h.2.1, h2 _ _ h.2.2 h.1⟩
  | goto t => exact ⟨h.2.1, h2 _ _ h.2.2 h.1⟩
  | panic ch => exact h.elim
  | outgrown => exact h.elim

/-- ONE ROUND. -/
theorem yield_rg {fn : FuncId} {tmps : Array Value} {ps : Array Tmp} {assign body : Code} {D L : Nat} {W : World} {args : Array Value} (hF : F.fn fn) (hps : args.size = ps.size)
    (hl : W.heap[L]? = some (.loop (rfRec fn tmps ps assign body D .ready none)))
    (I0 I1 : World → Prop) (Ix : Code → World → Prop) (hI0 : ∀ A B, I0 A → Only (fun j => j = L) A B → I0 B) (hI1 : ∀ A B, I1 A → Only (fun j => j = L) A B → I1 B) (hIx : ∀ c A B, Ix c A → Only (fun j => j = L) A B → Ix c B) (h0 : I0 W)
    (Ax : Act → World → Prop) (hAx : ∀ a' A B, Ax a' A → Only (fun j => j = L) A B → Ax a' B)
    (hassign : ∀ (K : Act → World → Prop), (∀ a' W', Only (fun _ => False) W W' → Ax a' W' → K a' W') →
      assign.wpIn (F.inRound L) n P (Exit.then K (fun _ _ _ => False)) { tmps := (ps.zip args).foldl (fun t (p, v) => t.setIfInBounds p v) tmps, defers := [] } W)
    (hbody : ∀ (a' : Act) (W' : World), I0 W' → Ax a' W' → (∃ r : Loop, r.defers = D ∧ W'.heap[L]? = some (.loop r)) → body.wpIn (F.inRound L) n P (rgPost L I1 Ix W') a' W') :
    YieldAt F n P L args W fun e W' =>
      (e = .returned (.bool true) ∧ I1 W' ∧ W'.heap[L]? = some (.loop (rfRec fn tmps ps assign body D .ready none))) ∨
      (e = .returned (.bool false) ∧ ∃ c, Ix c W' ∧ W'.heap[L]? = some (.loop (rfRec fn tmps ps assign body D .done (some c)))) := by
  refine ⟨fn, _, assign, body, run_yield hl hps, roundIn_of_wpIn hF (hassign _ ?_)⟩
  intro a' Wa hoa hax
  have hlW : L < W.heap.size := (Array.getElem?_eq_some_iff.1 hl).1
  have hla := (hoa.block L hlW id).trans hl
  have hlt : L < Wa.heap.size := (Array.getElem?_eq_some_iff.1 hla).1
  have hia := hI0 _ _ h0 (hoa.mono (fun _ _ h => h.elim))
  have hob := Only.putObj Wa L (.loop { rfRec fn tmps ps assign body D .ready none with state := .busy })
  refine ⟨_, run_beginRound hla rfl, ?_⟩
  have hl2 : (Wa.putObj L (.loop { rfRec fn tmps ps assign body D .ready none with state := .busy })).heap[L]? = some (.loop { rfRec fn tmps ps assign body D .ready none with state := .busy }) := World.putObj_heap_same hlt
  refine wpIn_mono (hbody a' _ (hI0 _ _ hia hob) (hAx _ _ _ hax hob) ⟨_, rfl, hl2⟩) ?_
  have fin : ∀ (jump : Option Code) (W3 : World), W3.heap[L]? = some (.loop { rfRec fn tmps ps assign body D .ready none with state := .busy }) →
      (Instr.endRound L jump).run P W3 = .ok (.bool jump.isNone) (W3.putObj L (.loop (rfRec fn tmps ps assign body D (if jump.isNone then .ready else .done) jump))) ∧
      (W3.putObj L (.loop (rfRec fn tmps ps assign body D (if jump.isNone then .ready else .done) jump))).heap[L]? = some (.loop (rfRec fn tmps ps assign body D (if jump.isNone then .ready else .done) jump)) := fun jump W3 h2 =>
    ⟨run_endRound jump h2, World.putObj_heap_same (Array.getElem?_eq_some_iff.1 h2).1⟩
  rintro e a3 W3 hp
  cases e with
  | normal =>
    obtain ⟨hl3, hi3⟩ := hp
    obtain ⟨hr, hl4⟩ := fin none W3 (hl3.trans hl2)
    exact ⟨_, _, hr, .inl ⟨rfl, hI1 _ _ hi3 (Only.putObj _ _ _), hl4⟩⟩
  | ret =>
    obtain ⟨hl3, hi3⟩ := hp
    obtain ⟨hr, hl4⟩ := fin (some .ret) W3 (hl3.trans hl2)
    exact ⟨_, _, hr, .inr ⟨rfl, .ret, hIx _ _ _ hi3 (Only.putObj _ _ _), hl4⟩⟩
  | exit id =>
    obtain ⟨hl3, hi3⟩ := hp
    obtain ⟨hr, hl4⟩ := fin (some (.exit id)) W3 (hl3.trans hl2)
    exact ⟨_, _, hr, .inr ⟨rfl, .exit id, hIx _ _ _ hi3 (Only.putObj _ _ _), hl4⟩⟩
  | goto t =>
    obtain ⟨hl3, hi3⟩ := hp
    obtain ⟨hr, hl4⟩ := fin (some (.goto t)) W3 (hl3.trans hl2)
    exact ⟨_, _, hr, .inr ⟨rfl, .goto t, hIx _ _ _ hi3 (Only.putObj _ _ _), hl4⟩⟩
  | panic ch => exact hp.elim
  | outgrown => exact hp.elim

/-- THE STATEMENT WITHIN A ROUND, out of the call of its iterator. -/
theorem wpIn_rf_inner {g : Operand} {ps : Array Tmp} {assign body : Code} {Q : Exit → Act → World → Prop} {a : Act} {w : World} {l₀ : Nat} {r₀ : Loop}
    (hro : F.round = some l₀) (hr0 : w.heap[l₀]? = some (.loop r₀)) (h1 : 1 ≤ n) {gf : Nat} {lb : Array Value} (hg : a.eval g = .func (.func gf) #[] lb) (hFg : F.fn gf) (eg : ∀ args w, (callFunc gf args).run P w = .ok (.enter gf args) w)
    (h : ∀ (fn : FuncId) (W1 : World), F.fn fn → Only (fun _ => False) w W1 → W1.heap[w.heap.size]? = some (.loop (rfRec fn a.tmps ps assign body r₀.defers .ready none)) →
      CallsIn F (n - 1) P gf (#[.func (.yield w.heap.size) #[] #[]] ++ lb) W1 fun e W2 => (∃ v, e = .returned v) ∧ ∃ st jump, st ≠ LoopState.busy ∧
        W2.heap[w.heap.size]? = some (.loop (rfRec fn a.tmps ps assign body r₀.defers st jump)) ∧
        ∀ W3, Only (fun k => k = w.heap.size) W2 W3 →
          (match jump with
           | none => Q .normal a W3
           | some c => c.wpIn F n P Q a W3)) :
    (Code.rangeFunc g ps assign body).wpIn F n P Q a w := by
  refine wpIn_rangeFunc ?_
  intro fn hfn
  rw [hro]
  obtain ⟨W1, hW1⟩ : ∃ W1, w.alloc (.loop (rfRec fn a.tmps ps assign body r₀.defers .ready none)) = W1 := ⟨_, rfl⟩
  have hL1 : W1.heap[w.heap.size]? = some (.loop (rfRec fn a.tmps ps assign body r₀.defers .ready none)) := by
    rw [← hW1]; exact World.alloc_heap_new w _
  have hO1 : Only (fun _ => False) w W1 := by rw [← hW1]; exact Only.alloc _ w _
  refine ⟨w.heap.size, [], W1, { target := .fn (.func gf) lb, args := #[.func (.yield w.heap.size) #[] #[]] }, W1, gf,
    #[.func (.yield w.heap.size) #[] #[]] ++ lb, W1, ?_, ?_, ?_, ?_, fun _ => h1, ?_⟩
  · rw [← hW1]; exact run_enterLoop_inner hr0 _ _ _ _ _
  · simp only [resolve, hg]
    simp [go_sem]
  · intro f' hf'; simp [Target.leads] at hf'; subst hf'; exact hFg
  · simp [invoke, go_sem, eg]
  · refine (h fn W1 hfn hO1 hL1).mono ?_
    rintro e W2 ⟨⟨v, rfl⟩, st, jump, hst, hl, hQ⟩
    exact ⟨jump, _, run_endLoop hl hst, hQ _ (Only.putObj _ _ _)⟩

/-- What an iterator's contract says: from state s on; 'Mv': what it does ahead of a round; 'Nx': what states a round may leave; 'Fin': where it ends. -/
def Iter (F : Fence) (n : Nat) (P : Program) (gf : Nat) (lb : Array Value) (L : Nat) {σ : Type} (enc : σ → Array Value) (Mv : σ → World → World → Prop) (Nx : σ → σ → Prop) (Fin : σ → Prop) (J : σ → World → Prop) (s0 : σ) : Prop :=
  ∀ (J' Yd' : σ → World → Prop) (Jx' : World → Prop), (∀ s W, J' s W → J s W) → (∀ s A B, J' s A → Only (fun _ => False) A B → J' s B) → (∀ s A B, J' s A → Mv s A B → Yd' s B) →
    (∀ s W, Yd' s W → YieldAt F (n - 1) P L (enc s) W fun e W' => (e = .returned (.bool true) ∧ ∃ s', Nx s s' ∧ J' s' W') ∨ (e = .returned (.bool false) ∧ Jx' W')) →
    ∀ W, J' s0 W → CallsIn F n P gf (#[.func (.yield L) #[] #[]] ++ lb) W fun e W' => (∃ v, e = .returned v) ∧ ((∃ s, J' s W' ∧ Fin s) ∨ Jx' W')

/-- OUTERMOST. -/
theorem wpIn_rg_out {g : Operand} {ps : Array Tmp} {assign body : Code} {Q : Exit → Act → World → Prop} {a : Act} {w : World} {σ : Type}
    (hro : F.round = none) (h1 : 1 ≤ n) {gf : Nat} {lb : Array Value} (hg : a.eval g = .func (.func gf) #[] lb) (hFg : F.fn gf) (eg : ∀ args w, (callFunc gf args).run P w = .ok (.enter gf args) w)
    {enc : σ → Array Value} (hps : ∀ s, (enc s).size = ps.size) {Mv : σ → World → World → Prop} {Nx : σ → σ → Prop} {Fin : σ → Prop} {J : σ → World → Prop} {s0 : σ} (hseq : Iter F (n - 1) P gf lb (w.heap.size + 1) enc Mv Nx Fin J s0)
    (Yd : σ → World → Prop) (Jx : Code → World → Prop)
    (hJ : ∀ s A B, J s A → Only (fun j => j = w.heap.size + 1) A B → J s B) (hYd : ∀ s A B, Yd s A → Only (fun j => j = w.heap.size + 1) A B → Yd s B) (hJx : ∀ c A B, Jx c A → Only (fun j => j = w.heap.size + 1) A B → Jx c B)
    (hmv : ∀ s A B, J s A → Mv s A B → w.heap.size + 1 < A.heap.size → Yd s B ∧ B.heap[w.heap.size]? = A.heap[w.heap.size]? ∧ B.heap[w.heap.size + 1]? = A.heap[w.heap.size + 1]?)
    (h0 : ∀ W, Only (fun _ => False) w W → w.heap.size + 1 < W.heap.size → J s0 W)
    (Ax : σ → Act → World → Prop) (hAx : ∀ s a' A B, Ax s a' A → Only (fun j => j = w.heap.size + 1) A B → Ax s a' B)
    (hassign : ∀ (s : σ) (W : World) (K : Act → World → Prop), Yd s W → w.heap.size + 1 < W.heap.size → (∀ a' W', Only (fun _ => False) W W' → Ax s a' W' → K a' W') →
      assign.wpIn (F.inRound (w.heap.size + 1)) (n - 1 - 1) P (Exit.then K (fun _ _ _ => False)) { tmps := (ps.zip (enc s)).foldl (fun t (p, v) => t.setIfInBounds p v) a.tmps, defers := [] } W)
    (hbody : ∀ (s : σ) (a' : Act) (W : World), Yd s W → Ax s a' W → W.heap[w.heap.size]? = some (.deferred (some [])) → (∃ r, W.heap[w.heap.size + 1]? = some (.loop r)) →
      body.wpIn (F.inRound (w.heap.size + 1)) (n - 1 - 1) P (rfPost w.heap.size (fun W' => ∃ s', Nx s s' ∧ J s' W') Jx W) a' W)
    (hdone : ∀ s W, J s W → Fin s → W.heap[w.heap.size]? = some (.deferred (some [])) → Q .normal { a with defers := { target := .collected w.heap.size, args := #[] } :: a.defers } W)
    (hstop : ∀ c W, Jx c W → W.heap[w.heap.size]? = some (.deferred (some [])) → c.wpIn F n P Q { a with defers := { target := .collected w.heap.size, args := #[] } :: a.defers } W) :
    (Code.rangeFunc g ps assign body).wpIn F n P Q a w := by
  refine wpIn_rf hro h1 hg hFg eg ?_
  intro fn W1 hfn hO hk hl
  have dk : ∀ {A B : World}, A.heap[w.heap.size]? = some (.deferred (some [])) → Only (fun j => j = w.heap.size + 1) A B → B.heap[w.heap.size]? = some (.deferred (some [])) := fun h ho => (ho.block _ (Array.getElem?_eq_some_iff.1 h).1 (by omega)).trans h
  refine (hseq (fun s W => J s W ∧ W.heap[w.heap.size]? = some (.deferred (some [])) ∧ W.heap[w.heap.size + 1]? = some (.loop (rfRec fn a.tmps ps assign body w.heap.size .ready none)))
    (fun s W => Yd s W ∧ W.heap[w.heap.size]? = some (.deferred (some [])) ∧ W.heap[w.heap.size + 1]? = some (.loop (rfRec fn a.tmps ps assign body w.heap.size .ready none)))
    (fun W => ∃ c, Jx c W ∧ W.heap[w.heap.size]? = some (.deferred (some [])) ∧ W.heap[w.heap.size + 1]? = some (.loop (rfRec fn a.tmps ps assign body w.heap.size .done (some c))))
    (fun s W h => h.1) ?_ ?_ ?_ W1 ⟨h0 W1 hO (Array.getElem?_eq_some_iff.1 hl).1, hk, hl⟩).mono ?_
  · rintro s A B ⟨h2, h3, h4⟩ ho
    exact ⟨hJ s A B h2 (ho.mono (fun _ _ h => h.elim)), (ho.block _ (Array.getElem?_eq_some_iff.1 h3).1 id).trans h3, (ho.block _ (Array.getElem?_eq_some_iff.1 h4).1 id).trans h4⟩
  · rintro s A B ⟨h2, h3, h4⟩ hm
    obtain ⟨k1, k2, k3⟩ := hmv s A B h2 hm (Array.getElem?_eq_some_iff.1 h4).1
    exact ⟨k1, k2.trans h3, k3.trans h4⟩
  · rintro s W ⟨h2, h3, h4⟩
    refine (yield_rg hfn (hps s) h4 (fun W => Yd s W ∧ W.heap[w.heap.size]? = some (.deferred (some []))) (fun W' => (∃ s', Nx s s' ∧ J s' W') ∧ W'.heap[w.heap.size]? = some (.deferred (some []))) (fun c W' => Jx c W' ∧ W'.heap[w.heap.size]? = some (.deferred (some [])))
      (fun A B h ho => ⟨hYd s A B h.1 ho, dk h.2 ho⟩) (fun A B h ho => ⟨h.1.elim fun s' hs => ⟨s', hs.1, hJ s' A B hs.2 ho⟩, dk h.2 ho⟩) (fun c A B h ho => ⟨hJx c A B h.1 ho, dk h.2 ho⟩) ⟨h2, h3⟩ (Ax s) (hAx s)
      (fun K hK => hassign s W K h2 (Array.getElem?_eq_some_iff.1 h4).1 hK) ?_).mono ?_
    · rintro a' W' ⟨h5, h6⟩ h7 ⟨r, _, h8⟩
      refine wpIn_mono (hbody s a' W' h5 h7 h6 ⟨r, h8⟩) ?_
      exact rgPost.of_rf (fun W2 k1 k2 => ⟨k1, k2.trans h6⟩) (fun c W2 k1 k2 => ⟨k1, k2.trans h6⟩)
    · rintro e W' (⟨rfl, ⟨⟨s', k1, k2⟩, k3⟩, k4⟩ | ⟨rfl, c, ⟨k1, k2⟩, k3⟩)
      · exact .inl ⟨rfl, s', k1, k2, k3, k4⟩
      · exact .inr ⟨rfl, c, k1, k2, k3⟩
  · rintro e W2 ⟨hv, (⟨s, ⟨hi, hk', hl'⟩, hf⟩ | ⟨c, hx, hk', hl'⟩)⟩
    · exact ⟨hv, .ready, none, by simp, hk', hl', fun W3 hO3 hk3 => hdone s W3 (hJ _ _ _ hi hO3) hf hk3⟩
    · exact ⟨hv, .done, some c, by simp, hk', hl', fun W3 hO3 hk3 => hstop c W3 (hJx _ _ _ hx hO3) hk3⟩

/-- WITHIN A ROUND. -/
theorem wpIn_rg_in {g : Operand} {ps : Array Tmp} {assign body : Code} {Q : Exit → Act → World → Prop} {a : Act} {w : World} {σ : Type} {l₀ : Nat} {r₀ : Loop}
    (hro : F.round = some l₀) (hr0 : w.heap[l₀]? = some (.loop r₀)) (h1 : 1 ≤ n) {gf : Nat} {lb : Array Value} (hg : a.eval g = .func (.func gf) #[] lb) (hFg : F.fn gf) (eg : ∀ args w, (callFunc gf args).run P w = .ok (.enter gf args) w)
    {enc : σ → Array Value} (hps : ∀ s, (enc s).size = ps.size) {Mv : σ → World → World → Prop} {Nx : σ → σ → Prop} {Fin : σ → Prop} {J : σ → World → Prop} {s0 : σ} (hseq : Iter F (n - 1) P gf lb w.heap.size enc Mv Nx Fin J s0)
    (Yd : σ → World → Prop) (Jx : Code → World → Prop)
    (hJ : ∀ s A B, J s A → Only (fun j => j = w.heap.size) A B → J s B) (hYd : ∀ s A B, Yd s A → Only (fun j => j = w.heap.size) A B → Yd s B) (hJx : ∀ c A B, Jx c A → Only (fun j => j = w.heap.size) A B → Jx c B)
    (hmv : ∀ s A B, J s A → Mv s A B → w.heap.size < A.heap.size → Yd s B ∧ B.heap[w.heap.size]? = A.heap[w.heap.size]?)
    (h0 : ∀ W, Only (fun _ => False) w W → w.heap.size < W.heap.size → J s0 W)
    (Ax : σ → Act → World → Prop) (hAx : ∀ s a' A B, Ax s a' A → Only (fun j => j = w.heap.size) A B → Ax s a' B)
    (hassign : ∀ (s : σ) (W : World) (K : Act → World → Prop), Yd s W → w.heap.size < W.heap.size → (∀ a' W', Only (fun _ => False) W W' → Ax s a' W' → K a' W') →
      assign.wpIn (F.inRound w.heap.size) (n - 1 - 1) P (Exit.then K (fun _ _ _ => False)) { tmps := (ps.zip (enc s)).foldl (fun t (p, v) => t.setIfInBounds p v) a.tmps, defers := [] } W)
    (hbody : ∀ (s : σ) (a' : Act) (W : World), Yd s W → Ax s a' W → (∃ r, W.heap[w.heap.size]? = some (.loop r)) →
      body.wpIn (F.inRound w.heap.size) (n - 1 - 1) P (rgPost w.heap.size (fun W' => ∃ s', Nx s s' ∧ J s' W') Jx W) a' W)
    (hdone : ∀ s W, J s W → Fin s → w.heap.size < W.heap.size → Q .normal a W)
    (hstop : ∀ c W, Jx c W → w.heap.size < W.heap.size → c.wpIn F n P Q a W) :
    (Code.rangeFunc g ps assign body).wpIn F n P Q a w := by
  refine wpIn_rf_inner hro hr0 h1 hg hFg eg ?_
  intro fn W1 hfn hO hl
  refine (hseq (fun s W => J s W ∧ W.heap[w.heap.size]? = some (.loop (rfRec fn a.tmps ps assign body r₀.defers .ready none)))
    (fun s W => Yd s W ∧ W.heap[w.heap.size]? = some (.loop (rfRec fn a.tmps ps assign body r₀.defers .ready none)))
    (fun W => ∃ c, Jx c W ∧ W.heap[w.heap.size]? = some (.loop (rfRec fn a.tmps ps assign body r₀.defers .done (some c))))
    (fun s W h => h.1) ?_ ?_ ?_ W1 ⟨h0 W1 hO (Array.getElem?_eq_some_iff.1 hl).1, hl⟩).mono ?_
  · rintro s A B ⟨h2, h4⟩ ho
    exact ⟨hJ s A B h2 (ho.mono (fun _ _ h => h.elim)), (ho.block _ (Array.getElem?_eq_some_iff.1 h4).1 id).trans h4⟩
  · rintro s A B ⟨h2, h4⟩ hm
    obtain ⟨k1, k3⟩ := hmv s A B h2 hm (Array.getElem?_eq_some_iff.1 h4).1
    exact ⟨k1, k3.trans h4⟩
  · rintro s W ⟨h2, h4⟩
    refine (yield_rg hfn (hps s) h4 (Yd s) (fun W' => ∃ s', Nx s s' ∧ J s' W') Jx (hYd s) (fun A B h ho => h.elim fun s' hs => ⟨s', hs.1, hJ s' A B hs.2 ho⟩) hJx h2 (Ax s) (hAx s)
      (fun K hK => hassign s W K h2 (Array.getElem?_eq_some_iff.1 h4).1 hK) ?_).mono ?_
    · rintro a' W' h5 h7 ⟨r, _, h8⟩
      exact hbody s a' W' h5 h7 ⟨r, h8⟩
    · rintro e W' (⟨rfl, ⟨s', k1, k2⟩, k4⟩ | ⟨rfl, c, k1, k3⟩)
      · exact .inl ⟨rfl, s', k1, k2, k4⟩
      · exact .inr ⟨rfl, c, k1, k3⟩
  · rintro e W2 ⟨hv, (⟨s, ⟨hi, hl'⟩, hf⟩ | ⟨c, hx, hl'⟩)⟩
    · have hlt := (Array.getElem?_eq_some_iff.1 hl').1
      exact ⟨hv, .ready, none, by simp, hl', fun W3 hO3 => hdone s W3 (hJ _ _ _ hi hO3) hf (Nat.lt_of_lt_of_le hlt hO3.size)⟩
    · have hlt := (Array.getElem?_eq_some_iff.1 hl').1
      exact ⟨hv, .done, some c, by simp, hl', fun W3 hO3 => hstop c W3 (hJx _ _ _ hx hO3) (Nat.lt_of_lt_of_le hlt hO3.size)⟩
end Go.Proofs.Ytnkbbjeepdjamaa
/- What bag.Queue[int] answers: Put, Take, Len. Condition: the queue's blocks are of the call's own. -/
namespace Go.Proofs.Ytnkbbjeepdjamaa
open Go.RowKit
namespace QI

structure QueueAt (w : World) (base p : Nat) (F : Nat → Prop) (l : List Int) : Prop where
  foot : ∀ k, F k → base ≤ k ∧ k < w.heap.size
  nodup : l.Nodup
  at_ : ∃ v mo, w.heap[p]? = some (.cells #[v, .map mo] 95 (0, 0)) ∧ F p ∧ RowAt w base 3 v (l.map (Value.int .i64)) ∧ (∀ g, v.ownBlock = some g → F g) ∧ (mo = none → l = []) ∧
    ∀ m, mo = some m → F m ∧ ∃ al, MapIs w m .i64 al ∧ ∀ x, getK al x = if x ∈ l then some (.bool true) else none
theorem QueueAt.only {S : Nat → Prop} {w w' : World} {base p : Nat} {F : Nat → Prop} {l : List Int} (h : QueueAt w base p F l) (ho : Only S w w') (hn : ∀ k, F k → ¬ S k) : QueueAt w' base p F l := by
  obtain ⟨hf, hd, v, mo, hp, hF, hr, hrf, hno, hso⟩ := h
  refine ⟨fun k hk => ⟨(hf k hk).1, Nat.lt_of_lt_of_le (hf k hk).2 ho.size⟩, hd, v, mo, (ho.block p (hf p hF).2 (hn p hF)).trans hp, hF, RowAt.only ho hr (fun g hg => hn g (hrf g hg)), hrf, hno, fun m hm => ?_⟩
  obtain ⟨h1, al, h2, h3⟩ := hso m hm
  exact ⟨h1, al, h2.only ho (hn m h1), h3⟩
theorem QueueAt.new (w : World) (base : Nat) (hb : base ≤ w.heap.size) : QueueAt (w.alloc (.cells #[.slice none 0 0, .map none] 95)) base w.heap.size (fun k => k = w.heap.size) [] :=
  ⟨(fun k hk => by simp; omega), List.nodup_nil, _, _, heap_alloc_new w _, rfl, .inl ⟨rfl, rfl⟩, (fun g hg => by cases hg), (fun _ => rfl), (fun m hm => by cases hm)⟩

theorem infoI : (Try.prog.info? 3).map (fun i => (i.zero, i.size, i.bytes)) = some (some (.int .i64 0), 1, 8) := by kernel_rfl
theorem zero_bool : ∀ w : World, (zeroValue 4).run Try.prog w = .ok (.bool false) w := fun w => by kernel_rfl

/-- The latter part of Put: the map's cell, the row, the field. -/
theorem put_run {W : World} {base p m : Nat} {F : Nat → Prop} {l : List Int} {v : Value} {al : List (Int × Value)} (x : Int) (hF : ∀ k, F k → base ≤ k ∧ k < W.heap.size) (hd : l.Nodup) (hx : x ∉ l)
    (hp : W.heap[p]? = some (.cells #[v, .map (some m)] 95 (0, 0))) (hFp : F p) (hr : RowAt W base 3 v (l.map (Value.int .i64))) (hrf : ∀ g, v.ownBlock = some g → F g)
    (hFm : F m) (hm : MapIs W m .i64 al) (hget : ∀ x, getK al x = if x ∈ l then some (.bool true) else none) (hn : l.length < 1000) (hb : base ≤ W.heap.size) :
    ∃ w2 g o c w3, (Instr.mapUpdate 93 (.map (some m)) (.int .i64 x) (.bool true)).run Try.prog W = .ok () w2 ∧ w2.cell? ⟨p, 0, none⟩ = some v ∧ w2.frozen? ⟨p, 0, none⟩ = false ∧
      (Builtin.append_ #[31, 31] 31 #[v, .slice (some ⟨w2.heap.size, 0, none⟩) 1 1]).run Try.prog (w2.alloc (.cells #[.int .i64 x] 3)) = .ok (.slice (some ⟨g, o, none⟩) (l.length + 1) c) w3 ∧
      w3.cell? ⟨p, 0, none⟩ = some v ∧ w3.frozen? ⟨p, 0, none⟩ = false ∧ 
      QueueAt (w3.setCell ⟨p, 0, none⟩ (.slice (some ⟨g, o, none⟩) (l.length + 1) c)) base p (fun k => F k ∨ (W.heap.size ≤ k ∧ k < w3.heap.size)) (l ++ [x]) ∧ Only F W (w3.setCell ⟨p, 0, none⟩ (.slice (some ⟨g, o, none⟩) (l.length + 1) c)) := by
  obtain ⟨w2, hrun, hm2, ho2⟩ := run_updK (P := Try.prog) Try.underlying93 Try.underlying3 hm x (.bool true)
  have hpm : p ≠ m := by
    rintro rfl
    obtain ⟨es, c, hh, _⟩ := hm.blk
    rw [hp] at hh; cases hh
  have hvm : v.ownBlock ≠ some m := by
    obtain ⟨es, c, hh, _⟩ := hm.blk
    exact hr.ne_map hh
  have hvp : v.ownBlock ≠ some p := hr.ne_blk hp (by decide)
  have hp2 := (ho2.block p (hF p hFp).2 hpm).trans hp
  have hr2 : RowAt w2 base 3 v (l.map (Value.int .i64)) := RowAt.only ho2 hr (fun g hg e => by subst e; exact hvm hg)
  have ho3 := Only.alloc (fun _ => False) w2 (.cells #[.int .i64 x] 3)
  have hr3 := RowAt.only ho3 hr2 (fun _ _ => id)
  have hp3 := (ho3.block p (by have := ho2.size; have := (hF p hFp).2; omega) id).trans hp2
  have hm3 := hm2.only ho3 id
  obtain ⟨i, hi, hz0, hz1, hz2⟩ := info_parts infoI
  have hnew : (w2.alloc (.cells #[.int .i64 x] 3)).cell? ⟨w2.heap.size, 0, none⟩ = some (.int .i64 x) := by
    rw [cell_of_blk _ _ _ _ _ (heap_alloc_new w2 _)]; rfl
  obtain ⟨v', w3, hap, hr4, ho4, hfr⟩ := RowAt.append (P := Try.prog) 31 31 3 i _ 8 Try.underlying31 hi hz0 hz1 hz2 rfl hr3 ⟨w2.heap.size, 0, none⟩ (.int .i64 x) hnew rfl (by have := ho2.size; have := ho3.size; omega) (by simp [maxLen]; omega) (by simp; omega)
  have hp4 := (ho4.block p (by have := ho2.size; have := ho3.size; have := (hF p hFp).2; omega) hvp).trans hp3
  have hm4 := hm3.only ho4 hvm
  obtain ⟨A, c, hv'⟩ : ∃ A c, v' = .slice A (l.length + 1) c := by
    obtain ⟨A, c, h⟩ := hr4.slice
    exact ⟨A, c, by simpa using h⟩
  rcases hr4.form with ⟨_, h⟩ | ⟨g, o, c', hv2, hlc⟩
  · simp at h
  have hv3 : v' = .slice (some ⟨g, o, none⟩) (l.length + 1) c' := by simpa using hv2
  subst hv3
  refine ⟨w2, g, o, c', w3, hrun, ?_, ?_, hap, ?_, ?_, ?_, ?_⟩
  · rw [cell_of_blk _ _ _ _ _ hp2]; rfl
  · simp [World.frozen?, hp2]
  · rw [cell_of_blk _ _ _ _ _ hp4]; rfl
  · simp [World.frozen?, hp4]
  · have ho5 := Only.setCell w3 ⟨p, 0, none⟩ (.slice (some ⟨g, o, none⟩) (l.length + 1) c')
    have hgp : (Value.slice (some ⟨g, o, none⟩) (l.length + 1) c').ownBlock ≠ some p := hr4.ne_blk hp4 (by decide)
    have hs0 : W.heap.size ≤ w2.heap.size := ho2.size
    have hs1 : w2.heap.size < w3.heap.size := by have h1 := ho4.size; simp at h1; omega
    have hs2 : (w3.setCell ⟨p, 0, none⟩ (.slice (some ⟨g, o, none⟩) (l.length + 1) c')).heap.size = w3.heap.size := by simp [World.setCell]
    refine ⟨fun k hk => ?_, ?_, .slice (some ⟨g, o, none⟩) (l.length + 1) c', some m, ?_, .inl hFp, ?_, fun g' hg' => ?_, (fun h => by cases h), fun m' hm' => ?_⟩
    · rw [hs2]
      rcases hk with hk | hk
      · have := hF k hk; omega
      · omega
    · rw [List.nodup_append]
      refine ⟨hd, by simp, ?_⟩
      rintro a ha b hb rfl
      simp at hb
      subst hb
      exact hx ha
    · simp [World.setCell, Array.getElem?_modify, hp4]
    · have := RowAt.only ho5 hr4 (fun g' hg' e => hgp (by rw [hg', e]))
      simpa using this
    · rcases hfr with hfr | ⟨g2, hg2, hle⟩
      · exact .inl (hrf g' (by rw [← hfr]; exact hg'))
      · rw [hg'] at hg2
        cases hg2
        exact .inr ⟨by have := ho3.size; omega, (hr4.lt hg').1⟩
    · injection hm' with hm'
      subst hm'
      refine ⟨.inl hFm, _, hm4.only ho5 (fun e => hpm e.symm), fun y => ?_⟩
      rw [getK_upd, hget y]
      by_cases hy : x = y
      · subst hy; simp
      · rw [if_neg hy]
        simp [show ¬ y = x from fun e => hy e.symm]
  · have h1 : Only F W w2 := ho2.mono (fun k _ h => by subst h; exact hFm)
    have h2 := h1.trans ho3 (fun _ _ h => h.elim)
    have h3 := h2.trans ho4 (fun k _ h => hrf k h)
    exact h3.trans (Only.setCell w3 ⟨p, 0, none⟩ _) (fun k _ h => by subst h; exact hFp)

theorem put_old {w : World} {base p : Nat} {F : Nat → Prop} {l : List Int} (h : QueueAt w base p F l) (x : Int) (hx : x ∈ l) :
    Calls Try.prog 65 #[.pointer (some ⟨p, 0, none⟩), .int .i64 x] w fun e w' => e = .returned (.bool false) ∧ w = w' := by
  obtain ⟨hf, hd, v, mo, hp, hF, hr, hrf, hno, hso⟩ := h
  have hc : w.cell? ⟨p, 1, none⟩ = some (.map mo) := by rw [cell_of_blk _ _ _ _ _ hp]; rfl
  cases mo with
  | none => rw [hno rfl] at hx; cases hx
  | some m =>
    obtain ⟨_, al, hm, hget⟩ := hso m rfl
    have hlook := run_lookupK (P := Try.prog) Try.underlying93 Try.underlying3 zero_bool hm x
    rw [hget x, if_pos hx] at hlook
    simp only [Option.getD_some] at hlook
    clear hf hd hp hF hr hrf hno hso hm hget
    go_enter Try.func65, Try.ntmps65
    go_wp2
    all_goals go_ret
    all_goals exact ⟨rfl, rfl⟩
set_option maxHeartbeats 1000000 in
set_option maxRecDepth 100000 in
theorem put_new {w : World} {base p : Nat} {F : Nat → Prop} {l : List Int} (h : QueueAt w base p F l) (x : Int) (hx : x ∉ l) (hn : l.length < 1000) (hb : base ≤ w.heap.size) :
    Calls Try.prog 65 #[.pointer (some ⟨p, 0, none⟩), .int .i64 x] w fun e w' => e = .returned (.bool true) ∧ QueueAt w' base p (fun k => F k ∨ (w.heap.size ≤ k ∧ k < w'.heap.size)) (l ++ [x]) ∧ Only F w w' := by
  obtain ⟨hf, hd, v, mo, hp, hF, hr, hrf, hno, hso⟩ := h
  have hc : w.cell? ⟨p, 1, none⟩ = some (.map mo) := by rw [cell_of_blk _ _ _ _ _ hp]; rfl
  have hz : w.frozen? ⟨p, 1, none⟩ = false := by simp [World.frozen?, hp]
  cases mo with
  | none =>
    obtain rfl := hno rfl
    have hlook := run_lookupK_nil (P := Try.prog) Try.underlying93 Try.underlying3 zero_bool w x
    have hq := fun W => run_eql_map_nil (P := Try.prog) W _ _ _ none Try.underlying93
    simp only [Option.isNone_none] at hq
    have hmm := fun W => run_makeMap (P := Try.prog) 93 W
    have hlt : p < w.heap.size := (hf p hF).2
    obtain ⟨W1, hW1⟩ : ∃ W1, W1 = (w.setCell ⟨p, 1, none⟩ (.map (some w.heap.size))).alloc (.map #[] 0) := ⟨_, rfl⟩
    have hsz : (w.setCell ⟨p, 1, none⟩ (.map (some w.heap.size))).heap.size = w.heap.size := by simp [World.setCell]
    have hm1 : MapIs W1 w.heap.size .i64 [] := by
      have := MapIs.new (w.setCell ⟨p, 1, none⟩ (.map (some w.heap.size))) .i64
      rw [hW1]; rw [hsz] at this; exact this
    have hvp : v.ownBlock ≠ some p := hr.ne_blk hp (by decide)
    have ho1 : Only (fun k => k = p) w W1 := by rw [hW1]; exact (Only.setCell w ⟨p, 1, none⟩ (.map (some w.heap.size))).trans (Only.alloc (fun _ => False) _ _) (fun _ _ h => h.elim)
    have hp1 : W1.heap[p]? = some (.cells #[v, .map (some w.heap.size)] 95 (0, 0)) := by
      rw [hW1]
      refine (Below.heap_alloc _ _ _ (by simp [World.setCell]; exact hlt)).trans ?_
      simp [World.setCell, Array.getElem?_modify, hp]
    have hs1 : W1.heap.size = w.heap.size + 1 := by rw [hW1]; simp [World.setCell]
    obtain ⟨w2, g, o, c, w3, hupd, c2, f2, hap, c3, f3, hQ, hO⟩ := put_run (W := W1) (m := w.heap.size) (F := fun k => F k ∨ k = w.heap.size) x (fun k hk => by
        rcases hk with hk | rfl
        · have := hf k hk; omega
        · omega) hd hx hp1 (.inl hF) (RowAt.only ho1 hr (fun g hg e => hvp (by rw [hg, e]))) (fun g hg => .inl (hrf g hg)) (.inr rfl) hm1 (by simp [getK]) hn (by omega)
    have hall : QueueAt (w3.setCell ⟨p, 0, none⟩ (.slice (some ⟨g, o, none⟩) (([] : List Int).length + 1) c)) base p (fun k => F k ∨ (w.heap.size ≤ k ∧ k < (w3.setCell ⟨p, 0, none⟩ (.slice (some ⟨g, o, none⟩) (([] : List Int).length + 1) c)).heap.size)) ([] ++ [x]) ∧ Only F w (w3.setCell ⟨p, 0, none⟩ (.slice (some ⟨g, o, none⟩) (([] : List Int).length + 1) c)) := by
      refine ⟨?_, (ho1.mono (fun k _ h => by subst h; exact hF)).trans hO (fun k hk h => h.elim id (fun e => by omega))⟩
      have e : (w3.setCell ⟨p, 0, none⟩ (.slice (some ⟨g, o, none⟩) (([] : List Int).length + 1) c)).heap.size = w3.heap.size := by simp [World.setCell]
      have hsz3 := hO.size
      rw [e] at hsz3
      rw [e]
      have : (fun k => F k ∨ (w.heap.size ≤ k ∧ k < w3.heap.size)) = (fun k => (F k ∨ k = w.heap.size) ∨ (W1.heap.size ≤ k ∧ k < w3.heap.size)) := by
        funext k
        apply propext
        constructor
        · rintro (h | h)
          · exact .inl (.inl h)
          · by_cases e : k = w.heap.size
            · exact .inl (.inr e)
            · exact .inr (by omega)
        · rintro ((h | h) | h)
          · exact .inl h
          · exact .inr (by omega)
          · exact .inr (by omega)
      rw [this]
      exact hQ
    rw [hW1] at hupd
    have HALL := Lib.hid hall
    have HAP := Lib.hid hap
    clear hap
    clear hno hso hW1 hm1 hvp ho1 hp1 hs1 hQ hO hall hsz hp hr hrf hf hd
    go_enter Try.func65, Try.ntmps65
    go_wp2_with (first | (at_builtin; refine Lib.wpList_append_run _ rfl _ _ _ _ rfl _ _ rfl rfl _ _ HAP.out ?_) | go_in)
    all_goals first
      | (exfalso; omega)
      | (go_ret; exact ⟨rfl, HALL.out.1, HALL.out.2⟩)
  | some m =>
    obtain ⟨hFm, al, hm, hget⟩ := hso m rfl
    have hlook := run_lookupK (P := Try.prog) Try.underlying93 Try.underlying3 zero_bool hm x
    rw [hget x, if_neg hx] at hlook
    simp only [Option.getD_none] at hlook
    have hq := fun W => run_eql_map_nil (P := Try.prog) W _ _ _ (some m) Try.underlying93
    simp only [Option.isNone_some] at hq
    obtain ⟨w2, g, o, c, w3, hupd, c2, f2, hap, c3, f3, hQ, hO⟩ := put_run (W := w) (m := m) (F := F) x hf hd hx hp hF hr hrf hFm hm hget hn hb
    have e : (w3.setCell ⟨p, 0, none⟩ (.slice (some ⟨g, o, none⟩) (l.length + 1) c)).heap.size = w3.heap.size := by simp [World.setCell]
    rw [← e] at hQ
    have hall := And.intro hQ hO
    have HALL := Lib.hid hall
    have HAP := Lib.hid hap
    clear hap hno hso hp hr hrf hf hd hm hget hQ hO hall e
    go_enter Try.func65, Try.ntmps65
    go_wp2_with (first | (at_builtin; refine Lib.wpList_append_run _ rfl _ _ _ _ rfl _ _ rfl rfl _ _ HAP.out ?_) | go_in)
    all_goals first
      | (exfalso; omega)
      | (go_ret; exact ⟨rfl, HALL.out.1, HALL.out.2⟩)


set_option maxHeartbeats 1000000 in
theorem take_none {w : World} {base p : Nat} {F : Nat → Prop} (h : QueueAt w base p F []) :
    Calls Try.prog 81 #[.pointer (some ⟨p, 0, none⟩)] w fun e w' => e = .returned (.tuple #[.int .i64 0, .bool false]) ∧ w = w' := by
  obtain ⟨hf, hd, v, mo, hp, hF, hr, hrf, hno, hso⟩ := h
  have hc : w.cell? ⟨p, 0, none⟩ = some v := by rw [cell_of_blk _ _ _ _ _ hp]; rfl
  obtain ⟨A, c, rfl⟩ := hr.slice
  rw [List.length_map] at hc
  simp only [List.length_nil] at hc
  clear hf hd hp hF hr hrf hno hso
  go_enter Try.func81, Try.ntmps81
  go_wp2
  all_goals go_ret2
  all_goals exact ⟨rfl, rfl⟩
theorem take_run {w : World} {base p m g o c : Nat} {F : Nat → Prop} {x : Int} {l : List Int} {al : List (Int × Value)} (hf : ∀ k, F k → base ≤ k ∧ k < w.heap.size) (hd : (x :: l).Nodup)
    (hp : w.heap[p]? = some (.cells #[.slice (some ⟨g, o, none⟩) (l.length + 1) c, .map (some m)] 95 (0, 0))) (hF : F p) (hr : RowAt w base 3 (.slice (some ⟨g, o, none⟩) (l.length + 1) c) ((x :: l).map (Value.int .i64)))
    (hFg : F g) (hFm : F m) (hm : MapIs w m .i64 al) (hget : ∀ y, getK al y = if y ∈ x :: l then some (.bool true) else none) (o' : Nat) (ho : o' = if c = 1 then o else o + 1) (ats : Array TypeId) (ty : TypeId) (hats : ats[0]? = some 93) :
    ∃ w2, (w.setCell ⟨p, 0, none⟩ (.slice (some ⟨g, o', none⟩) l.length (c - 1))).cell? ⟨p, 1, none⟩ = some (.map (some m)) ∧
      (Builtin.delete_ ats ty #[.map (some m), .int .i64 x]).run Try.prog (w.setCell ⟨p, 0, none⟩ (.slice (some ⟨g, o', none⟩) l.length (c - 1))) = .ok (.tuple #[]) w2 ∧ QueueAt w2 base p F l ∧ Only F w w2 := by
  have ho1 := Only.setCell w ⟨p, 0, none⟩ (.slice (some ⟨g, o', none⟩) l.length (c - 1))
  have hpm : p ≠ m := by
    rintro rfl
    obtain ⟨es, c, hh, _⟩ := hm.blk
    rw [hp] at hh; cases hh
  have hgp : g ≠ p := fun e => hr.ne_blk hp (by decide) (by simp [Value.ownBlock, e])
  have hgm : g ≠ m := by
    obtain ⟨es, c, hh, _⟩ := hm.blk
    exact fun e => hr.ne_map hh (by simp [Value.ownBlock, e])
  have hm1 := hm.only ho1 (fun e => hpm e.symm)
  obtain ⟨w2, hrun, hm2, ho2⟩ := run_delK (P := Try.prog) (ty := ty) Try.underlying93 Try.underlying3 hm1 x hats
  have hp1 : (w.setCell ⟨p, 0, none⟩ (.slice (some ⟨g, o', none⟩) l.length (c - 1))).heap[p]? = some (.cells #[.slice (some ⟨g, o', none⟩) l.length (c - 1), .map (some m)] 95 (0, 0)) := by
    simp [World.setCell, Array.getElem?_modify, hp]
  have hr1 : RowAt w base 3 (.slice (some ⟨g, o', none⟩) l.length (c - 1)) (l.map (Value.int .i64)) := by
    have := RowAt.tail (vs := l.map (Value.int .i64)) hr o' ho
    simpa using this
  refine ⟨w2, by rw [cell_of_blk _ _ _ _ _ hp1]; rfl, hrun, ⟨fun k hk => ⟨(hf k hk).1, Nat.lt_of_lt_of_le (hf k hk).2 (Nat.le_trans ho1.size ho2.size)⟩, (List.nodup_cons.1 hd).2, _, _, (ho2.block p (by have := (hf p hF).2; have := ho1.size; omega) hpm).trans hp1, hF, ?_, ?_, (fun h => by cases h), fun m' hm' => ?_⟩, ?_⟩
  · refine RowAt.only ho2 (RowAt.only ho1 hr1 ?_) ?_
    · intro g' hg'; simp only [Value.ownBlock, Option.some.injEq] at hg'; subst hg'; exact hgp
    · intro g' hg'; simp only [Value.ownBlock, Option.some.injEq] at hg'; subst hg'; exact hgm
  · intro g' hg'; simp only [Value.ownBlock, Option.some.injEq] at hg'; subst hg'; exact hFg
  · injection hm' with hm'
    subst hm'
    refine ⟨hFm, _, hm2, fun y => ?_⟩
    rw [getK_del hm.nodup, hget y]
    by_cases hy : x = y
    · subst hy; rw [if_pos rfl, if_neg (List.nodup_cons.1 hd).1]
    · rw [if_neg hy]; simp [show ¬ y = x from fun e => hy e.symm]
  · exact (ho1.mono (fun k _ h => by subst h; exact hF)).trans ho2 (fun k _ h => by subst h; exact hFm)
set_option maxHeartbeats 2000000 in
set_option maxRecDepth 100000 in
theorem take_some {w : World} {base p : Nat} {F : Nat → Prop} {x : Int} {l : List Int} (h : QueueAt w base p F (x :: l)) :
    Calls Try.prog 81 #[.pointer (some ⟨p, 0, none⟩)] w fun e w' => e = .returned (.tuple #[.int .i64 x, .bool true]) ∧ QueueAt w' base p F l ∧ Only F w w' := by
  obtain ⟨hf, hd, v, mo, hp, hF, hr, hrf, hno, hso⟩ := h
  have hc : w.cell? ⟨p, 0, none⟩ = some v := by rw [cell_of_blk _ _ _ _ _ hp]; rfl
  cases mo with
  | none => cases hno rfl
  | some m =>
    obtain ⟨hFm, al, hm, hget⟩ := hso m rfl
    rcases hr.form with ⟨_, h⟩ | ⟨g, o, c, rfl, hlc⟩
    · simp at h
    have hcell := hr.cell 0 _ rfl
    simp only [List.length_map, List.length_cons, Nat.add_zero] at hc hlc hp hr hrf hcell
    have hz : w.frozen? ⟨p, 0, none⟩ = false := by simp [World.frozen?, hp]
    have hlt : p < w.heap.size := (hf p hF).2
    by_cases hc1 : c = 1
    · subst hc1
      obtain ⟨w2, h1, h2, h3, h4⟩ := take_run hf hd hp hF hr (hrf g rfl) hFm hm hget o (by simp) #[93, 3] 0 rfl
      have hl0 : l = [] := List.eq_nil_of_length_eq_zero (by omega)
      have HALL := Lib.hid (And.intro h3 h4)
      clear h3 h4
      subst hl0
      simp only [Nat.sub_self, List.length_nil, Nat.zero_add] at h1 h2 hc
      clear hf hd hp hF hr hrf hno hso hm hget hlc
      go_enter Try.func81, Try.ntmps81
      go_wp2
      all_goals first
        | (exfalso; omega)
        | (go_ret2; exact ⟨rfl, HALL.out.1, HALL.out.2⟩)
    · obtain ⟨w2, h1, h2, h3, h4⟩ := take_run hf hd hp hF hr (hrf g rfl) hFm hm hget (o + 1) (by simp [hc1]) #[93, 3] 0 rfl
      have HALL := Lib.hid (And.intro h3 h4)
      clear hf hd hp hF hr hrf hno hso hm hget h3 h4
      go_enter Try.func81, Try.ntmps81
      go_wp2
      all_goals first
        | (exfalso; omega)
        | (go_ret2; exact ⟨rfl, HALL.out.1, HALL.out.2⟩)
end QI
end Go.Proofs.Ytnkbbjeepdjamaa
/- bag.Queue[int].Drain: one after the other, those that are put in meanwhile, too. Condition: the loop's body keeps the queue a queue, and comes to an end. -/
namespace Go.Proofs.Ytnkbbjeepdjamaa
open Go.RowKit Go.Shelf
attribute [local go_sem] Oper.semAt_some
theorem least {p : Nat → Prop} (h : ∃ k, p k) : ∃ k, p k ∧ ∀ j, p j → k ≤ j := by
  obtain ⟨k, hk⟩ := h
  induction k using Nat.strongRecOn with
  | _ k ih =>
    by_cases hj : ∃ j, j < k ∧ p j
    · obtain ⟨j, h1, h2⟩ := hj; exact ih j h1 h2
    · exact ⟨k, hk, fun j hp => Nat.le_of_not_lt (fun e => hj ⟨j, e, hp⟩)⟩
/-- The least number of which something holds. -/
noncomputable def leastOf (p : Nat → Prop) : Nat := @dite _ (∃ k, p k) (Classical.propDecidable _) (fun h => Classical.choose (least h)) (fun _ => 0)
theorem leastOf_spec {p : Nat → Prop} (h : ∃ k, p k) : p (leastOf p) ∧ ∀ j, p j → leastOf p ≤ j := by
  unfold leastOf
  rw [dif_pos h]
  exact Classical.choose_spec (least h)
namespace QI
theorem drain (p : Nat) (w : World) : Calls Try.prog 66 #[.pointer (some ⟨p, 0, none⟩)] w fun e w' => e = .returned (.func (.func 80) #[] #[.pointer (some ⟨w.heap.size, 0, none⟩)]) ∧ w' = w.alloc (.cells #[.pointer (some ⟨p, 0, none⟩)] 107) := by
  go_enter Try.func66, Try.ntmps66
  go_wp2
  go_ret
  exact ⟨rfl, rfl⟩
/-- At the loop's head: one was taken, or none is left. -/
def Head {σ : Type} (ql : σ → List Int) (μ : σ → Nat) (J' Yd' : σ → World → Prop) (x ok : Value) (W : World) (k : Nat) : Prop :=
  ∃ s, μ s = k ∧ ((ok = .bool true ∧ x = .int .i64 ((ql s).headD 0) ∧ Yd' s W) ∨ (ok = .bool false ∧ J' s W ∧ ql s = []))
section
variable {σ : Type} {qf : σ → Nat → Prop} {ql : σ → List Int} {μ : σ → Nat} {J' Yd' : σ → World → Prop} {base p : Nat}
/-- What Take does here. -/
theorem take_head (hR : ∀ s W, J' s W → QueueAt W base p (qf s) (ql s)) (hm : ∀ s A B, J' s A → ql s ≠ [] ∧ QueueAt B base p (qf s) (ql s).tail ∧ Only (qf s) A B → Yd' s B) (s : σ) (W : World) (h : J' s W) :
    Calls Try.prog 81 #[.pointer (some ⟨p, 0, none⟩)] W fun e W' => ∃ x ok, e = .returned (.tuple #[x, ok]) ∧ Head ql μ J' Yd' x ok W' (μ s) ∧ (ok = .bool true ∨ ok = .bool false) := by
  have hq := hR s W h
  cases hl : ql s with
  | nil =>
    rw [hl] at hq
    refine (take_none hq).mono ?_
    rintro e W' ⟨rfl, rfl⟩
    exact ⟨_, _, rfl, ⟨s, rfl, .inr ⟨rfl, h, hl⟩⟩, .inr rfl⟩
  | cons x xs =>
    rw [hl] at hq
    refine (take_some hq).mono ?_
    rintro e W' ⟨rfl, h1, h2⟩
    exact ⟨_, _, rfl, ⟨s, rfl, .inl ⟨rfl, by rw [hl]; rfl, hm s W W' h ⟨by rw [hl]; simp, by rw [hl]; exact h1, h2⟩⟩⟩, .inl rfl⟩
end
set_option maxHeartbeats 2000000 in
theorem drain_iter {σ : Type} (n B L p base : Nat) (qf : σ → Nat → Prop) (ql : σ → List Int) (μ : σ → Nat) (J : σ → World → Prop) (s0 : σ)
    (hB : ∀ s W, J s W → W.cell? ⟨B, 0, none⟩ = some (.pointer (some ⟨p, 0, none⟩))) (hR : ∀ s W, J s W → QueueAt W base p (qf s) (ql s)) :
    Iter Fence.wide n Try.prog 80 #[.pointer (some ⟨B, 0, none⟩)] L (fun s => #[.int .i64 ((ql s).headD 0)])
      (fun s A W' => ql s ≠ [] ∧ QueueAt W' base p (qf s) (ql s).tail ∧ Only (qf s) A W') (fun s s' => μ s' < μ s) (fun s => ql s = []) J s0 := by
  intro J' Yd' Jx' hJ hst hm hY W h0
  have hB' : ∀ s W, J' s W → W.cell? ⟨B, 0, none⟩ = some (.pointer (some ⟨p, 0, none⟩)) := fun s W h => hB s W (hJ s W h)
  have HT := Lib.hid (take_head (μ := μ) (fun s W h => hR s W (hJ s W h)) hm)
  have hb0 := hB' s0 W h0
  have HB := Lib.hid hB'
  have HJ0 := Lib.hid h0
  have HY := Lib.hid hY
  clear hB hR hJ hst hm hB' h0 hY
  refine callsIn_of_wp Try.func80 rfl trivial ?_ rfl
  simp only [Try.ntmps80, List.size_toArray, List.length_cons, List.length_nil, Nat.reduceAdd, Nat.reduceSub, Array.replicate_succ, Array.replicate_zero, List.push_toArray, List.append_toArray, List.nil_append, List.cons_append]
  gi_wp2_with fail
  refine ⟨trivial, fun h => by simp [Fence.wide] at h, (callsIn_wide.2 (HT.out s0 W HJ0.out)).mono ?_⟩
  rintro e W1 ⟨x, ok, rfl, hh, hk⟩
  have HH := Lib.hid (And.intro hh hk)
  clear hh hk hb0 HJ0
  gi_wp2_with fail
  gi_loopw [3, 4] (fun x ok wr => Hid ((∃ k, Head ql μ J' Yd' x ok wr k) ∧ (ok = .bool true ∨ ok = .bool false))) (fun x ok wr => leastOf (Head ql μ J' Yd' x ok wr))
  case atStart => exact Lib.hid ⟨⟨_, HH.out.1⟩, HH.out.2⟩
  case round =>
    have hs := leastOf_spec hrel.out.1
    have hk := hrel.out.2
    obtain ⟨M, hM⟩ : ∃ M, leastOf (Head ql μ J' Yd' u3 u4 wr) = M := ⟨_, rfl⟩
    rw [hM] at hs
    have HM := Lib.hid hM
    obtain ⟨⟨s, hμ, hc⟩, _⟩ := hs
    have HMU := Lib.hid hμ
    clear hrel hM hμ
    rcases hc with ⟨rfl, rfl, hyd⟩ | ⟨rfl, hj, he⟩
    · obtain ⟨fn, tmps, assign, body, hy, hR⟩ := HY.out s wr hyd
      clear hk hyd
      generalize (ql s).headD 0 = y at *
      gi_wp2_with fail
      refine ⟨fun h => by simp [Fence.wide] at h, hR.mono ?_⟩
      clear hR hy
      rintro e W3 (⟨rfl, s', hlt, hJ3⟩ | ⟨rfl, hJx3⟩)
      · have hb := HB.out s' W3 hJ3
        have HJ3 := Lib.hid (And.intro hJ3 hlt)
        clear hJ3 hlt
        gi_wp2_with fail
        refine ⟨trivial, fun h => by simp [Fence.wide] at h, (callsIn_wide.2 (HT.out s' W3 HJ3.out.1)).mono ?_⟩
        rintro e W4 ⟨x, ok, rfl, hh, hk⟩
        have H4 := Lib.hid (And.intro hh hk)
        clear hh hk hb
        gi_wp2_with fail
        go_roundw
        case rel => exact Lib.hid ⟨⟨_, H4.out.1⟩, H4.out.2⟩
        case measure =>
          have h1 := (leastOf_spec ⟨_, H4.out.1⟩).2 _ H4.out.1
          have h2 := HJ3.out.2
          have h3 := HMU.out
          have h4 := HM.out
          simp at h4 ⊢
          omega
      · gi_wp2_with fail
        refine bodyPost_ret (results_none rfl _ _ _) rfl ?_
        exact ⟨⟨_, rfl⟩, .inr hJx3⟩
    · have HJ := Lib.hid (And.intro hj he)
      clear hk hj he
      gi_wp2_with fail
      go_end0
      exact ⟨⟨_, rfl⟩, .inl ⟨s, HJ.out⟩⟩
end QI
end Go.Proofs.Ytnkbbjeepdjamaa
/- The cells of a row, wherever they lie. No condition. -/
namespace Go.Proofs.Ytnkbbjeepdjamaa
open Go.RowKit
namespace SI
def CellsAt (A : Option Addr) (xs : List Int) (W : World) : Prop := ∀ (i : Nat) (hi : i < xs.length), ∃ g o, A = some ⟨g, o, none⟩ ∧ W.cell? ⟨g, o + i, none⟩ = some (.int .i64 xs[i])
end SI
end Go.Proofs.Ytnkbbjeepdjamaa
/- What bag.Set[int].All gives: its cells, one after the other, whatever the loop's body does to the rest of the memory. Condition: the body leaves the cells as they are. -/
namespace Go.Proofs.Ytnkbbjeepdjamaa
open Go.RowKit Go.Shelf
attribute [local go_sem] Oper.semAt_some
namespace SI

theorem all (v : Value) (w : World) : Calls Try.prog 46 #[.agg #[v]] w fun e w' => e = .returned (.func (.func 71) #[] #[.pointer (some ⟨w.heap.size, 0, none⟩)]) ∧ w' = w.alloc (.cells #[v] 57) := by
  go_enter Try.func46, Try.ntmps46
  go_wp2
  go_ret
  exact ⟨rfl, rfl⟩

/-- What the iterator reads between two rounds. -/
def encs (xs : List Int) (k : Nat) : Array Value := #[.int .i64 (xs[k]?.getD 0)]
set_option maxHeartbeats 1000000 in
theorem all_in (n : Nat) (B l : Nat) (A : Option Addr) (c : Nat) (xs : List Int) (hmax : xs.length ≤ maxLen) (J Jx : Nat → World → Prop) (hRd : ∀ k W, J k W → CellsAt A xs W)
    (hY : ∀ k W, k < xs.length → J k W → YieldAt Fence.wide (n - 1) Try.prog l (encs xs k) W fun e W' => (e = .returned (.bool true) ∧ J (k + 1) W') ∨ (e = .returned (.bool false) ∧ Jx (k + 1) W'))
    (W : World) (hB : W.cell? ⟨B, 0, none⟩ = some (.slice A xs.length c)) (h0 : J 0 W) :
    CallsIn Fence.wide n Try.prog 71 #[.func (.yield l) #[] #[], .pointer (some ⟨B, 0, none⟩)] W fun e W' => (∃ v, e = .returned v) ∧ (J xs.length W' ∨ ∃ k, Jx k W') := by
  refine callsIn_of_wp Try.func71 rfl trivial ?_ rfl
  simp only [Try.ntmps71, List.size_toArray, List.length_cons, List.length_nil, Nat.reduceAdd, Nat.reduceSub, Array.replicate_succ, Array.replicate_zero, List.push_toArray, List.append_toArray, List.nil_append, List.cons_append]
  gi_wp2
  have HRD := Lib.hid hRd
  clear hRd
  have hm : (xs.length : Int) ≤ 9223372036854775807 := by simp only [maxLen] at hmax; omega
  gi_loopw [8] (fun i wr => ∃ k : Nat, k ≤ xs.length ∧ i = .int .i64 k ∧ J k wr) (fun i _ => xs.length - (intOf i).toNat)
  case atStart => exact ⟨0, by omega, rfl, h0⟩
  case round =>
    obtain ⟨k, hk, rfl, hJ⟩ := hrel
    by_cases hlt : k < xs.length
    · obtain ⟨g, o, rfl, hcell⟩ := HRD.out k wr hJ k hlt
      obtain ⟨fn, tmps, assign, body, hy, hR⟩ := hY k wr hlt hJ
      have he : encs xs k = #[.int .i64 xs[k]] := by simp [encs, hlt]
      rw [he] at hy
      clear he
      generalize xs[k] = y at *
      gi_wp2
      refine ⟨fun h => by simp [Fence.wide] at h, hR.mono ?_⟩
      rintro e W3 (⟨rfl, hJ3⟩ | ⟨rfl, hJx3⟩)
      · gi_wp2
        go_roundw
        case rel => exact ⟨k + 1, by omega, by go_num, hJ3⟩
        case measure => simp [intOf]; omega
      · gi_wp2
        refine bodyPost_ret (results_none rfl _ _ _) rfl ?_
        exact ⟨⟨_, rfl⟩, .inr ⟨k + 1, hJx3⟩⟩
    · obtain rfl : k = xs.length := by omega
      gi_wp2
      go_end0
      exact ⟨⟨_, rfl⟩, .inl hJ⟩
end SI
end Go.Proofs.Ytnkbbjeepdjamaa
/- slices.Equal at int: whether two rows are the same. Condition: the rows lie where they are told. -/
namespace Go.Proofs.Ytnkbbjeepdjamaa
open Go.RowKit
namespace SI
set_option maxHeartbeats 1000000 in
theorem equal (A A' : Option Addr) (c c' : Nat) (l l' : List Int) (w : World) (hA : CellsAt A l w) (hA' : CellsAt A' l' w) (hm : l.length ≤ maxLen) (hm' : l'.length ≤ maxLen) :
    Calls Try.prog 23 #[.slice A l.length c, .slice A' l'.length c'] w fun e w' => e = .returned (.bool (decide (l = l'))) ∧ ∃ m, w' = w.drewN m := by
  have HA := Lib.hid hA; clear hA
  have HA' := Lib.hid hA'; clear hA'
  simp only [maxLen] at hm hm'
  by_cases hll : l.length = l'.length
  · have hq : ((l.length : Int) != (l'.length : Int)) = false := by simp [hll]
    generalize hn : l.length = n at *
    generalize hn' : l'.length = n' at *
    have HN := Lib.hid hn; have HN' := Lib.hid hn'; have HLL := Lib.hid hll
    clear hn hn'
    subst hll
    go_enter Try.func23, Try.ntmps23
    go_wp2
    obtain ⟨w0, hw0⟩ : ∃ w0 : World, w0 = w := ⟨_, rfl⟩
    have HW0 := Lib.hid hw0; clear hw0
    go_loopw [13] (fun i wr => ∃ k : Nat, k ≤ n ∧ i = .int .i64 k ∧ (∀ j : Nat, j < k → l[j]? = l'[j]?) ∧ ∃ m, wr = w0.drewN m) (fun i _ => n - (intOf i).toNat)
    case atStart => exact ⟨0, by omega, rfl, fun j h => by omega, 0, HW0.out.symm⟩
    case round =>
      obtain ⟨k, hk, rfl, hI, m, rfl⟩ := hrel
      have HI := Lib.hid hI; clear hI
      by_cases hlt : k < n
      · have hk1 : k < l.length := by have := HN.out; omega
        have hk2 : k < l'.length := by have := HN'.out; omega
        obtain ⟨g, o, rfl, hc1⟩ := HA.out k hk1
        obtain ⟨g', o', rfl, hc2⟩ := HA'.out k hk2
        rw [← HW0.out] at hc1 hc2
        have hkI : (k : Int) < (n : Int) := by omega
        have HY : Hid (l[k]? = some l[k] ∧ l'[k]? = some l'[k]) := ⟨List.getElem?_eq_getElem hk1, List.getElem?_eq_getElem hk2⟩
        generalize l[k] = y at *
        generalize l'[k] = y' at *
        clear hk1 hk2
        go_wp2
        go_quiet (fail)
        by_cases hyy : y = y'
        · have hye : ((y != y')) = false := by simp [hyy]
          have HN2 : Hid (∀ j : Nat, j < k + 1 → l[j]? = l'[j]?) := by
            intro j hj
            rcases (by omega : j < k ∨ j = k) with h | rfl
            · exact HI.out j h
            · rw [HY.out.1, HY.out.2, hyy]
          clear hc1 hc2 hye
          subst hyy
          go_wp2
          all_goals try (exfalso; rename_i hbad; simp at hbad; done)
          go_roundw
          case rel => exact ⟨k + 1, by omega, by go_num, HN2.out, _, rfl⟩
          case measure => simp [intOf]; omega
        · have hye : ((y != y')) = true := by simp [hyy]
          have he : Hid (decide (l = l') = false) := by
            refine decide_eq_false (fun e => hyy ?_)
            have h1 := HY.out.1
            rw [e, HY.out.2] at h1
            exact (Option.some.inj h1).symm
          have hye2 : (y == y') = false := by simp [hyy]
          have HYE := Lib.hid hye2
          clear hyy hc1 hc2
          go_wp2
          all_goals try (exfalso; rename_i hbad; rw [HYE.out] at hbad; cases hbad; done)
          go_ret
          exact ⟨by rw [he.out]; rfl, m + nq, by rw [← HW0.out]; exact World.drewN_drewN _ _ _⟩
      · obtain rfl : k = n := by omega
        have he : Hid (decide (l = l') = true) := by
          refine decide_eq_true (List.ext_getElem? fun j => ?_)
          by_cases hj : j < k
          · exact HI.out j hj
          · rw [List.getElem?_eq_none (by have := HN.out; omega), List.getElem?_eq_none (by have := HN'.out; omega)]
        go_wp2
        go_ret
        exact ⟨by rw [he.out]; rfl, _, by rw [← HW0.out]⟩
  · have hq : ((l.length : Int) != (l'.length : Int)) = true := by simp; omega
    have he : Hid (decide (l = l') = false) := by
      refine decide_eq_false (fun e => hll (by rw [e]))
    go_enter Try.func23, Try.ntmps23
    go_wp2
    all_goals first
      | (exfalso; omega)
      | (go_ret; exact ⟨by rw [he.out]; rfl, 0, rfl⟩)
end SI
end Go.Proofs.Ytnkbbjeepdjamaa
