/- What lookup, store, delete and len do on a map with integer keys that the call made, told by a list of pairs. Condition: the map's block holds just these pairs, each key once. -/
import Derived.Test.YtffnkbicbfjnpaaMem
import Derived.Carry
namespace Go.Proofs.Ytffnkbicbfjnpaa
open Go.RowKit

/-- What is at a key. -/
def getK (al : List (Int × Value)) (x : Int) : Option Value :=
  match al with
  | [] => none
  | p :: al => if p.1 = x then some p.2 else getK al x
def updK (al : List (Int × Value)) (x : Int) (v : Value) : List (Int × Value) :=
  match al with
  | [] => [(x, v)]
  | p :: al => if p.1 = x then (x, v) :: al else p :: updK al x v
def delK (al : List (Int × Value)) (x : Int) : List (Int × Value) :=
  match al with
  | [] => []
  | p :: al => if p.1 = x then al else p :: delK al x
theorem getK_upd (al : List (Int × Value)) (x : Int) (v : Value) (y : Int) : getK (updK al x v) y = if x = y then some v else getK al y := by
  induction al with
  | nil => simp [getK, updK]
  | cons p al ih =>
    by_cases h : p.1 = x
    · by_cases k : x = y
      · simp [getK, updK, h, k]
      · simp [getK, updK, h, k]
    · by_cases k : x = y
      · subst k
        simp [getK, updK, h, ih]
      · simp [getK, updK, h, k, ih]
theorem getK_mem {al : List (Int × Value)} {x : Int} {v : Value} (h : getK al x = some v) : (x, v) ∈ al := by
  induction al with
  | nil => simp [getK] at h
  | cons p al ih =>
    simp only [getK] at h
    split at h
    · rename_i e
      injection h with h
      subst e h
      simp
    · exact List.mem_cons_of_mem _ (ih h)
theorem getK_none {al : List (Int × Value)} {x : Int} : getK al x = none ↔ x ∉ al.map (·.1) := by
  induction al with
  | nil => simp [getK]
  | cons p al ih =>
    simp only [getK, List.map_cons, List.mem_cons, not_or]
    split
    · rename_i e
      simp [e]
    · rename_i e
      rw [ih]
      exact ⟨fun h => ⟨fun e' => e e'.symm, h⟩, fun h => h.2⟩
theorem getK_of_mem {al : List (Int × Value)} (hn : (al.map (·.1)).Nodup) {x : Int} {v : Value} (h : (x, v) ∈ al) : getK al x = some v := by
  induction al with
  | nil => cases h
  | cons p al ih =>
    simp only [List.map_cons, List.nodup_cons] at hn
    simp only [getK]
    rcases List.mem_cons.1 h with rfl | h
    · simp
    · rw [if_neg]
      · exact ih hn.2 h
      · intro e
        exact hn.1 (List.mem_map.2 ⟨_, h, e.symm⟩)
theorem keys_upd (al : List (Int × Value)) (x : Int) (v : Value) : (updK al x v).map (·.1) = if x ∈ al.map (·.1) then al.map (·.1) else al.map (·.1) ++ [x] := by
  induction al with
  | nil => simp [updK]
  | cons p al ih =>
    simp only [updK]
    split
    · rename_i e
      simp [e]
    · rename_i e
      simp only [List.map_cons, ih, List.mem_cons]
      by_cases h : x ∈ al.map (·.1)
      · rw [if_pos h, if_pos (.inr h)]
      · rw [if_neg h, if_neg (by rintro (k | k); exact e k.symm; exact h k)]
        rfl
theorem nodup_upd {al : List (Int × Value)} (hn : (al.map (·.1)).Nodup) (x : Int) (v : Value) : ((updK al x v).map (·.1)).Nodup := by
  rw [keys_upd]
  split
  · exact hn
  · rename_i h
    rw [List.nodup_append]
    refine ⟨hn, by simp, ?_⟩
    rintro a ha b hb rfl
    simp at hb
    subst hb
    exact h ha
theorem len_upd (al : List (Int × Value)) (x : Int) (v : Value) : (updK al x v).length = if x ∈ al.map (·.1) then al.length else al.length + 1 := by
  have := congrArg List.length (keys_upd al x v)
  simp only [List.length_map] at this
  rw [this]
  split <;> simp
theorem getK_del {al : List (Int × Value)} (hn : (al.map (·.1)).Nodup) (x y : Int) : getK (delK al x) y = if x = y then none else getK al y := by
  induction al with
  | nil => simp [getK, delK]
  | cons p al ih =>
    simp only [List.map_cons, List.nodup_cons] at hn
    simp only [delK]
    split
    · rename_i e
      split
      · rename_i k
        rw [getK_none, ← k, ← e]
        exact hn.1
      · rename_i k
        simp only [getK]
        rw [if_neg (fun h => k (by rw [← e, h]))]
    · rename_i e
      simp only [getK, ih hn.2]
      by_cases k : p.1 = y
      · rw [if_pos k, if_neg (fun h => e (by rw [h, k])), if_pos k]
      · rw [if_neg k]
        split
        · rfl
        · rfl
theorem del_sub (al : List (Int × Value)) (x : Int) : (delK al x).Sublist al := by
  induction al with
  | nil => exact List.Sublist.refl _
  | cons p al ih =>
    simp only [delK]
    split
    · exact List.sublist_cons_self _ _
    · exact ih.cons_cons _
theorem nodup_del {al : List (Int × Value)} (hn : (al.map (·.1)).Nodup) (x : Int) : ((delK al x).map (·.1)).Nodup := ((del_sub al x).map _).nodup hn
theorem len_del (al : List (Int × Value)) (x : Int) : (delK al x).length = if x ∈ al.map (·.1) then al.length - 1 else al.length := by
  induction al with
  | nil => simp [delK]
  | cons p al ih =>
    simp only [delK]
    split
    · rename_i e
      simp [e]
    · rename_i e
      simp only [List.length_cons, ih, List.map_cons, List.mem_cons]
      by_cases h : x ∈ al.map (·.1)
      · rw [if_pos h, if_pos (.inr h)]
        have : 0 < al.length := by
          obtain ⟨q, hq, _⟩ := List.mem_map.1 h
          exact List.length_pos_of_mem hq
        omega
      · rw [if_neg h, if_neg (by rintro (k | k); exact e k.symm; exact h k)]

/-- The entries' stamps rise, and are below the clock. -/
def Births (es : List MapEntry) (c : Nat) : Prop := (es.map (·.born)).Pairwise (· < ·) ∧ ∀ b ∈ es.map (·.born), b < c
theorem births_push {es : List MapEntry} {c : Nat} (h : Births es c) (e : MapEntry) (he : e.born = c) : Births (es ++ [e]) (c + 1) := by
  constructor
  · rw [List.map_append, List.pairwise_append]
    refine ⟨h.1, by simp, ?_⟩
    intro a ha b hb
    simp at hb
    subst hb
    rw [he]
    exact h.2 a ha
  · intro b hb
    rw [List.map_append, List.mem_append] at hb
    rcases hb with hb | hb
    · have := h.2 b hb; omega
    · simp at hb; subst hb; omega
theorem map_modify_born (es : List MapEntry) (i : Nat) (f : MapEntry → MapEntry) (hf : ∀ e, (f e).born = e.born) : (es.modify i f).map (·.born) = es.map (·.born) := by
  apply List.ext_getElem?
  intro k
  simp only [List.getElem?_map, List.getElem?_modify]
  split <;> cases es[k]? <;> simp [hf]
theorem births_modify {es : List MapEntry} {c : Nat} (h : Births es c) (i : Nat) (f : MapEntry → MapEntry) (hf : ∀ e, (f e).born = e.born) : Births (es.modify i f) c := by
  unfold Births
  rw [map_modify_born es i f hf]
  exact h
theorem findIdx_list {α : Type} (xs : Array α) (p : α → Bool) : xs.findIdx? p = xs.toList.findIdx? p := by
  cases xs; simp
theorem mod_last (l : List MapEntry) (e : MapEntry) (f : MapEntry → MapEntry) : (l ++ [e]).modify l.length f = l ++ [f e] := by
  induction l with
  | nil => rfl
  | cons a l ih => simp [ih]
theorem mod_last' (es : Array MapEntry) (e : MapEntry) (f : MapEntry → MapEntry) : (es.toList ++ [e]).modify es.size f = es.toList ++ [f e] := by
  have := mod_last es.toList e f
  simpa using this
theorem births_erase {es : List MapEntry} {c : Nat} (h : Births es c) (i : Nat) : Births (es.eraseIdx i) c :=
  ⟨h.1.sublist ((List.eraseIdx_sublist es i).map _), fun b hb => h.2 b (((List.eraseIdx_sublist es i).map _).subset hb)⟩
theorem births_find {es : List MapEntry} {c : Nat} (h : Births es c) (i : Nat) (hi : i < es.length) : es.findIdx? (fun e => (e.born : Int) == ((es[i].born : Nat) : Int)) = some i := by
  rw [List.findIdx?_eq_some_iff_getElem]
  refine ⟨hi, by simp, fun j hj => ?_⟩
  have := List.pairwise_iff_getElem.1 h.1 j i (by simp; omega) (by simp; omega) hj
  simp only [List.getElem_map] at this
  simp
  omega

structure MapIs (w : World) (m : Nat) (K : IntKind) (al : List (Int × Value)) : Prop where
  blk : ∃ es clock, w.heap[m]? = some (.map es clock) ∧ es.toList.map (fun e => (e.key, e.val)) = al.map (fun p => (Value.int K p.1, p.2)) ∧ Births es.toList clock
  nodup : (al.map (·.1)).Nodup
theorem MapIs.lt {w : World} {m : Nat} {K : IntKind} {al : List (Int × Value)} (h : MapIs w m K al) : m < w.heap.size := by
  obtain ⟨es, c, hh, _⟩ := h.blk
  exact (Array.getElem?_eq_some_iff.1 hh).1
theorem MapIs.only {S : Nat → Prop} {a b : World} {m : Nat} {K : IntKind} {al : List (Int × Value)} (h : MapIs a m K al) (ho : Only S a b) (hn : ¬ S m) : MapIs b m K al := by
  obtain ⟨es, c, hh, he⟩ := h.blk
  exact ⟨⟨es, c, (ho.block m h.lt hn).trans hh, he⟩, h.nodup⟩
theorem MapIs.new (w : World) (K : IntKind) : MapIs (w.alloc (.map #[] 0)) w.heap.size K [] := ⟨⟨#[], 0, heap_alloc_new w _, rfl, by simp [Births]⟩, List.nodup_nil⟩

theorem findNow_at (K : IntKind) (x : Int) : ∀ (es : List MapEntry) (al : List (Int × Value)) (i : Nat), es.map (fun e => (e.key, e.val)) = al.map (fun p => (Value.int K p.1, p.2)) →
    ∃ j, Instr.findNow (.int K) (.int K x) es i = some ((getK al x).map fun v => (i + j, v)) ∧ (∀ v, getK al x = some v → ∃ hj : j < es.length, (es.modify j fun e => { e with key := .int K x, val := v }).map (fun e => (e.key, e.val)) = al.map (fun p => (Value.int K p.1, p.2)) ∧
      (∀ u, (es.modify j fun e => { e with key := .int K x, val := u }).map (fun e => (e.key, e.val)) = (updK al x u).map (fun p => (Value.int K p.1, p.2))) ∧ (es.eraseIdx j).map (fun e => (e.key, e.val)) = (delK al x).map (fun p => (Value.int K p.1, p.2)) ∧ (es[j]).key = .int K x)
  | [], [], i, _ => ⟨0, rfl, fun v hv => by simp [getK] at hv⟩
  | [], _ :: _, i, h => by simp at h
  | _ :: _, [], i, h => by simp at h
  | e :: es, p :: al, i, h => by
    simp only [List.map_cons, List.cons.injEq, Prod.mk.injEq] at h
    obtain ⟨⟨hk, hv⟩, hr⟩ := h
    by_cases hx : p.1 = x
    · refine ⟨0, ?_, fun v hg => ⟨by simp, ?_, ?_, ?_, ?_⟩⟩
      · simp [Instr.findNow, Instr.sameNow, hk, hx, getK, hv]
      · simp [getK, hx] at hg
        subst hg
        simp [hr, hx]
      · intro u
        simp [updK, hx, hr]
      · simp [delK, hx, hr]
      · simp [hk, hx]
    · obtain ⟨j, h1, h2⟩ := findNow_at K x es al (i + 1) hr
      have hne : (x == p.1) = false := by simpa using fun e => hx e.symm
      refine ⟨j + 1, ?_, ?_⟩
      · simp only [Instr.findNow, Instr.sameNow, hk, if_true, hne, h1, getK, if_neg hx]
        congr 2
        funext v
        rw [show i + 1 + j = i + (j + 1) by omega]
      · intro v hg
        simp only [getK, if_neg hx] at hg
        obtain ⟨hj, a, b, c, d⟩ := h2 v hg
        refine ⟨by simp; omega, ?_, ?_, ?_, ?_⟩
        · simp [hk, hv, a]
        · intro u
          simp [updK, hx, hk, hv, b u]
        · simp [delK, hx, hk, hv, c]
        · simpa using d

section
variable {P : Program}
theorem findKey_run {kt : TypeId} {K : IntKind} (hk : P.underlying kt = some (.int K)) (x : Int) (es : List MapEntry) (al : List (Int × Value)) (w : World)
    (h : es.map (fun e => (e.key, e.val)) = al.map (fun p => (Value.int K p.1, p.2))) :
    ∃ j, (Instr.findKey kt (.int K x) es).run P w = .ok ((getK al x).map fun v => (j, v)) w ∧ (∀ v, getK al x = some v → ∃ hj : j < es.length,
      (∀ u, (es.modify j fun e => { e with key := .int K x, val := u }).map (fun e => (e.key, e.val)) = (updK al x u).map (fun p => (Value.int K p.1, p.2))) ∧ (es.eraseIdx j).map (fun e => (e.key, e.val)) = (delK al x).map (fun p => (Value.int K p.1, p.2)) ∧ (es[j]).key = .int K x) := by
  obtain ⟨j, h1, h2⟩ := findNow_at K x es al 0 h
  refine ⟨j, ?_, fun v hv => let ⟨hj, _, b, c, d⟩ := h2 v hv; ⟨hj, b, c, d⟩⟩
  simp [Instr.findKey, run_underlying hk, h1]
theorem checkKey_run {kt : TypeId} {K : IntKind} (hk : P.underlying kt = some (.int K)) (b : Bool) (x : Int) (w : World) : (Instr.checkKey b 10000 kt (.int K x)).run P w = .ok () w := by
  have h : ∀ n : Nat, (Instr.checkKey b (n + 1) kt (.int K x)).run P w = .ok () w := fun n => by simp [Instr.checkKey, run_underlying hk]
  exact h 9999
theorem sameBits_int (n : Nat) (K : IntKind) (a : Int) : Instr.sameBits n (.int K a) (.int K a) = true := by
  cases n <;> simp [Instr.sameBits]
theorem getObj_map {w : World} {m : Nat} {es : Array MapEntry} {c : Nat} (h : w.heap[m]? = some (.map es c)) : (getObj m).run P w = .ok (.map es c) w := by
  simp [getObj, Sem.run, h]
theorem run_lookupK {T kt et : TypeId} {K : IntKind} (hT : P.underlying T = some (.map kt et)) (hk : P.underlying kt = some (.int K)) {z : Value} (hz : ∀ w, (zeroValue et).run P w = .ok z w)
    {w : World} {m : Nat} {al : List (Int × Value)} (h : MapIs w m K al) (x : Int) : (Instr.lookup T (.map (some m)) (.int K x) false).run P w = .ok ((getK al x).getD z) w := by
  obtain ⟨es, c, hh, he, hbo⟩ := h.blk
  obtain ⟨j, h1, _⟩ := findKey_run (P := P) hk x es.toList al w he
  simp only [Instr.lookup]
  simp [run_underlying hT, getObj_map hh, checkKey_run hk, h1]
  cases getK al x with
  | none => simp [hz]
  | some v => simp
theorem run_lookupK_ok {T kt et : TypeId} {K : IntKind} (hT : P.underlying T = some (.map kt et)) (hk : P.underlying kt = some (.int K)) {z : Value} (hz : ∀ w, (zeroValue et).run P w = .ok z w)
    {w : World} {m : Nat} {al : List (Int × Value)} (h : MapIs w m K al) (x : Int) : (Instr.lookup T (.map (some m)) (.int K x) true).run P w = .ok (.tuple #[(getK al x).getD z, .bool (getK al x).isSome]) w := by
  obtain ⟨es, c, hh, he, hbo⟩ := h.blk
  obtain ⟨j, h1, _⟩ := findKey_run (P := P) hk x es.toList al w he
  simp only [Instr.lookup]
  simp [run_underlying hT, getObj_map hh, checkKey_run hk, h1]
  cases getK al x with
  | none => simp [hz]
  | some v => simp
theorem run_lookupK_nil {T kt et : TypeId} {K : IntKind} (hT : P.underlying T = some (.map kt et)) (hk : P.underlying kt = some (.int K)) {z : Value} (hz : ∀ w, (zeroValue et).run P w = .ok z w)
    (w : World) (x : Int) : (Instr.lookup T (.map none) (.int K x) false).run P w = .ok z w := by
  simp only [Instr.lookup]
  simp [run_underlying hT, checkKey_run hk, Instr.findKey, run_underlying hk, Instr.findNow, hz]
theorem run_lookupK_nil_ok {T kt et : TypeId} {K : IntKind} (hT : P.underlying T = some (.map kt et)) (hk : P.underlying kt = some (.int K)) {z : Value} (hz : ∀ w, (zeroValue et).run P w = .ok z w)
    (w : World) (x : Int) : (Instr.lookup T (.map none) (.int K x) true).run P w = .ok (.tuple #[z, .bool false]) w := by
  simp only [Instr.lookup]
  simp [run_underlying hT, checkKey_run hk, Instr.findKey, run_underlying hk, Instr.findNow, hz]
theorem setObj_map {w : World} {m : Nat} {es : Array MapEntry} {c : Nat} (h : w.heap[m]? = some (.map es c)) (es' : Array MapEntry) (c' : Nat) :
    (setObj m (.map es' c')).run P w = .ok () { w with heap := w.heap.setIfInBounds m (.map es' c') } := by
  simp [setObj, Sem.run, h]
theorem only_putMap (w : World) (m : Nat) (o : Obj) : Only (fun k => k = m) w { w with heap := w.heap.setIfInBounds m o } :=
  ⟨rfl, rfl, rfl, by simp, fun k _ hn => by
    show (w.heap.setIfInBounds m o)[k]? = w.heap[k]?
    rw [Array.getElem?_setIfInBounds, if_neg (fun e => hn e.symm)]⟩
theorem put_at (w : World) (m : Nat) (o : Obj) (h : m < w.heap.size) : ({ w with heap := w.heap.setIfInBounds m o } : World).heap[m]? = some o := by
  show (w.heap.setIfInBounds m o)[m]? = some o
  rw [Array.getElem?_setIfInBounds, if_pos rfl, if_pos h]
theorem run_updK {T kt et : TypeId} {K : IntKind} (hT : P.underlying T = some (.map kt et)) (hk : P.underlying kt = some (.int K))
    {w : World} {m : Nat} {al : List (Int × Value)} (h : MapIs w m K al) (x : Int) (v : Value) :
    ∃ w', (Instr.mapUpdate T (.map (some m)) (.int K x) v).run P w = .ok () w' ∧ MapIs w' m K (updK al x v) ∧ Only (fun k => k = m) w w' := by
  obtain ⟨es, c, hh, he, hbo⟩ := h.blk
  obtain ⟨j, h1, h2⟩ := findKey_run (P := P) hk x es.toList al w he
  cases hg : getK al x with
  | none =>
    rw [hg] at h1
    refine ⟨{ w with heap := w.heap.setIfInBounds m (.map (es.push { key := .int K x, val := v, born := c }) (c + 1)) }, ?_, ⟨⟨_, _, put_at w m _ h.lt, ?_, by simpa using births_push hbo _ rfl⟩, nodup_upd h.nodup x v⟩, only_putMap w m _⟩
    · simp only [Instr.mapUpdate]
      simp [run_underlying hT, getObj_map hh, checkKey_run hk, h1, setObj_map hh]
    · have hn := getK_none.1 hg
      have e2 : updK al x v = al ++ [(x, v)] := by
        have : ∀ l : List (Int × Value), x ∉ l.map (·.1) → updK l x v = l ++ [(x, v)] := by
          intro l
          induction l with
          | nil => intro _; rfl
          | cons p l ih =>
            intro hx
            simp only [List.map_cons, List.mem_cons, not_or] at hx
            have hne : ¬ p.1 = x := fun e => hx.1 e.symm
            simp only [updK, if_neg hne, ih hx.2, List.cons_append]
        exact this al hn
      rw [e2]
      simp [he]
  | some u =>
    rw [hg] at h1
    obtain ⟨hj, a, _, d⟩ := h2 u hg
    have hj' : j < es.size := by simpa using hj
    refine ⟨{ w with heap := w.heap.setIfInBounds m (.map (es.modify j fun e => { e with key := .int K x, val := v }) c) }, ?_, ⟨⟨_, _, put_at w m _ h.lt, ?_, by have := births_modify hbo j (fun e => { e with key := .int K x, val := v }) (fun _ => rfl); simpa using this⟩, nodup_upd h.nodup x v⟩, only_putMap w m _⟩
    · have hkey : ((es[j]?).map (·.key)).getD (.int K x) = .int K x := by
        rw [Array.getElem?_eq_getElem hj']
        have : es[j].key = .int K x := by simpa using d
        simp [this]
      have hst : ∀ W : World, (Instr.keyThatStays (((es[j]?).map (·.key)).getD (.int K x)) (.int K x)).run P W = .ok (.int K x) W := fun W => by
        rw [hkey]; simp [Instr.keyThatStays, sameBits_int]
      simp only [Instr.mapUpdate]
      simp [run_underlying hT, getObj_map hh, checkKey_run hk, h1]
      rw [hst]
      simp [setObj_map hh]
    · rw [← a v]
      simp
theorem run_delK {T kt et ty : TypeId} {K : IntKind} (hT : P.underlying T = some (.map kt et)) (hk : P.underlying kt = some (.int K))
    {w : World} {m : Nat} {al : List (Int × Value)} (h : MapIs w m K al) (x : Int) {ats : Array TypeId} (hats : ats[0]? = some T) :
    ∃ w', (Builtin.delete_ ats ty #[.map (some m), .int K x]).run P w = .ok (.tuple #[]) w' ∧ MapIs w' m K (delK al x) ∧ Only (fun k => k = m) w w' := by
  obtain ⟨es, c, hh, he, hbo⟩ := h.blk
  obtain ⟨j, h1, h2⟩ := findKey_run (P := P) hk x es.toList al w he
  cases hg : getK al x with
  | none =>
    rw [hg] at h1
    refine ⟨{ w with heap := w.heap.setIfInBounds m (.map es c) }, ?_, ⟨⟨_, _, put_at w m _ h.lt, ?_, hbo⟩, nodup_del h.nodup x⟩, only_putMap w m _⟩
    · simp only [Builtin.delete_]
      simp [hats, run_underlying hT, getObj_map hh, checkKey_run hk, h1, setObj_map hh]
    · have hn := getK_none.1 hg
      have : ∀ l : List (Int × Value), x ∉ l.map (·.1) → delK l x = l := by
        intro l
        induction l with
        | nil => intro _; rfl
        | cons p l ih =>
          intro hx
          simp only [List.map_cons, List.mem_cons, not_or] at hx
          have hne : ¬ p.1 = x := fun e => hx.1 e.symm
          simp only [delK, if_neg hne, ih hx.2]
      rw [this al hn]
      exact he
  | some u =>
    rw [hg] at h1
    obtain ⟨hj, _, b, _⟩ := h2 u hg
    have hj' : j < es.size := by simpa using hj
    refine ⟨{ w with heap := w.heap.setIfInBounds m (.map (es.eraseIdxIfInBounds j) c) }, ?_, ⟨⟨_, _, put_at w m _ h.lt, ?_, by simpa [Array.eraseIdxIfInBounds, hj'] using births_erase hbo j⟩, nodup_del h.nodup x⟩, only_putMap w m _⟩
    · simp only [Builtin.delete_]
      simp [hats, run_underlying hT, getObj_map hh, checkKey_run hk, h1, setObj_map hh]
    · rw [← b]
      simp [Array.eraseIdxIfInBounds, hj']
theorem run_lenK {T kt et ty : TypeId} {K : IntKind} (hT : P.underlying T = some (.map kt et)) {w : World} {m : Nat} {al : List (Int × Value)} (h : MapIs w m K al) {ats : Array TypeId} (hats : ats[0]? = some T) :
    (Builtin.len_ ats ty #[.map (some m)]).run P w = .ok (.int .i64 al.length) w := by
  obtain ⟨es, c, hh, he, hbo⟩ := h.blk
  have hl : es.size = al.length := by
    have := congrArg List.length he
    simpa using this
  simp only [Builtin.len_]
  simp [hats, run_underlying hT, getObj_map hh, goInt, hl]
theorem run_lenK_nil {T kt et ty : TypeId} (hT : P.underlying T = some (.map kt et)) (w : World) {ats : Array TypeId} (hats : ats[0]? = some T) :
    (Builtin.len_ ats ty #[.map none]).run P w = .ok (.int .i64 0) w := by
  simp only [Builtin.len_]
  simp [hats, run_underlying hT, goInt]
/-- An entry is made ready, and stored into later: the map then holds the pair. -/
theorem run_entryK {T kt et : TypeId} {K : IntKind} (hT : P.underlying T = some (.map kt et)) (hk : P.underlying kt = some (.int K)) {z : Value} (hz : ∀ w, (zeroValue et).run P w = .ok z w)
    {w : World} {m : Nat} {al : List (Int × Value)} (h : MapIs w m K al) (x : Int) :
    ∃ w1 st u, (Instr.mapEntry T (.map (some m)) (.int K x)).run P w = .ok (.tuple #[u, .int .i64 st]) w1 ∧ Only (fun k => k = m) w w1 ∧
      ∀ w2 : World, w2.heap[m]? = w1.heap[m]? → ∀ v, ∃ w3, (Instr.entryStore T (.map (some m)) (.int .i64 st) v).run P w2 = .ok () w3 ∧ MapIs w3 m K (updK al x v) ∧ Only (fun k => k = m) w2 w3 := by
  obtain ⟨es, c, hh, he, hbo⟩ := h.blk
  obtain ⟨j, h1, h2⟩ := findKey_run (P := P) hk x es.toList al w he
  cases hg : getK al x with
  | none =>
    rw [hg] at h1
    have e2 : ∀ v, updK al x v = al ++ [(x, v)] := by
      have hn := getK_none.1 hg
      have : ∀ v, ∀ l : List (Int × Value), x ∉ l.map (·.1) → updK l x v = l ++ [(x, v)] := by
        intro v l
        induction l with
        | nil => intro _; rfl
        | cons p l ih =>
          intro hx
          simp only [List.map_cons, List.mem_cons, not_or] at hx
          have hne : ¬ p.1 = x := fun e => hx.1 e.symm
          simp only [updK, if_neg hne, ih hx.2, List.cons_append]
      exact fun v => this v al hn
    refine ⟨{ w with heap := w.heap.setIfInBounds m (.map (es.push { key := .int K x, val := z, born := c }) (c + 1)) }, c, z, ?_, only_putMap w m _, ?_⟩
    · simp only [Instr.mapEntry]
      simp [run_underlying hT, getObj_map hh, checkKey_run hk, h1, setObj_map hh, hz, goInt]
    · intro w2 hw2 v
      rw [put_at w m _ h.lt] at hw2
      have hlt2 : m < w2.heap.size := (Array.getElem?_eq_some_iff.1 hw2).1
      have hb2 : Births (es.toList ++ [{ key := .int K x, val := z, born := c }]) (c + 1) := births_push hbo _ rfl
      have hf := births_find hb2 es.size (by simp)
      have hf' : (es.push { key := .int K x, val := z, born := c }).findIdx? (fun e => (e.born : Int) == (c : Int)) = some es.size := by
        rw [findIdx_list]
        simp only [Array.toList_push]
        have : (es.toList ++ [({ key := .int K x, val := z, born := c } : MapEntry)])[es.size]'(by simp) = { key := .int K x, val := z, born := c } := by simp [List.getElem_append_right]
        rw [this] at hf
        simpa using hf
      refine ⟨{ w2 with heap := w2.heap.setIfInBounds m (.map ((es.push { key := .int K x, val := z, born := c }).modify es.size fun e => { e with val := v }) (c + 1)) }, ?_, ⟨⟨_, _, put_at w2 m _ hlt2, ?_, ?_⟩, nodup_upd h.nodup x v⟩, only_putMap w2 m _⟩
      · simp only [Instr.entryStore]
        simp [getObj_map hw2, asInt, asIntOf, hf', setObj_map hw2]
      · rw [e2 v]
        simp [he, mod_last']
      · have := births_modify hb2 es.size (fun e => { e with val := v }) (fun _ => rfl)
        simpa using this
  | some u =>
    rw [hg] at h1
    obtain ⟨hj, a, _, d⟩ := h2 u hg
    have hj' : j < es.size := by simpa using hj
    have hd : es[j].key = .int K x := by simpa using d
    have hkey : ((es[j]?).map (·.key)).getD (.int K x) = .int K x := by
      rw [Array.getElem?_eq_getElem hj']
      simp [hd]
    have hst : ∀ W : World, (Instr.keyThatStays (((es[j]?).map (·.key)).getD (.int K x)) (.int K x)).run P W = .ok (.int K x) W := fun W => by
      rw [hkey]; simp [Instr.keyThatStays, sameBits_int]
    refine ⟨{ w with heap := w.heap.setIfInBounds m (.map (es.modify j fun e => { e with key := .int K x }) c) }, es[j].born, u, ?_, only_putMap w m _, ?_⟩
    · simp only [Instr.mapEntry]
      simp [run_underlying hT, getObj_map hh, checkKey_run hk, h1]
      rw [hst]
      simp [setObj_map hh, goInt, Array.getElem?_eq_getElem hj']
    · intro w2 hw2 v
      rw [put_at w m _ h.lt] at hw2
      have hlt2 : m < w2.heap.size := (Array.getElem?_eq_some_iff.1 hw2).1
      have hb2 : Births (es.toList.modify j fun e => { e with key := .int K x }) c := births_modify hbo j _ (fun _ => rfl)
      have hf := births_find hb2 j (by simpa using hj')
      have hf' : (es.modify j fun e => { e with key := .int K x }).findIdx? (fun e => (e.born : Int) == (es[j].born : Int)) = some j := by
        rw [findIdx_list]
        simp only [Array.toList_modify]
        simpa [List.getElem_modify] using hf
      refine ⟨{ w2 with heap := w2.heap.setIfInBounds m (.map ((es.modify j fun e => { e with key := .int K x }).modify j fun e => { e with val := v }) c) }, ?_, ⟨⟨_, _, put_at w2 m _ hlt2, ?_, ?_⟩, nodup_upd h.nodup x v⟩, only_putMap w2 m _⟩
      · simp only [Instr.entryStore]
        simp [getObj_map hw2, asInt, asIntOf, hf', setObj_map hw2]
      · rw [← a v]
        simp [List.modify_modify_eq, Function.comp_def]
      · have := births_modify hb2 j (fun e => { e with val := v }) (fun _ => rfl)
        simpa using this
end
end Go.Proofs.Ytffnkbicbfjnpaa
