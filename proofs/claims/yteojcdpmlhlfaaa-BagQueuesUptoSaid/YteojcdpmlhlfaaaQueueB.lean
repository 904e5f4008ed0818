/- What bag.Queue[uint8] answers: Put, Take, Len. Condition: the queue's blocks are of the call's own. -/
import Derived.Test.YteojcdpmlhlfaaaMaps
import Derived.Test.YteojcdpmlhlfaaaRow
import Derived.Test.YteojcdpmlhlfaaaProg
import Derived.WalkLawsBesides
import Derived.WalkSpells
import Derived.Lib.AppendZeros
namespace Go.Proofs.Yteojcdpmlhlfaaa
open Go.RowKit
namespace QB

structure QueueAt (w : World) (base p : Nat) (F : Nat → Prop) (l : List Int) : Prop where
  foot : ∀ k, F k → base ≤ k ∧ k < w.heap.size
  nodup : l.Nodup
  at_ : ∃ v mo, w.heap[p]? = some (.cells #[v, .map mo] 58 (0, 0)) ∧ F p ∧ RowAt w base 5 v (l.map (Value.int .u8)) ∧ (∀ g, v.ownBlock = some g → F g) ∧ (mo = none → l = []) ∧
    ∀ m, mo = some m → F m ∧ ∃ al, MapIs w m .u8 al ∧ ∀ x, getK al x = if x ∈ l then some (.bool true) else none
theorem QueueAt.only {S : Nat → Prop} {w w' : World} {base p : Nat} {F : Nat → Prop} {l : List Int} (h : QueueAt w base p F l) (ho : Only S w w') (hn : ∀ k, F k → ¬ S k) : QueueAt w' base p F l := by
  obtain ⟨hf, hd, v, mo, hp, hF, hr, hrf, hno, hso⟩ := h
  refine ⟨fun k hk => ⟨(hf k hk).1, Nat.lt_of_lt_of_le (hf k hk).2 ho.size⟩, hd, v, mo, (ho.block p (hf p hF).2 (hn p hF)).trans hp, hF, RowAt.only ho hr (fun g hg => hn g (hrf g hg)), hrf, hno, fun m hm => ?_⟩
  obtain ⟨h1, al, h2, h3⟩ := hso m hm
  exact ⟨h1, al, h2.only ho (hn m h1), h3⟩
theorem QueueAt.new (w : World) (base : Nat) (hb : base ≤ w.heap.size) : QueueAt (w.alloc (.cells #[.slice none 0 0, .map none] 58)) base w.heap.size (fun k => k = w.heap.size) [] :=
  ⟨(fun k hk => by simp; omega), List.nodup_nil, _, _, heap_alloc_new w _, rfl, .inl ⟨rfl, rfl⟩, (fun g hg => by cases hg), (fun _ => rfl), (fun m hm => by cases hm)⟩

theorem infoB : (Try.prog.info? 5).map (fun i => (i.zero, i.size, i.bytes)) = some (some (.int .u8 0), 1, 1) := by kernel_rfl
theorem zero_bool : ∀ w : World, (zeroValue 4).run Try.prog w = .ok (.bool false) w := fun w => by kernel_rfl

/-- The latter part of Put: the map's cell, the row, the field. -/
theorem put_run {W : World} {base p m : Nat} {F : Nat → Prop} {l : List Int} {v : Value} {al : List (Int × Value)} (x : Int) (hF : ∀ k, F k → base ≤ k ∧ k < W.heap.size) (hd : l.Nodup) (hx : x ∉ l)
    (hp : W.heap[p]? = some (.cells #[v, .map (some m)] 58 (0, 0))) (hFp : F p) (hr : RowAt W base 5 v (l.map (Value.int .u8))) (hrf : ∀ g, v.ownBlock = some g → F g)
    (hFm : F m) (hm : MapIs W m .u8 al) (hget : ∀ x, getK al x = if x ∈ l then some (.bool true) else none) (hn : l.length < 1000) (hb : base ≤ W.heap.size) :
    ∃ w2 g o c w3, (Instr.mapUpdate 56 (.map (some m)) (.int .u8 x) (.bool true)).run Try.prog W = .ok () w2 ∧ w2.cell? ⟨p, 0, none⟩ = some v ∧ w2.frozen? ⟨p, 0, none⟩ = false ∧
      (Builtin.append_ #[55, 55] 55 #[v, .slice (some ⟨w2.heap.size, 0, none⟩) 1 1]).run Try.prog (w2.alloc (.cells #[.int .u8 x] 5)) = .ok (.slice (some ⟨g, o, none⟩) (l.length + 1) c) w3 ∧
      w3.cell? ⟨p, 0, none⟩ = some v ∧ w3.frozen? ⟨p, 0, none⟩ = false ∧ 
      QueueAt (w3.setCell ⟨p, 0, none⟩ (.slice (some ⟨g, o, none⟩) (l.length + 1) c)) base p (fun k => F k ∨ (W.heap.size ≤ k ∧ k < w3.heap.size)) (l ++ [x]) ∧ Only F W (w3.setCell ⟨p, 0, none⟩ (.slice (some ⟨g, o, none⟩) (l.length + 1) c)) := by
  obtain ⟨w2, hrun, hm2, ho2⟩ := run_updK (P := Try.prog) Try.underlying56 Try.underlying5 hm x (.bool true)
  have hpm : p ≠ m := by
    rintro rfl
    obtain ⟨es, c, hh, _⟩ := hm.blk
    rw [hp] at hh; cases hh
  have hvm : v.ownBlock ≠ some m := by
    obtain ⟨es, c, hh, _⟩ := hm.blk
    exact hr.ne_map hh
  have hvp : v.ownBlock ≠ some p := hr.ne_blk hp (by decide)
  have hp2 := (ho2.block p (hF p hFp).2 hpm).trans hp
  have hr2 : RowAt w2 base 5 v (l.map (Value.int .u8)) := RowAt.only ho2 hr (fun g hg e => by subst e; exact hvm hg)
  have ho3 := Only.alloc (fun _ => False) w2 (.cells #[.int .u8 x] 5)
  have hr3 := RowAt.only ho3 hr2 (fun _ _ => id)
  have hp3 := (ho3.block p (by have := ho2.size; have := (hF p hFp).2; omega) id).trans hp2
  have hm3 := hm2.only ho3 id
  obtain ⟨i, hi, hz0, hz1, hz2⟩ := info_parts infoB
  have hnew : (w2.alloc (.cells #[.int .u8 x] 5)).cell? ⟨w2.heap.size, 0, none⟩ = some (.int .u8 x) := by
    rw [cell_of_blk _ _ _ _ _ (heap_alloc_new w2 _)]; rfl
  obtain ⟨v', w3, hap, hr4, ho4, hfr⟩ := RowAt.append (P := Try.prog) 55 55 5 i _ 1 Try.underlying55 hi hz0 hz1 hz2 rfl hr3 ⟨w2.heap.size, 0, none⟩ (.int .u8 x) hnew rfl (by have := ho2.size; have := ho3.size; omega) (by simp [maxLen]; omega) (by simp; omega)
  have hp4 := (ho4.block p (by have := ho2.size; have := ho3.size; have := (hF p hFp).2; omega) hvp).trans hp3
  have hm4 := hm3.only ho4 hvm
  obtain ⟨A, c, hv'⟩ : ∃ A c, v' = .slice A (l.length + 1) c := by
    obtain ⟨A, c, h⟩ := hr4.slice
    exact ⟨A, c, by simpa using h⟩
  rcases hr4.form with ⟨_, h⟩ | ⟨g, o, c', hv2, hlc⟩
  · simp at h
  have hv3 : v' = .slice (some ⟨g, o, none⟩) (l.length + 1) c' := by simpa using hv2
  subst hv3
  refine ⟨w2, g, o, c', w3, hrun, ?_, ?_, hap, ?_, ?_, ?_, ?_⟩
  · rw [cell_of_blk _ _ _ _ _ hp2]; rfl
  · simp [World.frozen?, hp2]
  · rw [cell_of_blk _ _ _ _ _ hp4]; rfl
  · simp [World.frozen?, hp4]
  · have ho5 := Only.setCell w3 ⟨p, 0, none⟩ (.slice (some ⟨g, o, none⟩) (l.length + 1) c')
    have hgp : (Value.slice (some ⟨g, o, none⟩) (l.length + 1) c').ownBlock ≠ some p := hr4.ne_blk hp4 (by decide)
    have hs0 : W.heap.size ≤ w2.heap.size := ho2.size
    have hs1 : w2.heap.size < w3.heap.size := by have h1 := ho4.size; simp at h1; omega
    have hs2 : (w3.setCell ⟨p, 0, none⟩ (.slice (some ⟨g, o, none⟩) (l.length + 1) c')).heap.size = w3.heap.size := by simp [World.setCell]
    refine ⟨fun k hk => ?_, ?_, .slice (some ⟨g, o, none⟩) (l.length + 1) c', some m, ?_, .inl hFp, ?_, fun g' hg' => ?_, (fun h => by cases h), fun m' hm' => ?_⟩
    · rw [hs2]
      rcases hk with hk | hk
      · have := hF k hk; omega
      · omega
    · rw [List.nodup_append]
      refine ⟨hd, by simp, ?_⟩
      rintro a ha b hb rfl
      simp at hb
      subst hb
      exact hx ha
    · simp [World.setCell, Array.getElem?_modify, hp4]
    · have := RowAt.only ho5 hr4 (fun g' hg' e => hgp (by rw [hg', e]))
      simpa using this
    · rcases hfr with hfr | ⟨g2, hg2, hle⟩
      · exact .inl (hrf g' (by rw [← hfr]; exact hg'))
      · rw [hg'] at hg2
        cases hg2
        exact .inr ⟨by have := ho3.size; omega, (hr4.lt hg').1⟩
    · injection hm' with hm'
      subst hm'
      refine ⟨.inl hFm, _, hm4.only ho5 (fun e => hpm e.symm), fun y => ?_⟩
      rw [getK_upd, hget y]
      by_cases hy : x = y
      · subst hy; simp
      · rw [if_neg hy]
        simp [show ¬ y = x from fun e => hy e.symm]
  · have h1 : Only F W w2 := ho2.mono (fun k _ h => by subst h; exact hFm)
    have h2 := h1.trans ho3 (fun _ _ h => h.elim)
    have h3 := h2.trans ho4 (fun k _ h => hrf k h)
    exact h3.trans (Only.setCell w3 ⟨p, 0, none⟩ _) (fun k _ h => by subst h; exact hFp)

theorem put_old {w : World} {base p : Nat} {F : Nat → Prop} {l : List Int} (h : QueueAt w base p F l) (x : Int) (hx : x ∈ l) :
    Calls Try.prog 28 #[.pointer (some ⟨p, 0, none⟩), .int .u8 x] w fun e w' => e = .returned (.bool false) ∧ w = w' := by
  obtain ⟨hf, hd, v, mo, hp, hF, hr, hrf, hno, hso⟩ := h
  have hc : w.cell? ⟨p, 1, none⟩ = some (.map mo) := by rw [cell_of_blk _ _ _ _ _ hp]; rfl
  cases mo with
  | none => rw [hno rfl] at hx; cases hx
  | some m =>
    obtain ⟨_, al, hm, hget⟩ := hso m rfl
    have hlook := run_lookupK (P := Try.prog) Try.underlying56 Try.underlying5 zero_bool hm x
    rw [hget x, if_pos hx] at hlook
    simp only [Option.getD_some] at hlook
    clear hf hd hp hF hr hrf hno hso hm hget
    go_enter Try.func28, Try.ntmps28
    go_wp2
    all_goals go_ret
    all_goals exact ⟨rfl, rfl⟩
set_option maxHeartbeats 1000000 in
set_option maxRecDepth 100000 in
theorem put_new {w : World} {base p : Nat} {F : Nat → Prop} {l : List Int} (h : QueueAt w base p F l) (x : Int) (hx : x ∉ l) (hn : l.length < 1000) (hb : base ≤ w.heap.size) :
    Calls Try.prog 28 #[.pointer (some ⟨p, 0, none⟩), .int .u8 x] w fun e w' => e = .returned (.bool true) ∧ QueueAt w' base p (fun k => F k ∨ (w.heap.size ≤ k ∧ k < w'.heap.size)) (l ++ [x]) ∧ Only F w w' := by
  obtain ⟨hf, hd, v, mo, hp, hF, hr, hrf, hno, hso⟩ := h
  have hc : w.cell? ⟨p, 1, none⟩ = some (.map mo) := by rw [cell_of_blk _ _ _ _ _ hp]; rfl
  have hz : w.frozen? ⟨p, 1, none⟩ = false := by simp [World.frozen?, hp]
  cases mo with
  | none =>
    obtain rfl := hno rfl
    have hlook := run_lookupK_nil (P := Try.prog) Try.underlying56 Try.underlying5 zero_bool w x
    have hq := fun W => run_eql_map_nil (P := Try.prog) W _ _ _ none Try.underlying56
    simp only [Option.isNone_none] at hq
    have hmm := fun W => run_makeMap (P := Try.prog) 56 W
    have hlt : p < w.heap.size := (hf p hF).2
    obtain ⟨W1, hW1⟩ : ∃ W1, W1 = (w.setCell ⟨p, 1, none⟩ (.map (some w.heap.size))).alloc (.map #[] 0) := ⟨_, rfl⟩
    have hsz : (w.setCell ⟨p, 1, none⟩ (.map (some w.heap.size))).heap.size = w.heap.size := by simp [World.setCell]
    have hm1 : MapIs W1 w.heap.size .u8 [] := by
      have := MapIs.new (w.setCell ⟨p, 1, none⟩ (.map (some w.heap.size))) .u8
      rw [hW1]; rw [hsz] at this; exact this
    have hvp : v.ownBlock ≠ some p := hr.ne_blk hp (by decide)
    have ho1 : Only (fun k => k = p) w W1 := by rw [hW1]; exact (Only.setCell w ⟨p, 1, none⟩ (.map (some w.heap.size))).trans (Only.alloc (fun _ => False) _ _) (fun _ _ h => h.elim)
    have hp1 : W1.heap[p]? = some (.cells #[v, .map (some w.heap.size)] 58 (0, 0)) := by
      rw [hW1]
      refine (Below.heap_alloc _ _ _ (by simp [World.setCell]; exact hlt)).trans ?_
      simp [World.setCell, Array.getElem?_modify, hp]
    have hs1 : W1.heap.size = w.heap.size + 1 := by rw [hW1]; simp [World.setCell]
    obtain ⟨w2, g, o, c, w3, hupd, c2, f2, hap, c3, f3, hQ, hO⟩ := put_run (W := W1) (m := w.heap.size) (F := fun k => F k ∨ k = w.heap.size) x (fun k hk => by
        rcases hk with hk | rfl
        · have := hf k hk; omega
        · omega) hd hx hp1 (.inl hF) (RowAt.only ho1 hr (fun g hg e => hvp (by rw [hg, e]))) (fun g hg => .inl (hrf g hg)) (.inr rfl) hm1 (by simp [getK]) hn (by omega)
    have hall : QueueAt (w3.setCell ⟨p, 0, none⟩ (.slice (some ⟨g, o, none⟩) (([] : List Int).length + 1) c)) base p (fun k => F k ∨ (w.heap.size ≤ k ∧ k < (w3.setCell ⟨p, 0, none⟩ (.slice (some ⟨g, o, none⟩) (([] : List Int).length + 1) c)).heap.size)) ([] ++ [x]) ∧ Only F w (w3.setCell ⟨p, 0, none⟩ (.slice (some ⟨g, o, none⟩) (([] : List Int).length + 1) c)) := by
      refine ⟨?_, (ho1.mono (fun k _ h => by subst h; exact hF)).trans hO (fun k hk h => h.elim id (fun e => by omega))⟩
      have e : (w3.setCell ⟨p, 0, none⟩ (.slice (some ⟨g, o, none⟩) (([] : List Int).length + 1) c)).heap.size = w3.heap.size := by simp [World.setCell]
      have hsz3 := hO.size
      rw [e] at hsz3
      rw [e]
      have : (fun k => F k ∨ (w.heap.size ≤ k ∧ k < w3.heap.size)) = (fun k => (F k ∨ k = w.heap.size) ∨ (W1.heap.size ≤ k ∧ k < w3.heap.size)) := by
        funext k
        apply propext
        constructor
        · rintro (h | h)
          · exact .inl (.inl h)
          · by_cases e : k = w.heap.size
            · exact .inl (.inr e)
            · exact .inr (by omega)
        · rintro ((h | h) | h)
          · exact .inl h
          · exact .inr (by omega)
          · exact .inr (by omega)
      rw [this]
      exact hQ
    rw [hW1] at hupd
    have HALL := Lib.hid hall
    have HAP := Lib.hid hap
    clear hap
    clear hno hso hW1 hm1 hvp ho1 hp1 hs1 hQ hO hall hsz hp hr hrf hf hd
    go_enter Try.func28, Try.ntmps28
    go_wp2_with (first | (at_builtin; refine Lib.wpList_append_run _ rfl _ _ _ _ rfl _ _ rfl rfl _ _ HAP.out ?_) | go_in)
    all_goals first
      | (exfalso; omega)
      | (go_ret; exact ⟨rfl, HALL.out.1, HALL.out.2⟩)
  | some m =>
    obtain ⟨hFm, al, hm, hget⟩ := hso m rfl
    have hlook := run_lookupK (P := Try.prog) Try.underlying56 Try.underlying5 zero_bool hm x
    rw [hget x, if_neg hx] at hlook
    simp only [Option.getD_none] at hlook
    have hq := fun W => run_eql_map_nil (P := Try.prog) W _ _ _ (some m) Try.underlying56
    simp only [Option.isNone_some] at hq
    obtain ⟨w2, g, o, c, w3, hupd, c2, f2, hap, c3, f3, hQ, hO⟩ := put_run (W := w) (m := m) (F := F) x hf hd hx hp hF hr hrf hFm hm hget hn hb
    have e : (w3.setCell ⟨p, 0, none⟩ (.slice (some ⟨g, o, none⟩) (l.length + 1) c)).heap.size = w3.heap.size := by simp [World.setCell]
    rw [← e] at hQ
    have hall := And.intro hQ hO
    have HALL := Lib.hid hall
    have HAP := Lib.hid hap
    clear hap hno hso hp hr hrf hf hd hm hget hQ hO hall e
    go_enter Try.func28, Try.ntmps28
    go_wp2_with (first | (at_builtin; refine Lib.wpList_append_run _ rfl _ _ _ _ rfl _ _ rfl rfl _ _ HAP.out ?_) | go_in)
    all_goals first
      | (exfalso; omega)
      | (go_ret; exact ⟨rfl, HALL.out.1, HALL.out.2⟩)

theorem len {w : World} {base p : Nat} {F : Nat → Prop} {l : List Int} (h : QueueAt w base p F l) :
    Calls Try.prog 29 #[.pointer (some ⟨p, 0, none⟩)] w fun e w' => e = .returned (.int .i64 (l.length : Nat)) ∧ w = w' := by
  obtain ⟨hf, hd, v, mo, hp, hF, hr, hrf, hno, hso⟩ := h
  have hc : w.cell? ⟨p, 0, none⟩ = some v := by rw [cell_of_blk _ _ _ _ _ hp]; rfl
  obtain ⟨A, c, rfl⟩ := hr.slice
  rw [List.length_map] at hc
  clear hf hd hp hF hr hrf hno hso
  go_enter Try.func29, Try.ntmps29
  go_wp2
  all_goals go_ret
  all_goals exact ⟨rfl, rfl⟩

set_option maxHeartbeats 1000000 in
theorem take_none {w : World} {base p : Nat} {F : Nat → Prop} (h : QueueAt w base p F []) :
    Calls Try.prog 26 #[.pointer (some ⟨p, 0, none⟩)] w fun e w' => e = .returned (.tuple #[.int .u8 0, .bool false]) ∧ w = w' := by
  obtain ⟨hf, hd, v, mo, hp, hF, hr, hrf, hno, hso⟩ := h
  have hc : w.cell? ⟨p, 0, none⟩ = some v := by rw [cell_of_blk _ _ _ _ _ hp]; rfl
  obtain ⟨A, c, rfl⟩ := hr.slice
  rw [List.length_map] at hc
  simp only [List.length_nil] at hc
  clear hf hd hp hF hr hrf hno hso
  go_enter Try.func26, Try.ntmps26
  go_wp2
  all_goals go_ret2
  all_goals exact ⟨rfl, rfl⟩
theorem take_run {w : World} {base p m g o c : Nat} {F : Nat → Prop} {x : Int} {l : List Int} {al : List (Int × Value)} (hf : ∀ k, F k → base ≤ k ∧ k < w.heap.size) (hd : (x :: l).Nodup)
    (hp : w.heap[p]? = some (.cells #[.slice (some ⟨g, o, none⟩) (l.length + 1) c, .map (some m)] 58 (0, 0))) (hF : F p) (hr : RowAt w base 5 (.slice (some ⟨g, o, none⟩) (l.length + 1) c) ((x :: l).map (Value.int .u8)))
    (hFg : F g) (hFm : F m) (hm : MapIs w m .u8 al) (hget : ∀ y, getK al y = if y ∈ x :: l then some (.bool true) else none) (o' : Nat) (ho : o' = if c = 1 then o else o + 1) (ats : Array TypeId) (ty : TypeId) (hats : ats[0]? = some 56) :
    ∃ w2, (w.setCell ⟨p, 0, none⟩ (.slice (some ⟨g, o', none⟩) l.length (c - 1))).cell? ⟨p, 1, none⟩ = some (.map (some m)) ∧
      (Builtin.delete_ ats ty #[.map (some m), .int .u8 x]).run Try.prog (w.setCell ⟨p, 0, none⟩ (.slice (some ⟨g, o', none⟩) l.length (c - 1))) = .ok (.tuple #[]) w2 ∧ QueueAt w2 base p F l ∧ Only F w w2 := by
  have ho1 := Only.setCell w ⟨p, 0, none⟩ (.slice (some ⟨g, o', none⟩) l.length (c - 1))
  have hpm : p ≠ m := by
    rintro rfl
    obtain ⟨es, c, hh, _⟩ := hm.blk
    rw [hp] at hh; cases hh
  have hgp : g ≠ p := fun e => hr.ne_blk hp (by decide) (by simp [Value.ownBlock, e])
  have hgm : g ≠ m := by
    obtain ⟨es, c, hh, _⟩ := hm.blk
    exact fun e => hr.ne_map hh (by simp [Value.ownBlock, e])
  have hm1 := hm.only ho1 (fun e => hpm e.symm)
  obtain ⟨w2, hrun, hm2, ho2⟩ := run_delK (P := Try.prog) (ty := ty) Try.underlying56 Try.underlying5 hm1 x hats
  have hp1 : (w.setCell ⟨p, 0, none⟩ (.slice (some ⟨g, o', none⟩) l.length (c - 1))).heap[p]? = some (.cells #[.slice (some ⟨g, o', none⟩) l.length (c - 1), .map (some m)] 58 (0, 0)) := by
    simp [World.setCell, Array.getElem?_modify, hp]
  have hr1 : RowAt w base 5 (.slice (some ⟨g, o', none⟩) l.length (c - 1)) (l.map (Value.int .u8)) := by
    have := RowAt.tail (vs := l.map (Value.int .u8)) hr o' ho
    simpa using this
  refine ⟨w2, by rw [cell_of_blk _ _ _ _ _ hp1]; rfl, hrun, ⟨fun k hk => ⟨(hf k hk).1, Nat.lt_of_lt_of_le (hf k hk).2 (Nat.le_trans ho1.size ho2.size)⟩, (List.nodup_cons.1 hd).2, _, _, (ho2.block p (by have := (hf p hF).2; have := ho1.size; omega) hpm).trans hp1, hF, ?_, ?_, (fun h => by cases h), fun m' hm' => ?_⟩, ?_⟩
  · refine RowAt.only ho2 (RowAt.only ho1 hr1 ?_) ?_
    · intro g' hg'; simp only [Value.ownBlock, Option.some.injEq] at hg'; subst hg'; exact hgp
    · intro g' hg'; simp only [Value.ownBlock, Option.some.injEq] at hg'; subst hg'; exact hgm
  · intro g' hg'; simp only [Value.ownBlock, Option.some.injEq] at hg'; subst hg'; exact hFg
  · injection hm' with hm'
    subst hm'
    refine ⟨hFm, _, hm2, fun y => ?_⟩
    rw [getK_del hm.nodup, hget y]
    by_cases hy : x = y
    · subst hy; rw [if_pos rfl, if_neg (List.nodup_cons.1 hd).1]
    · rw [if_neg hy]; simp [show ¬ y = x from fun e => hy e.symm]
  · exact (ho1.mono (fun k _ h => by subst h; exact hF)).trans ho2 (fun k _ h => by subst h; exact hFm)
set_option maxHeartbeats 2000000 in
set_option maxRecDepth 100000 in
theorem take_some {w : World} {base p : Nat} {F : Nat → Prop} {x : Int} {l : List Int} (h : QueueAt w base p F (x :: l)) :
    Calls Try.prog 26 #[.pointer (some ⟨p, 0, none⟩)] w fun e w' => e = .returned (.tuple #[.int .u8 x, .bool true]) ∧ QueueAt w' base p F l ∧ Only F w w' := by
  obtain ⟨hf, hd, v, mo, hp, hF, hr, hrf, hno, hso⟩ := h
  have hc : w.cell? ⟨p, 0, none⟩ = some v := by rw [cell_of_blk _ _ _ _ _ hp]; rfl
  cases mo with
  | none => cases hno rfl
  | some m =>
    obtain ⟨hFm, al, hm, hget⟩ := hso m rfl
    rcases hr.form with ⟨_, h⟩ | ⟨g, o, c, rfl, hlc⟩
    · simp at h
    have hcell := hr.cell 0 _ rfl
    simp only [List.length_map, List.length_cons, Nat.add_zero] at hc hlc hp hr hrf hcell
    have hz : w.frozen? ⟨p, 0, none⟩ = false := by simp [World.frozen?, hp]
    have hlt : p < w.heap.size := (hf p hF).2
    by_cases hc1 : c = 1
    · subst hc1
      obtain ⟨w2, h1, h2, h3, h4⟩ := take_run hf hd hp hF hr (hrf g rfl) hFm hm hget o (by simp) #[56, 5] 0 rfl
      have hl0 : l = [] := List.eq_nil_of_length_eq_zero (by omega)
      have HALL := Lib.hid (And.intro h3 h4)
      clear h3 h4
      subst hl0
      simp only [Nat.sub_self, List.length_nil, Nat.zero_add] at h1 h2 hc
      clear hf hd hp hF hr hrf hno hso hm hget hlc
      go_enter Try.func26, Try.ntmps26
      go_wp2
      all_goals first
        | (exfalso; omega)
        | (go_ret2; exact ⟨rfl, HALL.out.1, HALL.out.2⟩)
    · obtain ⟨w2, h1, h2, h3, h4⟩ := take_run hf hd hp hF hr (hrf g rfl) hFm hm hget (o + 1) (by simp [hc1]) #[56, 5] 0 rfl
      have HALL := Lib.hid (And.intro h3 h4)
      clear hf hd hp hF hr hrf hno hso hm hget h3 h4
      go_enter Try.func26, Try.ntmps26
      go_wp2
      all_goals first
        | (exfalso; omega)
        | (go_ret2; exact ⟨rfl, HALL.out.1, HALL.out.2⟩)
end QB
end Go.Proofs.Yteojcdpmlhlfaaa
