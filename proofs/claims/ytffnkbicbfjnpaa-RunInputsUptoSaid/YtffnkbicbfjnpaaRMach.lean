/- A machine in memory: one block of 86 cells, a map of registers, a row of what was put out, a row of inputs that is read. No condition. -/
import Derived.Test.YtffnkbicbfjnpaaRSem
import Derived.Test.YtffnkbicbfjnpaaPut
import Derived.Test.YtffnkbicbfjnpaaMaps
namespace Go.Proofs.Ytffnkbicbfjnpaa
open Go.RowKit Go.Proofs.Ytffnkbicbfjnpaa.PRunFuel
open Go.Proofs.YtffnkbicbfjnpaaW.PrintWords (ReadsInt rd)

def mcells (mp : Nat) (m : Mc) (e v : Int) (A : Option Addr) (c : Nat) (tv : Value) : List Value :=
  .map (some mp) :: (m.slots.map (Value.int .i64) ++ (m.mem.map (Value.int .i64) ++ [.slice A m.inp.length c, .int .u8 e, .int .i64 v, tv, .int .i64 m.steps]))
structure Mach (B : Nat) (S : Nat → Prop) (w0 W : World) (p mp : Nat) (m : Mc) (e v : Int) (al : List (Int × Value)) (A : Option Addr) (c : Nat) (tv : Value) : Prop where
  blk : W.heap[p]? = some (.cells (mcells mp m e v A c tv).toArray 132 (0, 0))
  map : MapIs W mp .i64 al
  vals : ∀ x, (getK al x).getD (.int .i64 0) = .int .i64 (m.r x)
  ns : m.slots.length = 16
  nm : m.mem.length = 64
  inp : ReadsInt w0 .i64 A m.inp.length m.inp
  cap : m.inp.length ≤ c
  tr : W.ownsRow B 2 1 tv m.trace.length (m.trace.map (Value.int .i64))
  only : Only S w0 W
  hB : B ≤ w0.heap.size
  sp : S p
  sm : S mp
  st : ∀ g, tv.ownBlock = some g → S g ∨ w0.heap.size ≤ g
  sB : ∀ k, S k → B ≤ k
  inB : ∀ g o s, A = some ⟨g, o, s⟩ → 0 < m.inp.length → g < B
section
variable {B : Nat} {S : Nat → Prop} {w0 W W' : World} {p mp : Nat} {m : Mc} {e v : Int} {al : List (Int × Value)} {A : Option Addr} {c : Nat} {tv : Value}
theorem Mach.ne (h : Mach B S w0 W p mp m e v al A c tv) : mp ≠ p := by
  rintro rfl
  obtain ⟨es, cl, hh, _⟩ := h.map.blk
  rw [h.blk] at hh; cases hh
theorem Mach.tne (h : Mach B S w0 W p mp m e v al A c tv) : tv.ownBlock ≠ some p := own_ne_blk h.tr h.blk (by decide)
theorem Mach.tmp (h : Mach B S w0 W p mp m e v al A c tv) : tv.ownBlock ≠ some mp := by
  intro hg
  rcases h.tr.2 with ⟨h1, _⟩ | ⟨g, cap, cur, h1, _, hh, _⟩
  · rw [h1] at hg; cases hg
  · rw [h1] at hg
    simp only [Value.ownBlock, Option.some.injEq] at hg
    subst hg
    obtain ⟨es, cl, hh2, _⟩ := h.map.blk
    rw [hh2] at hh; cases hh
theorem Mach.lt (h : Mach B S w0 W p mp m e v al A c tv) : p < W.heap.size ∧ mp < W.heap.size := ⟨(Array.getElem?_eq_some_iff.1 h.blk).1, h.map.lt⟩
theorem Mach.step {S' : Nat → Prop} (h : Mach B S w0 W p mp m e v al A c tv) (ho : Only S' W W') (hb : Only S w0 W') (h1 : ¬ S' p) (h2 : ¬ S' mp) (h3 : ∀ g, tv.ownBlock = some g → ¬ S' g) : Mach B S w0 W' p mp m e v al A c tv :=
  ⟨(ho.block p h.lt.1 h1).trans h.blk, h.map.only ho h2, h.vals, h.ns, h.nm, h.inp, h.cap, own_only ho h.tr h3, hb, h.hB, h.sp, h.sm, h.st, h.sB, h.inB⟩
/-- From here on: what may be written is the machine's own. -/
theorem Mach.rebase (h : Mach B S w0 W p mp m e v al A c tv) : Mach B (fun k => k = p ∨ k = mp ∨ tv.ownBlock = some k) W W p mp m e v al A c tv :=
  ⟨h.blk, h.map, h.vals, h.ns, h.nm, ⟨h.inp.1, h.inp.2.1, fun hn => by
    obtain ⟨ad, e, hc⟩ := h.inp.2.2 hn
    refine ⟨ad, e, fun j hj => ?_⟩
    have := hc j hj
    refine Eq.trans (h.only.cell (World.block_lt_of_cell? _ _ this) (fun hs => ?_)) this
    have hb : (ad.add j).block = ad.block := by unfold Addr.add; split <;> rfl
    rw [hb] at hs
    have h1 := h.inB ad.block ad.off ad.spot e hn
    have h2 := h.sB _ hs
    omega⟩, h.cap, h.tr, Only.refl _ _, Nat.le_trans h.hB h.only.size, .inl rfl, .inr (.inl rfl), fun g hg => .inl (.inr (.inr hg)), fun k hk => by
      rcases hk with hk | hk | hk
      · rw [hk]; exact h.sB _ h.sp
      · rw [hk]; exact h.sB _ h.sm
      · exact (own_lt h.tr hk).2, h.inB⟩
/-- What makes memory alone keeps the machine. -/
theorem Mach.later (h : Mach B S w0 W p mp m e v al A c tv) (hb : Below W.heap.size W W') : Mach B S w0 W' p mp m e v al A c tv :=
  h.step (Only.of_below hb) (h.only.trans (Only.of_below hb) (fun x hx e => by have := h.only.size; omega)) (by have := h.lt.1; omega) (by have := h.lt.2; omega) (fun g hg => by have := (own_lt h.tr hg).1; omega)
theorem Mach.drew (h : Mach B S w0 W p mp m e v al A c tv) (n : Nat) : Mach B S w0 (W.drewN n) p mp m e v al A c tv :=
  h.later ((Only.drewN (fun _ => False) W n).below (Nat.le_refl _) (fun _ _ => id))
theorem Mach.cell (h : Mach B S w0 W p mp m e v al A c tv) (i : Nat) : W.cell? ⟨p, i, none⟩ = (mcells mp m e v A c tv)[i]? := by
  rw [cell_of_blk _ _ _ _ _ h.blk]; simp
theorem Mach.frozen (h : Mach B S w0 W p mp m e v al A c tv) (i : Nat) : W.frozen? ⟨p, i, none⟩ = false := by simp [World.frozen?, h.blk]
theorem mcells_map : (mcells mp m e v A c tv)[0]? = some (.map (some mp)) := rfl
theorem mcells_slot (hs : m.slots.length = 16) (k : Nat) (hk : k < 16) : (mcells mp m e v A c tv)[1 + k]? = some (.int .i64 (m.slots.getD k 0)) := by
  unfold mcells
  rw [show 1 + k = k + 1 by omega, List.getElem?_cons_succ, List.getElem?_append_left (by simp; omega), List.getElem?_map, List.getElem?_eq_getElem (by omega)]
  simp [List.getD_eq_getElem?_getD, List.getElem?_eq_getElem (show k < m.slots.length by omega)]
theorem mcells_mem (hs : m.slots.length = 16) (hm : m.mem.length = 64) (k : Nat) (hk : k < 64) : (mcells mp m e v A c tv)[17 + k]? = some (.int .i64 (m.mem.getD k 0)) := by
  unfold mcells
  rw [show 17 + k = (16 + k) + 1 by omega, List.getElem?_cons_succ, List.getElem?_append_right (by simp; omega), List.getElem?_append_left (by simp; omega), List.getElem?_map]
  simp only [List.length_map, hs, Nat.add_sub_cancel_left]
  rw [List.getElem?_eq_getElem (by omega)]
  simp [List.getD_eq_getElem?_getD, List.getElem?_eq_getElem (show k < m.mem.length by omega)]
theorem mcells_end (hs : m.slots.length = 16) (hm : m.mem.length = 64) (k : Nat) : (mcells mp m e v A c tv)[81 + k]? = [Value.slice A m.inp.length c, .int .u8 e, .int .i64 v, tv, .int .i64 m.steps][k]? := by
  unfold mcells
  rw [show 81 + k = (80 + k) + 1 by omega, List.getElem?_cons_succ, List.getElem?_append_right (by simp; omega), List.getElem?_append_right (by simp; omega)]
  congr 1
  simp
  omega
theorem Mach.c_r (h : Mach B S w0 W p mp m e v al A c tv) : W.cell? ⟨p, 0, none⟩ = some (.map (some mp)) := by rw [h.cell]; rfl
theorem Mach.c_slot (h : Mach B S w0 W p mp m e v al A c tv) (k : Nat) (hk : k < 16) : W.cell? ⟨p, 1 + k, none⟩ = some (.int .i64 (m.slots.getD k 0)) := by rw [h.cell]; exact mcells_slot h.ns k hk
theorem Mach.c_mem (h : Mach B S w0 W p mp m e v al A c tv) (k : Nat) (hk : k < 64) : W.cell? ⟨p, 17 + k, none⟩ = some (.int .i64 (m.mem.getD k 0)) := by rw [h.cell]; exact mcells_mem h.ns h.nm k hk
theorem Mach.c_in (h : Mach B S w0 W p mp m e v al A c tv) : W.cell? ⟨p, 81, none⟩ = some (.slice A m.inp.length c) := by rw [h.cell]; exact mcells_end h.ns h.nm 0
theorem Mach.c_e (h : Mach B S w0 W p mp m e v al A c tv) : W.cell? ⟨p, 82, none⟩ = some (.int .u8 e) := by rw [h.cell]; exact mcells_end h.ns h.nm 1
theorem Mach.c_v (h : Mach B S w0 W p mp m e v al A c tv) : W.cell? ⟨p, 83, none⟩ = some (.int .i64 v) := by rw [h.cell]; exact mcells_end h.ns h.nm 2
theorem Mach.c_t (h : Mach B S w0 W p mp m e v al A c tv) : W.cell? ⟨p, 84, none⟩ = some tv := by rw [h.cell]; exact mcells_end h.ns h.nm 3
theorem Mach.c_s (h : Mach B S w0 W p mp m e v al A c tv) : W.cell? ⟨p, 85, none⟩ = some (.int .i64 m.steps) := by rw [h.cell]; exact mcells_end h.ns h.nm 4
/-- A store into one of its cells. -/
theorem Mach.put (h : Mach B S w0 W p mp m e v al A c tv) (i : Nat) (x : Value) {m' : Mc} {e' v' : Int} {A' : Option Addr} {c' : Nat}
    (hm : (mcells mp m e v A c tv).set i x = mcells mp m' e' v' A' c' tv) (hr : m'.r = m.r) (h1 : m'.slots.length = 16) (h2 : m'.mem.length = 64) (hi : ReadsInt w0 .i64 A' m'.inp.length m'.inp) (hc : m'.inp.length ≤ c') (hn : ∀ g o s, A' = some ⟨g, o, s⟩ → 0 < m'.inp.length → g < B) (ht : m'.trace = m.trace) :
    Mach B S w0 (W.setCell ⟨p, i, none⟩ x) p mp m' e' v' al A' c' tv := by
  have ho := Only.setCell W ⟨p, i, none⟩ x
  refine ⟨?_, h.map.only ho h.ne, by rw [hr]; exact h.vals, h1, h2, hi, hc, by rw [ht]; exact own_only ho h.tr (fun g hg e => h.tne (by rw [hg]; exact congrArg some e)), h.only.trans ho (fun x _ e => by have e : x = p := e; rw [e]; exact h.sp), h.hB, h.sp, h.sm, h.st, h.sB, hn⟩
  rw [← hm]
  simp [World.setCell, Array.getElem?_modify, h.blk]
theorem set_end (hs : m.slots.length = 16) (hm : m.mem.length = 64) (k : Nat) (x : Value) : (mcells mp m e v A c tv).set (81 + k) x = .map (some mp) :: (m.slots.map (Value.int .i64) ++ (m.mem.map (Value.int .i64) ++ [Value.slice A m.inp.length c, .int .u8 e, .int .i64 v, tv, .int .i64 m.steps].set k x)) := by
  unfold mcells
  rw [show 81 + k = (80 + k) + 1 by omega, List.set_cons_succ, List.set_append_right _ _ (by simp; omega), List.set_append_right _ _ (by simp; omega)]
  congr 4
  simp
  omega
theorem Mach.set_s (h : Mach B S w0 W p mp m e v al A c tv) (n : Nat) : Mach B S w0 (W.setCell ⟨p, 85, none⟩ (.int .i64 n)) p mp { m with steps := n } e v al A c tv :=
  h.put 85 _ (set_end h.ns h.nm 4 _) rfl h.ns h.nm h.inp h.cap h.inB rfl
theorem Mach.set_e (h : Mach B S w0 W p mp m e v al A c tv) (e' : Int) : Mach B S w0 (W.setCell ⟨p, 82, none⟩ (.int .u8 e')) p mp m e' v al A c tv :=
  h.put 82 _ (set_end h.ns h.nm 1 _) rfl h.ns h.nm h.inp h.cap h.inB rfl
theorem Mach.set_v (h : Mach B S w0 W p mp m e v al A c tv) (v' : Int) : Mach B S w0 (W.setCell ⟨p, 83, none⟩ (.int .i64 v')) p mp m e v' al A c tv :=
  h.put 83 _ (set_end h.ns h.nm 2 _) rfl h.ns h.nm h.inp h.cap h.inB rfl
theorem Mach.set_in (h : Mach B S w0 W p mp m e v al A c tv) (A' : Option Addr) (c' : Nat) (l : List Int) (hl : ReadsInt w0 .i64 A' l.length l) (hc : l.length ≤ c') (hn : ∀ g o s, A' = some ⟨g, o, s⟩ → 0 < l.length → g < B) : Mach B S w0 (W.setCell ⟨p, 81, none⟩ (.slice A' l.length c')) p mp { m with inp := l } e v al A' c' tv :=
  h.put 81 _ (set_end h.ns h.nm 0 _) rfl h.ns h.nm hl hc hn rfl
theorem Mach.set_slot (h : Mach B S w0 W p mp m e v al A c tv) (k : Nat) (hk : k < 16) (x : Int) : Mach B S w0 (W.setCell ⟨p, 1 + k, none⟩ (.int .i64 x)) p mp { m with slots := m.slots.set k x } e v al A c tv := by
  refine h.put (1 + k) _ ?_ rfl (by simp [h.ns]) h.nm h.inp h.cap h.inB rfl
  unfold mcells
  rw [show 1 + k = k + 1 by omega, List.set_cons_succ, List.set_append_left _ _ (by simp [h.ns]; omega), List.map_set]
theorem Mach.set_mem (h : Mach B S w0 W p mp m e v al A c tv) (k : Nat) (hk : k < 64) (x : Int) : Mach B S w0 (W.setCell ⟨p, 17 + k, none⟩ (.int .i64 x)) p mp { m with mem := m.mem.set k x } e v al A c tv := by
  refine h.put (17 + k) _ ?_ rfl h.ns (by simp [h.nm]) h.inp h.cap h.inB rfl
  unfold mcells
  rw [show 17 + k = (16 + k) + 1 by omega, List.set_cons_succ, List.set_append_right _ _ (by simp [h.ns]), List.set_append_left _ _ (by simp [h.ns, h.nm]; omega), List.map_set]
  congr 4
  simp [h.ns]
/-- A register is set. -/
theorem Mach.upd (h : Mach B S w0 W p mp m e v al A c tv) (ho : Only (fun k => k = mp) W W') {d x : Int} (hm : MapIs W' mp .i64 (updK al d (.int .i64 x))) : Mach B S w0 W' p mp (m.set d x) e v (updK al d (.int .i64 x)) A c tv := by
  refine ⟨(ho.block p h.lt.1 (fun e => h.ne e.symm)).trans h.blk, hm, fun y => ?_, h.ns, h.nm, h.inp, h.cap, own_only ho h.tr (fun g hg e => h.tmp (by rw [hg, e])), h.only.trans ho (fun x _ e => by have e : x = mp := e; rw [e]; exact h.sm), h.hB, h.sp, h.sm, h.st, h.sB, h.inB⟩
  rw [getK_upd]
  simp only [Mc.set, updF]
  split
  · rfl
  · exact h.vals y
/-- A number is put out. -/
theorem Mach.out (h : Mach B S w0 W p mp m e v al A c tv) {tv' : Value} {x : Int} (hb : Only S w0 W') (hst : ∀ g, tv'.ownBlock = some g → S g ∨ w0.heap.size ≤ g) (ho : Only (fun k => tv.ownBlock = some k) W W') (ht : W'.ownsRow B 2 1 tv' (m.trace.length + 1) (m.trace.map (Value.int .i64) ++ [.int .i64 x])) :
    Mach B S w0 (W'.setCell ⟨p, 84, none⟩ tv') p mp { m with trace := m.trace ++ [x] } e v al A c tv' := by
  have hp' : W'.heap[p]? = _ := (ho.block p h.lt.1 (fun e => h.tne e)).trans h.blk
  have hs := Only.setCell W' ⟨p, 84, none⟩ tv'
  refine ⟨?_, (h.map.only ho (fun e => h.tmp e)).only hs h.ne, h.vals, h.ns, h.nm, h.inp, h.cap, ?_, hb.trans hs (fun x _ e => by have e : x = p := e; rw [e]; exact h.sp), h.hB, h.sp, h.sm, hst, h.sB, h.inB⟩
  · have hset : (mcells mp m e v A c tv).set 84 tv' = mcells mp { m with trace := m.trace ++ [x] } e v A c tv' := set_end h.ns h.nm 3 _
    rw [← hset]
    simp [World.setCell, Array.getElem?_modify, hp']
  · have := own_only hs ht (fun g hg e => own_ne_blk ht hp' (by decide) (by rw [hg]; exact congrArg some e))
    simpa using this
end
end Go.Proofs.Ytffnkbicbfjnpaa
