/- What bag.Set[uint8].Drop does: one item out. Conditions: the set's row is the call's own and rises. -/
import Derived.Test.YteojcdpmlhlfaaaSetB
import Derived.Test.YteojcdpmlhlfaaaDelB
namespace Go.Proofs.Yteojcdpmlhlfaaa
open Go.RowKit
set_option maxHeartbeats 1000000 in
theorem dropB (base p o : Nat) (v : Value) (xs : List Int) (x : Int) (w : World) (h : IsSetB w base v xs) (hn : xs.length ≤ 1048576) (cs : Array Value) (t : TypeId) (hp : w.heap[p]? = some (.cells cs t (0, 0))) (ho : cs[o]? = some v)
    (hne : v.ownBlock ≠ some p) :
    Calls Try.prog 46 #[.pointer (some ⟨p, o, none⟩), .int .u8 x] w fun e w' =>
      ∃ v', e = .returned (.bool (decide (x ∈ xs))) ∧ IsSetB w' base v' (del x xs) ∧ PutAt p o v' (fun k => v.ownBlock = some k) w w' ∧ v'.ownBlock = v.ownBlock := by
  have hlt : p < w.heap.size := (Array.getElem?_eq_some_iff.1 hp).1
  have hc : w.cell? ⟨p, o, none⟩ = some v := by rw [cell_of_blk w p _ _ _ hp]; exact ho
  have hF := findB base v xs x w h hn
  have HFIND := Lib.hid hF; clear hF
  by_cases hx : x ∈ xs
  · have hd : decide (x ∈ xs) = true := by simpa using hx
    have hdel : del x xs = xs.take (lbd ltI x xs) ++ xs.drop (lbd ltI x xs + 1) := del_at ordI x xs h.srt hx
    have hsrt : Srt ltI (del x xs) := srt_del x xs h.srt
    have hlb : lbd ltI x xs < xs.length := by
      rcases Nat.lt_or_ge (lbd ltI x xs) xs.length with h1 | h1
      · exact h1
      · have h2 := lbd_le (lt := ltI) x xs
        have h3 : del x xs = xs := by rw [hdel, List.take_of_length_le h1, List.drop_of_length_le (by omega)]; simp
        have h4 := (mem_del x x xs).1 (by rw [h3]; exact hx)
        exact absurd rfl h4.2
    have hD := deleteB base v xs.length (lbd ltI x xs) (xs.map enB) w (one_enB xs) hlb h.own
    have e1 : (((lbd ltI x xs + 1 : Nat)) : Int) = (lbd ltI x xs : Int) + 1 := by omega
    rw [e1] at hD
    have hlb' : (lbd ltI x xs : Int) ≤ 1048576 := by omega
    have HDEL := Lib.hid hD
    rw [hd]
    have HD := Lib.hid hd
    have HE := Lib.hid hdel; have HS := Lib.hid hsrt; have HO := Lib.hid ho; have HPP := Lib.hid hp
    clear hd hdel hsrt hD e1 ho hp
    generalize lbd ltI x xs = i at *
    go_enter Try.func46, Try.ntmps46
    go_wp2_with fail
    refine HFIND.out.mono ?_; rintro e w' ⟨rfl, rfl⟩
    rw [HD.out]
    go_wp2_with fail
    refine HDEL.out.mono ?_
    rintro e w2 ⟨v', rfl, hown2, honly, hblk, g', cap', rfl⟩
    have hpv : ¬ (v.ownBlock = some p) := hne
    have hh2 : w2.heap[p]? = some (.cells cs t (0, 0)) := (honly.block p hlt hpv).trans HPP.out
    have hc2 : w2.cell? ⟨p, o, none⟩ = some v := by rw [cell_of_blk w2 p _ _ _ hh2]; exact HO.out
    have hf2 : w2.frozen? ⟨p, o, none⟩ = false := by simp [World.frozen?, hh2]
    have hput := PutAt.set (o := o) honly hpv (.slice (some ⟨g', 0, none⟩) (xs.length - 1) cap') hlt
    have hset : IsSetB (w2.setCell ⟨p, o, none⟩ (.slice (some ⟨g', 0, none⟩) (xs.length - 1) cap')) base (.slice (some ⟨g', 0, none⟩) (xs.length - 1) cap') (del x xs) := by
      refine ⟨?_, HS.out⟩
      have e1 : (del x xs).map enB = (xs.map enB).take i ++ (xs.map enB).drop (i + 1) := by
        rw [HE.out]; simp [List.map_take, List.map_drop]
      have e2 : (del x xs).length = xs.length - 1 := by rw [HE.out]; simp; omega
      rw [e1, e2]
      refine own_only (Only.setCell w2 ⟨p, o, none⟩ _) hown2 (fun g hg e => ?_)
      subst e
      exact hpv (by rw [← hblk]; exact hg)
    have HPUT := Lib.hid hput; have HSET := Lib.hid hset; have HB := Lib.hid hblk
    clear hput hset hblk hown2 honly hh2
    go_wp2
    go_ret
    exact ⟨_, rfl, HSET.out, HPUT.out, HB.out⟩
  · have hd : decide (x ∈ xs) = false := by simpa using hx
    have hdel : del x xs = xs := del_not x xs hx
    have hput : PutAt p o v (fun k => v.ownBlock = some k) w w := ⟨Only.refl _ _, fun cs' t' fr' hh => by
      rw [hp] at hh
      injection hh with hh
      injection hh with h1 h2 h3
      subst h1 h2 h3
      rw [hp]
      congr 2
      apply Array.ext_getElem?
      intro k
      rw [Array.getElem?_setIfInBounds]
      split
      · rename_i e
        subst e
        rw [ho, if_pos (Array.getElem?_eq_some_iff.1 ho).1]
      · rfl⟩
    rw [hd, hdel]
    have HD := Lib.hid hd; clear hd hx hdel hp ho
    have HP := Lib.hid hput; clear hput
    go_enter Try.func46, Try.ntmps46
    go_wp2_with fail
    refine HFIND.out.mono ?_; rintro e w' ⟨rfl, rfl⟩
    rw [HD.out]
    go_wp2
    go_ret
    exact ⟨v, rfl, h, HP.out, rfl⟩
end Go.Proofs.Yteojcdpmlhlfaaa
