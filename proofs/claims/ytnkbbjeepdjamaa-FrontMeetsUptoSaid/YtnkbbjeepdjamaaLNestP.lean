/- Loops by their heads, plain: a head is over all of its loop; of two that have a place in common one is in the other. No condition. -/
import Derived.Test.YtnkbbjeepdjamaaLOfP
namespace Go.Proofs.Ytnkbbjeepdjamaa
open Go.RowKit
theorem HB.ov {g : Nat → List Nat} {h : Nat} (H : HB g h) : LT.Ov g h h := by
  obtain ⟨u, _, ho⟩ := H
  exact LT.ov_self ho.1
theorem LB.over {g : Nat → List Nat} {h v : Nat} (hh : LT.Ov g h h) (H : LB g h v) : LT.Ov g h v := by
  induction H with
  | head => exact hh
  | back _ h2 => exact h2
  | step _ hne he hu ih =>
    exact ⟨hh.1, hu.1, fun hw => ih.2.2 (hw.step he (fun e => hne (Int.natCast_inj.1 e)))⟩
theorem ov_same {g : Nat → List Nat} {n : Nat} {up deep : List Int} (h : LT.DTree g n up deep) {a b : Nat} (h1 : LT.Ov g a b) (h2 : LT.Ov g b a) : a = b := by
  obtain ⟨d, hd, _⟩ := h.deep_of h1.2.1
  obtain ⟨c, hc, _⟩ := h.deep_of h1.1
  obtain ⟨k1, k2⟩ := h.le d a b c h1 hd hc
  obtain ⟨k3, _⟩ := h.le c b a d h2 hc hd
  exact k2 (by omega)
theorem ov_pair {g : Nat → List Nat} {n : Nat} {up deep : List Int} (h : LT.DTree g n up deep) {a b v : Nat} (h1 : LT.Ov g a v) (h2 : LT.Ov g b v) : LT.Ov g a b ∨ LT.Ov g b a := by
  obtain ⟨d, hd, _⟩ := h.deep_of h1.2.1
  exact h.pair d v a b hd h1 h2
/-- Back from a place of x's loop that is below y, one comes to y. -/
theorem LB.climb {g : Nat → List Nat} {x y v : Nat} (hyx : ∀ z, LT.Ov g y z → z ≠ x) (hw : Way g 0 v) (ho : LT.Ov g y v) (hv : LB g x v) : LB g x y := by
  induction hw with
  | refl =>
    by_cases e : y = 0
    · rw [e]; exact hv
    · exact absurd (WayO.zero (by omega)) ho.2.2
  | step hw he ih =>
    rename_i a c
    by_cases e : c = y
    · rw [← e]; exact hv
    · have hoa : LT.Ov g y a := ⟨ho.1, hw, fun k => ho.2.2 (k.step he (fun k2 => e (Int.natCast_inj.1 k2)))⟩
      exact ih hoa (.step hv (hyx _ ho) he (LT.ov_self hw))
theorem LB.nest1 {g : Nat → List Nat} {n : Nat} {up deep : List Int} (h : LT.DTree g n up deep) {x y v : Nat} (hy : LT.Ov g y y) (hxy : LT.Ov g x y) (h1 : LB g x v) (h2 : LB g y v) (z : Nat) (hz : LB g y z) : LB g x z := by
  by_cases e : x = y
  · rw [e]; exact hz
  · have hyx : ∀ z, LT.Ov g y z → z ≠ x := fun z ho e2 => by subst e2; exact e (ov_same h hxy ho)
    have hvo := h2.over hy
    have hxy2 : LB g x y := LB.climb hyx hvo.2.1 hvo h1
    induction hz with
    | head => exact hxy2
    | back k1 k2 => exact .step hxy2 (fun e2 => e e2.symm) k1 (LT.ov_self k2.2.1)
    | step k1 _ k3 k4 ih => exact .step ih (hyx _ (k1.over hy)) k3 k4
theorem LB.nest {g : Nat → List Nat} {n : Nat} {up deep : List Int} (h : LT.DTree g n up deep) {x y v : Nat} (hx : HB g x) (hy : HB g y) (h1 : LB g x v) (h2 : LB g y v) : (∀ z, LB g y z → LB g x z) ∨ (∀ z, LB g x z → LB g y z) := by
  rcases ov_pair h (h1.over hx.ov) (h2.over hy.ov) with e | e
  · exact .inl (fun z => LB.nest1 h hy.ov e h1 h2 z)
  · exact .inr (fun z => LB.nest1 h hx.ov e h2 h1 z)
theorem nodup_le : ∀ (l m : List Int), l.Nodup → (∀ a ∈ l, a ∈ m) → l.length ≤ m.length
  | [], _, _, _ => Nat.zero_le _
  | a :: t, m, h, hs => by
    obtain ⟨h1, h2⟩ := List.nodup_cons.1 h
    have ha := hs a List.mem_cons_self
    have := nodup_le t (m.erase a) h2 (fun b hb => (List.mem_erase_of_ne (fun e => h1 (by rw [← e]; exact hb))).2 (hs b (List.mem_cons_of_mem _ hb)))
    rw [List.length_erase_of_mem ha] at this
    have := List.length_pos_of_mem ha
    simp
    omega
/-- Of two rising rows of as many, one in the other: the same. -/
theorem srt_sub {xs ys : List Int} (hx : Srt ltI xs) (hl : ys.length ≤ xs.length) (hs : ∀ z, z ∈ xs → z ∈ ys) (z : Int) (hz : z ∈ ys) : z ∈ xs := by
  apply Classical.byContradiction
  intro hn
  have h1 := srt_nodup ordI hx
  have h2 : (z :: xs).Nodup := List.nodup_cons.2 ⟨hn, h1⟩
  have h3 := nodup_le (z :: xs) ys h2 (fun a ha => by
    rcases List.mem_cons.1 ha with e | e
    · rw [e]; exact hz
    · exact hs a e)
  simp at h3
  omega
end Go.Proofs.Ytnkbbjeepdjamaa
