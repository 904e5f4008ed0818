/- A region whose order is drawn, walked once an operation: what is held of the state, whichever have come up. No condition. -/
import Derived.RegionTactic
namespace Go.Proofs.Ytnkbbjeepdjamaa
section
variable {P : Program} {ops : Array Oper} {Q : Exit → Act → World → Prop} {md : Region.Mode}
/-- Of the operations, those that one must wait for. -/
def needs (md : Region.Mode) (ops : Array Oper) (i : Nat) : List Nat :=
  match ops[i]? with
  | none => []
  | some o => (o.after.toList.filter (Region.binds md)).map (·.on)
theorem ready_iff {listed : Array Bool} {i : Nat} : i ∈ Region.ready md ops listed ↔ listed.getD i true = false ∧ i < ops.size ∧ ∀ j ∈ needs md ops i, listed.getD j false = true := by
  rw [mem_ready]
  constructor
  · rintro ⟨h1, o, ho, h2⟩
    refine ⟨h1, (Array.getElem?_eq_some_iff.1 ho).1, fun j hj => ?_⟩
    unfold needs at hj
    rw [ho] at hj
    simp only [List.mem_map, List.mem_filter] at hj
    obtain ⟨e, ⟨he, hb⟩, rfl⟩ := hj
    exact h2 e (by simpa using he) hb
  · rintro ⟨h1, h2, h3⟩
    refine ⟨h1, ops[i], Array.getElem?_eq_getElem h2, fun e he hb => h3 e.on ?_⟩
    unfold needs
    rw [Array.getElem?_eq_getElem h2]
    simp only [List.mem_map, List.mem_filter]
    exact ⟨e, ⟨by simpa using he, hb⟩, rfl⟩
/-- Which have come up. -/
def upTo (listed : Array Bool) (i : Nat) : Bool := listed.getD i false
/-- **Whatever order is picked**: what is held of those that have come up, the state and the world is shown anew behind each operation, once. -/
theorem wpAny_inv (I : (Nat → Bool) → Act → World → Prop) (hback : ∀ i, i < ops.size → ∀ j ∈ needs md ops i, j < i)
    (hstep : ∀ i, i < ops.size → ∀ (L : Nat → Bool) (a : Act) (w : World), L i = false → (∀ j ∈ needs md ops i, L j = true) → (∀ k, L k = true → ∀ j ∈ needs md ops k, L j = true) → I L a w →
      wpOp P ops Q i (fun a' w' => I (fun j => if j = i then true else L j) a' w') a w)
    (hdone : ∀ (L : Nat → Bool) (a : Act) (w : World), (∀ i, i < ops.size → L i = true) → I L a w → Q .normal a w) :
    ∀ (fuel : Nat) (listed : Array Bool) (a : Act) (w : World), listed.size = ops.size → (List.range ops.size).countP (fun i => !upTo listed i) ≤ fuel → (∀ k, upTo listed k = true → ∀ j ∈ needs md ops k, upTo listed j = true) → I (upTo listed) a w → wpAny P md ops Q fuel listed a w := by
  have hd : ∀ (listed : Array Bool), listed.size = ops.size → ∀ i, i < ops.size → (listed.getD i true = false ↔ upTo listed i = false) := fun listed hs i hi => by
    unfold upTo
    have h : i < listed.size := by omega
    simp [h]
  have hall : ∀ (listed : Array Bool), listed.size = ops.size → Region.ready md ops listed = [] → ∀ i, i < ops.size → upTo listed i = true := fun listed hs hr i => by
    induction i using Nat.strongRecOn with
    | _ i ih =>
      intro hi
      cases hu : upTo listed i with
      | true => rfl
      | false =>
        have h1 : i ∈ Region.ready md ops listed := ready_iff.2 ⟨(hd listed hs i hi).2 hu, hi, fun j hj => ih j (hback i hi j hj) (by have := hback i hi j hj; omega)⟩
        rw [hr] at h1
        cases h1
  intro fuel
  induction fuel with
  | zero =>
    intro listed a w hs hc hcl hI
    have h1 : ∀ i, i < ops.size → upTo listed i = true := fun i hi => by
      cases hu : upTo listed i with
      | true => rfl
      | false =>
        have h2 : 0 < (List.range ops.size).countP (fun i => !upTo listed i) := List.countP_pos_iff.2 ⟨i, List.mem_range.2 hi, by simp [hu]⟩
        omega
    refine ⟨?_, hdone _ a w h1 hI⟩
    cases hr : Region.ready md ops listed with
    | nil => rfl
    | cons i l =>
      have h2 : i ∈ Region.ready md ops listed := by rw [hr]; exact List.mem_cons_self
      obtain ⟨h3, h4, _⟩ := ready_iff.1 h2
      rw [hd listed hs i h4, h1 i h4] at h3
      cases h3
  | succ fuel ih =>
    intro listed a w hs hc hcl hI
    refine ⟨fun hr => hdone _ a w (hall listed hs hr) hI, fun i hi => ?_⟩
    obtain ⟨h1, h2, h3⟩ := ready_iff.1 hi
    have hu := (hd listed hs i h2).1 h1
    have hset : ∀ j, upTo (listed.setIfInBounds i true) j = if j = i then true else upTo listed j := fun j => by
      unfold upTo
      by_cases e : j = i
      · subst e
        have h : j < listed.size := by omega
        simp [h]
      · rw [if_neg e, getD_set_ne false (fun e' => e e'.symm)]
    have hset' : upTo (listed.setIfInBounds i true) = fun j => if j = i then true else upTo listed j := funext hset
    refine wpOp_mono (fun a' w' hk => ih _ a' w' (by simpa using hs) ?_ (fun k hk2 j hj => ?_) (by rw [hset']; exact hk)) (hstep i h2 (upTo listed) a w hu h3 hcl hI)
    · have hlt : (List.range ops.size).countP (fun j => !upTo (listed.setIfInBounds i true) j) < (List.range ops.size).countP (fun j => !upTo listed j) := by
        have key : ∀ l : List Nat, l.Nodup → i ∈ l → l.countP (fun j => !upTo (listed.setIfInBounds i true) j) + 1 = l.countP (fun j => !upTo listed j) := fun l => by
          induction l with
          | nil => intro _ h; cases h
          | cons x l ihl =>
            intro hn hm
            rw [List.countP_cons, List.countP_cons]
            by_cases e : x = i
            · subst e
              have h5 : l.countP (fun j => !upTo (listed.setIfInBounds x true) j) = l.countP (fun j => !upTo listed j) := List.countP_congr fun y hy => by
                have : y ≠ x := fun e => by subst e; exact (List.nodup_cons.1 hn).1 hy
                rw [hset y, if_neg this]
              rw [h5, hset x, if_pos rfl, hu]
              simp
            · have h6 := ihl (List.nodup_cons.1 hn).2 ((List.mem_cons.1 hm).resolve_left (fun e' => e e'.symm))
              rw [hset x, if_neg e]
              omega
        have := key _ List.nodup_range (List.mem_range.2 h2)
        omega
      omega
    · rw [hset] at hk2 ⊢
      by_cases e : j = i
      · rw [if_pos e]
      · rw [if_neg e]
        by_cases e2 : k = i
        · subst e2; exact h3 j hj
        · rw [if_neg e2] at hk2; exact hcl k hk2 j hj
/-- A region that draws, from its beginning on. -/
theorem wp_region_inv {id : Nat} {a : Act} {w : World} (hm : P.follows .mixedOrders = true) (I : (Nat → Bool) → Act → World → Prop) (hback : ∀ i, i < ops.size → ∀ j ∈ needs .any ops i, j < i)
    (hstep : ∀ i, i < ops.size → ∀ (L : Nat → Bool) (a : Act) (w : World), L i = false → (∀ j ∈ needs .any ops i, L j = true) → (∀ k, L k = true → ∀ j ∈ needs .any ops k, L j = true) → I L a w →
      wpOp P ops Q i (fun a' w' => I (fun j => if j = i then true else L j) a' w') a w)
    (hdone : ∀ (L : Nat → Bool) (a : Act) (w : World), (∀ i, i < ops.size → L i = true) → I L a w → Q .normal a w)
    (h0 : I (fun _ => false) a w.drew) : (Code.region id ops true).wp P Q a w := by
  have hf : ∀ i, upTo (Array.replicate ops.size false) i = false := fun i => by
    unfold upTo
    by_cases h : i < ops.size <;> simp [h]
  have hf' : upTo (Array.replicate ops.size false) = fun _ => false := funext hf
  refine wp_region_any hm (wpAny_inv I hback hstep hdone _ _ a _ (by simp) (by rw [hf']; exact Nat.le_trans (List.countP_le_length) (by simp)) (fun k hk => by rw [hf] at hk; cases hk) (by rw [hf']; exact h0))
/-- The same, those that one must wait for written out. -/
theorem wp_region_inv2 (nd : List (List Nat)) {id : Nat} {a : Act} {w : World} (hm : P.follows .mixedOrders = true) (hnd : (List.range ops.size).map (needs .any ops) = nd) (I : (Nat → Bool) → Act → World → Prop) (hback : ∀ i, i < nd.length → ∀ j ∈ nd.getD i [], j < i)
    (hstep : ∀ i, i < nd.length → ∀ (L : Nat → Bool) (a : Act) (w : World), L i = false → (∀ j ∈ nd.getD i [], L j = true) → (∀ k, L k = true → ∀ j ∈ nd.getD k [], L j = true) → I L a w →
      wpOp P ops Q i (fun a' w' => I (fun j => if j = i then true else L j) a' w') a w)
    (hdone : ∀ (L : Nat → Bool) (a : Act) (w : World), (∀ i, i < nd.length → L i = true) → I L a w → Q .normal a w)
    (h0 : I (fun _ => false) a w.drew) : (Code.region id ops true).wp P Q a w := by
  have hl : nd.length = ops.size := by rw [← hnd]; simp
  have hg : ∀ i, nd.getD i [] = needs .any ops i := fun i => by
    by_cases h : i < ops.size
    · rw [← hnd]
      simp [h]
    · have h1 : ops[i]? = none := Array.getElem?_eq_none (by omega)
      have h2 : nd[i]? = none := List.getElem?_eq_none (by omega)
      unfold needs
      rw [h1]
      simp [h2]
  refine wp_region_inv hm I (fun i hi j hj => hback i (by omega) j (by rw [hg]; exact hj)) (fun i hi L a w h1 h2 h3 h4 => hstep i (by omega) L a w h1 (fun j hj => h2 j (by rw [← hg]; exact hj)) (fun k hk j hj => h3 k hk j (by rw [← hg]; exact hj)) h4) (fun L a w h1 h2 => hdone L a w (fun i hi => h1 i (by omega)) h2) h0
/-- The same, what is held told of the frame at the beginning. -/
theorem wp_region_inv3 (nd : List (List Nat)) {id : Nat} {a : Act} {w : World} (hm : P.follows .mixedOrders = true) (hnd : (List.range ops.size).map (needs .any ops) = nd) (I : Act → (Nat → Bool) → Act → World → Prop) (hback : ∀ i, i < nd.length → ∀ j ∈ nd.getD i [], j < i) (h0 : I a (fun _ => false) a w.drew)
    (hstep : ∀ i, i < nd.length → ∀ (L : Nat → Bool) (b : Act) (w : World), L i = false → (∀ j ∈ nd.getD i [], L j = true) → (∀ k, L k = true → ∀ j ∈ nd.getD k [], L j = true) → I a L b w →
      wpOp P ops Q i (fun a' w' => I a (fun j => if j = i then true else L j) a' w') b w)
    (hdone : ∀ (L : Nat → Bool) (b : Act) (w : World), (∀ i, i < nd.length → L i = true) → I a L b w → Q .normal b w) : (Code.region id ops true).wp P Q a w :=
  wp_region_inv2 nd hm hnd (I a) hback hstep hdone h0
end
end Go.Proofs.Ytnkbbjeepdjamaa
