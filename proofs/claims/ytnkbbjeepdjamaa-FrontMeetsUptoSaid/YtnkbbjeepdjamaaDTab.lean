/- refineryref07.Table: of each two places whether one is over the other. Conditions: few places. -/
import Derived.Test.YtnkbbjeepdjamaaGLaw
import Derived.Test.YtnkbbjeepdjamaaM1
import Derived.LoopTactic
import Derived.Outline
namespace Go.Proofs.Ytnkbbjeepdjamaa
open Go.RowKit
theorem infoSB : (Try.prog.info? 38).map (fun i => (i.zero, i.size, i.bytes)) = some (some (.slice none 0 0), 1, 24) := by kernel_rfl
def rowV (n q : Nat) : Value := .slice (some ⟨q, 0, none⟩) n n
/-- Rows of truth values, those of the first places. -/
structure TB (w : World) (base : Nat) (g : Nat → List Nat) (n k : Nat) (v : Value) (qs : List Nat) : Prop where
  row : RowAt w base 38 v (qs.map (rowV n))
  len : qs.length = k
  at_ : ∀ a q, qs[a]? = some q → base ≤ q ∧ ∃ r, Seen w q r ∧ r.length = n ∧ ∀ b, b < n → (tr r b = true ↔ LT.Ov g a b)
theorem TB.later {w w' : World} {base n k : Nat} {g : Nat → List Nat} {v : Value} {qs : List Nat} (h : TB w base g n k v qs) (hb : Below w.heap.size w w') : TB w' base g n k v qs :=
  ⟨h.row.only (Only.of_below hb) (fun g hg e => by have := (h.row.lt hg).1; omega), h.len, fun a q hq => by
    obtain ⟨h1, r, h2, h3⟩ := h.at_ a q hq
    exact ⟨h1, r, h2.only (Only.of_below hb) (by have := lt_blk h2; omega), h3⟩⟩
theorem TB.only {w w' : World} {base n k : Nat} {g : Nat → List Nat} {v : Value} {qs : List Nat} {T : Nat → Prop} (h : TB w base g n k v qs) (ho : Only T w w') (h1 : ∀ a q : Nat, qs[a]? = some q → ¬ T q) (h2 : ∀ g, v.ownBlock = some g → ¬ T g) : TB w' base g n k v qs :=
  ⟨h.row.only ho h2, h.len, fun a q hq => by
    obtain ⟨h3, r, h4, h5⟩ := h.at_ a q hq
    exact ⟨h3, r, h4.only ho (h1 a q hq), h5⟩⟩
theorem TB.lower {w : World} {base base' n k : Nat} {g : Nat → List Nat} {v : Value} {qs : List Nat} (h : TB w base g n k v qs) (hb : base' ≤ base) : TB w base' g n k v qs :=
  ⟨h.row.lower hb, h.len, fun a q hq => by
    obtain ⟨h3, r, h4, h5⟩ := h.at_ a q hq
    exact ⟨Nat.le_trans hb h3, r, h4, h5⟩⟩
theorem TB.put {w : World} {base n k r : Nat} {g : Nat → List Nat} {v : Value} {qs : List Nat} {row : List Bool} (h : TB w base g n k v qs) (hr : Seen w r row) (hl : row.length = n) (hrow : ∀ b, b < n → (tr row b = true ↔ LT.Ov g k b)) (hbr : base ≤ r) (ad : Addr) (hx : w.cell? ad = some (rowV n r)) (hb : base ≤ w.heap.size) (hk : k ≤ 1048575) :
    ∃ v' w', (Builtin.append_ #[35, 35] 35 #[v, .slice (some ad) 1 1]).run Try.prog w = .ok v' w' ∧ TB w' base g n (k + 1) v' (qs ++ [r]) ∧ Only (fun g => v.ownBlock = some g) w w' := by
  obtain ⟨i0, hi0, hz0, hz1, hz2⟩ := info_parts infoSB
  have hql := h.len
  obtain ⟨v', w', h1, h2, h3, _⟩ := RowAt.append (P := Try.prog) 35 35 38 i0 _ 24 Try.underlying35 hi0 hz0 hz1 hz2 rfl h.row ad (rowV n r) hx rfl hb (by rw [List.length_map]; unfold maxLen; omega) (by rw [List.length_map]; omega)
  refine ⟨v', w', h1, ⟨by rw [List.map_append]; exact h2, by simp [hql], fun a q hq => ?_⟩, h3⟩
  have keep : ∀ q r', Seen w q r' → Seen w' q r' := fun q r' hs => hs.only h3 (fun e => h.row.ne_blk hs (by decide) e)
  rcases Nat.lt_or_ge a qs.length with hl' | hl'
  · rw [List.getElem?_append_left hl'] at hq
    obtain ⟨h4, r', h5, h6⟩ := h.at_ a q hq
    exact ⟨h4, r', keep q r' h5, h6⟩
  · have hal := (List.getElem?_eq_some_iff.1 hq).1
    simp at hal
    obtain rfl : a = qs.length := by omega
    simp at hq
    subst hq
    rw [hql]
    exact ⟨hbr, row, keep r row hr, hl, hrow⟩
theorem tr_put {s : List Bool} {i j : Nat} {v : Bool} (hj : j < s.length) : tr (s.set j v) i = if i = j then v else tr s i := by
  unfold tr
  simp only [List.getD_eq_getElem?_getD, List.getElem?_set]
  by_cases e : j = i
  · subst e; simp [hj]
  · have : ¬ i = j := fun h => e h.symm
    simp [e, this]
set_option maxRecDepth 100000 in
set_option maxHeartbeats 4000000 in
theorem table_calls {w : World} {base q1 n : Nat} {vs : List Value} {b : List (List Nat)} (h : Mat w base q1 vs b) (hf : Few b) (hn : b.length = n) (hrows : ∀ (i : Nat) (l : List Nat), b[i]? = some l → l.length ≤ 1048575) (hway : ∀ i, i < n → (WayO (nb b) (-1) i ↔ Way (nb b) 0 i)) :
    Calls Try.prog 20 #[.slice (some ⟨q1, 0, none⟩) n n] w fun e w' => ∃ A c qs, e = .returned (.slice A n c) ∧ TB w' w.heap.size (nb b) n n (.slice A n c) qs ∧ Below w.heap.size w w' := by
  have hnn := hf.n
  have hmk := mk_falses n (by omega)
  have H := Lib.hid (And.intro h (And.intro hf (And.intro hn (And.intro hrows hway))))
  have hr1 := ref_calls h hf hrows (-1)
  rw [hn] at hr1
  rw [hn] at hnn
  have HR1 := Lib.hid hr1
  clear h hf hn hrows hway hr1
  go_enter Try.func20, Try.ntmps20
  go_wp2_with fail
  refine HR1.out.mono ?_
  rintro e W1 ⟨q, all, rfl, hs, hal, haw, hq, hb⟩
  rw [H.out.2.2.1] at hal haw ⊢
  have hall : ∀ x, x < n → (tr all x = true ↔ Way (nb b) 0 x) := fun x hx => (haw x hx).trans (H.out.2.2.2.2 x hx)
  have H1 := Lib.hid (And.intro (H.out.1.later hb) (And.intro hs (And.intro hal (And.intro hall hb))))
  clear hs hal haw hq hb HR1 hall
  go_wp2_with fail
  go_loopw [5, 4] (fun v o wr => ∃ (k : Nat) (A : Option Addr) (c : Nat), v = .int .i64 (k : Int) ∧ o = .slice A k c ∧ Hid (k ≤ n ∧ (∃ qs, TB wr W1.heap.size (nb b) n k (.slice A k c) qs) ∧ Below W1.heap.size W1 wr)) (fun v _ _ => n - (intOf v).toNat)
  case atStart => exact ⟨0, none, 0, rfl, rfl, Lib.hid ⟨Nat.zero_le _, ⟨[], RowAt.nil _ _ _, rfl, fun a q hq => by simp at hq⟩, Below.refl _ _⟩⟩
  case round =>
    obtain ⟨wo, rfl⟩ : ∃ x : World, x = wr := ⟨_, rfl⟩
    obtain ⟨k, A, c, rfl, rfl, HI⟩ := hrel
    obtain ⟨hk0, ⟨qs, htb⟩, hbl⟩ := HI.out
    clear HI
    by_cases hk : k < n
    · have pp1 : ((k : Int) < (n : Int)) = True := eq_true (by omega)
      have i0 : 0 ≤ (k : Int) := by omega
      have i1 : (k : Int) < (n : Int) := by omega
      generalize hX : wo.alloc (falses n) = X
      obtain ⟨hx, hbx, hz⟩ := boxed hX rfl
      have hseenX := (H1.out.2.1.only (Only.of_below hbl) (by have := lt_blk H1.out.2.1; omega)).only (Only.of_below hbx) (by have := lt_blk H1.out.2.1; have := hbl.size; omega)
      have ca := seen_tr hseenX H1.out.2.2.1 hk
      have hbw : w.heap.size ≤ wo.heap.size := Nat.le_trans H1.out.2.2.2.2.size hbl.size
      have hsr : Seen X wo.heap.size (List.replicate n false) := hx
      have hwz := hbl.size
      have HOLD := Lib.hid (show (∀ a q, qs[a]? = some q → q < wo.heap.size) ∧ ∀ g, (Value.slice A k c).ownBlock = some g → g < wo.heap.size from
        ⟨fun a q hq => by obtain ⟨_, r, h4, _⟩ := htb.at_ a q hq; exact lt_blk h4, fun g hg => (htb.row.lt hg).1⟩)
      have HB := Lib.hid (And.intro (htb.later hbx) (And.intro hsr (And.intro (below_two hbl hbx) (And.intro hbw hX))))
      clear htb hbl hx hbx hz hseenX hbw hsr
      by_cases hwk : Way (nb b) 0 k
      · rw [(H1.out.2.2.2.1 k hk).2 hwk] at ca
        have hrf := ref_calls (H1.out.1.later HB.out.2.2.1) H.out.2.1 H.out.2.2.2.1 (k : Int)
        rw [H.out.2.2.1] at hrf
        have HRF := Lib.hid hrf
        rw [← hX] at ca
        clear hrf hX
        go_wp2_with fail
        rw [HB.out.2.2.2.2]
        clear ca
        refine HRF.out.mono ?_
        rintro e W3 ⟨q3, less, rfl, hs3, hl3, hw3, hq3, hb3⟩
        rw [H.out.2.2.1] at hl3 hw3 ⊢
        have hr0 : q3 ≠ wo.heap.size := by have := lt_blk HB.out.2.1; omega
        have H3 := Lib.hid (And.intro hs3 (And.intro hl3 (And.intro hw3 (And.intro (HB.out.1.later hb3) (And.intro (HB.out.2.1.only (Only.of_below hb3) (by have := lt_blk HB.out.2.1; omega)) (And.intro (below_two HB.out.2.2.1 hb3) hr0))))))
        have hqa : q < wo.heap.size := by have h1 := lt_blk H1.out.2.1; omega
        go_wp2_with fail
        obtain ⟨r, hr⟩ : ∃ r, wo.heap.size = r := ⟨_, rfl⟩
        rw [hr] at H3 hqa
        rw [hr]
        go_loopw [8] (fun v wr => ∃ j : Nat, v = .int .i64 (j : Int) ∧ Hid (j ≤ n ∧ (∃ row, Seen wr r row ∧ row.length = n ∧ ∀ x, x < j → (tr row x = true ↔ LT.Ov (nb b) k x)) ∧ Only (fun g => g = r) W3 wr)) (fun v _ => n - (intOf v).toNat)
        case atStart => exact ⟨0, rfl, Lib.hid ⟨Nat.zero_le _, ⟨_, H3.out.2.2.2.2.1, by simp, fun x hx => by omega⟩, Only.refl _ _⟩⟩
        case round =>
          obtain ⟨wq, rfl⟩ : ∃ x : World, x = wr := ⟨_, rfl⟩
          obtain ⟨j, rfl, HI⟩ := hrel
          obtain ⟨hj0, ⟨row, hsr, hrl, hrow⟩, hon⟩ := HI.out
          clear HI
          have hall3 := (H1.out.2.1.only (Only.of_below H3.out.2.2.2.2.2.1) (by have := lt_blk H1.out.2.1; omega)).only hon (by omega)
          have hless := H3.out.1.only hon (by omega)
          by_cases hj : j < n
          · have pp2 : ((j : Int) < (n : Int)) = True := eq_true (by omega)
            have j0 : 0 ≤ (j : Int) := by omega
            have j1 : (j : Int) < (n : Int) := by omega
            have ca := seen_tr hall3 H1.out.2.2.1 hj
            have cl := seen_tr hless H3.out.2.1 hj
            have cr := hsr.cell j (by omega)
            have fr := hsr.frozen j
            have hst := fun v => hsr.set j v
            have hos := fun v => hon.trans (Only.setCell wq ⟨r, j, none⟩ (.bool v)) (fun _ _ e => e)
            have fin : ∀ v : Bool, (v = true ↔ LT.Ov (nb b) k j) → (∃ row', Seen (wq.setCell ⟨r, j, none⟩ (.bool v)) r row' ∧ row'.length = n ∧ ∀ x, x < j + 1 → (tr row' x = true ↔ LT.Ov (nb b) k x)) ∧ Only (fun g => g = r) W3 (wq.setCell ⟨r, j, none⟩ (.bool v)) := fun v hv =>
              ⟨⟨_, hst v, by simp [hrl], fun x hx => by
                rw [tr_put (by omega)]
                by_cases e : x = j
                · subst e; rw [if_pos rfl]; exact hv
                · rw [if_neg e]; exact hrow x (by omega)⟩, hos v⟩
            have FIN := Lib.hid fin
            have HW3 := H3.out.2.2.1 j hj
            have HWJ := H1.out.2.2.2.1 j hj
            by_cases hwj : Way (nb b) 0 j
            · rw [HWJ.2 hwj] at ca
              by_cases hkj : k = j
              · subst hkj
                have qq : ((k : Int) == (k : Int)) = true := by simp
                have HF := Lib.hid (FIN.out true (by simp; exact LT.ov_self hwk))
                clear hall3 hless hsr hrow hon hst hos fin HW3 HWJ
                go_wp2_with fail
                go_roundw
                case rel => exact ⟨k + 1, by go_num, Lib.hid ⟨by omega, HF.out.1, HF.out.2⟩⟩
                case measure => simp [intOf]; omega
              · have qq : ((k : Int) == (j : Int)) = false := beq_eq_false_iff_ne.mpr (by omega)
                have HF := Lib.hid (FIN.out (!tr less j) (by
                  constructor
                  · intro e; exact ⟨hwk, hwj, fun hw => by rw [HW3.2 hw] at e; cases e⟩
                  · intro e
                    cases hb : tr less j with
                    | false => rfl
                    | true => exact absurd (HW3.1 hb) e.2.2))
                clear hall3 hless hsr hrow hon hst hos fin HW3 HWJ
                go_wp2_with fail
                go_roundw
                case rel => exact ⟨j + 1, by go_num, Lib.hid ⟨by omega, HF.out.1, HF.out.2⟩⟩
                case measure => simp [intOf]; omega
            · have hfa : tr all j = false := by
                cases hb : tr all j with
                | false => rfl
                | true => exact absurd (HWJ.1 hb) hwj
              rw [hfa] at ca
              have HF := Lib.hid (FIN.out false (by simp; exact fun e => hwj e.2.1))
              clear hall3 hless hsr hrow hon hst hos fin HW3 HWJ hfa
              go_wp2_with fail
              go_roundw
              case rel => exact ⟨j + 1, by go_num, Lib.hid ⟨by omega, HF.out.1, HF.out.2⟩⟩
              case measure => simp [intOf]; omega
          · obtain rfl : n = j := by omega
            have pp2 : ((n : Int) < (n : Int)) = False := eq_false (by omega)
            have hbz : Below W1.heap.size W1 wq := H3.out.2.2.2.2.2.1.trans (hon.below H3.out.2.2.2.2.2.1.size (fun g hg e => by omega))
            have htbq : TB wq W1.heap.size (nb b) n k (.slice A k c) qs := H3.out.2.2.2.1.only hon (fun a q hq e => by have := HOLD.out.1 a q hq; omega) (fun g hg e => by have := HOLD.out.2 g hg; omega)
            have hsl : Seen (wq.alloc (.cells #[rowV n r] 38)) r row := hsr.only (Only.alloc (fun _ => False) _ _) id
            have hzz : W1.heap.size ≤ wq.heap.size := hbz.size
            obtain ⟨v', W5, hrun, htb5, ho5⟩ := (htbq.later ((Below.refl _ _).alloc (Nat.le_refl _) (.cells #[rowV n r] 38))).put hsl hrl hrow (by omega) ⟨wq.heap.size, 0, none⟩ (cell_of_blk _ _ _ _ _ (heap_alloc_new' wq _) 0) (by simp; omega) (by omega)
            obtain ⟨A5, c5, rfl, _, _, _⟩ := rowAt_slice htb5.row
            have hl5 : ((qs ++ [r]).map (rowV n)).length = k + 1 := by rw [List.length_map]; exact htb5.len
            rw [hl5] at hrun htb5
            have hb5 : Below W1.heap.size W1 W5 := (hbz.trans (((Only.alloc _ wq _).trans ho5 (fun _ _ e => e)).below hbz.size (fun g hg e => by have := (htbq.row.lt e).2; omega)))
            have HRUN := Lib.hid hrun
            have HE := Lib.hid (And.intro htb5 hb5)
            clear htbq hsl hzz hrun htb5 ho5 hl5 hb5 hsr hrl hrow hon hall3 hless hbz
            unfold rowV at HRUN
            go_wp2_with (first | (at_builtin; refine Lib.wpList_append_run _ rfl _ _ _ _ rfl _ _ rfl rfl _ _ HRUN.out ?_) | fail)
            go_roundw
            case rel => exact ⟨k + 1, A5, c5, by go_num, rfl, Lib.hid ⟨by omega, ⟨_, HE.out.1⟩, HE.out.2⟩⟩
            case measure => simp [intOf]; omega
      · have hfa : tr all k = false := by
          cases hb : tr all k with
          | false => rfl
          | true => exact absurd ((H1.out.2.2.2.1 k hk).1 hb) hwk
        rw [hfa] at ca
        have hrow0 : ∀ b', b' < n → (tr (List.replicate n false) b' = true ↔ LT.Ov (nb b) k b') := fun b' hb' => by
          have h1 : tr (List.replicate n false) b' = false := tr_falses n b'
          rw [h1]; simp; exact fun e => hwk e.1
        clear hfa
        have htbq : TB X W1.heap.size (nb b) n k (.slice A k c) qs := HB.out.1
        have hsl : Seen (X.alloc (.cells #[rowV n wo.heap.size] 38)) wo.heap.size (List.replicate n false) := HB.out.2.1.only (Only.alloc (fun _ => False) _ _) id
        have hzz : W1.heap.size ≤ X.heap.size := HB.out.2.2.1.size
        obtain ⟨v', W5, hrun, htb5, ho5⟩ := (htbq.later ((Below.refl _ _).alloc (Nat.le_refl _) (.cells #[rowV n wo.heap.size] 38))).put hsl (by simp) hrow0 (by exact hwz) ⟨X.heap.size, 0, none⟩ (cell_of_blk _ _ _ _ _ (heap_alloc_new' X _) 0) (by simp; omega) (by omega)
        obtain ⟨A5, c5, rfl, _, _, _⟩ := rowAt_slice htb5.row
        have hl5 : ((qs ++ [wo.heap.size]).map (rowV n)).length = k + 1 := by rw [List.length_map]; exact htb5.len
        rw [hl5] at hrun htb5
        have hb5 : Below W1.heap.size W1 W5 := (HB.out.2.2.1.trans (((Only.alloc _ X _).trans ho5 (fun _ _ e => e)).below HB.out.2.2.1.size (fun g hg e => by have := (htbq.row.lt e).2; omega)))
        have HRUN := Lib.hid hrun
        have HE := Lib.hid (And.intro htb5 hb5)
        clear htbq hsl hzz hrun htb5 ho5 hl5 hb5 hrow0
        unfold rowV at HRUN
        go_upto_region 13 with (fail)
        clear ca hX
        go_wp2_with (first | (at_builtin; refine Lib.wpList_append_run _ rfl _ _ _ _ rfl _ _ rfl rfl _ _ HRUN.out ?_) | fail)
        go_roundw
        case rel => exact ⟨k + 1, A5, c5, by go_num, rfl, Lib.hid ⟨by omega, ⟨_, HE.out.1⟩, HE.out.2⟩⟩
        case measure => simp [intOf]; omega
    · obtain rfl : k = n := by omega
      have pp1 : ((k : Int) < (k : Int)) = False := eq_false (by omega)
      have HE := Lib.hid (And.intro htb (below_two H1.out.2.2.2.2 hbl))
      clear htb hbl
      go_wp2_with fail
      go_ret
      exact ⟨A, c, qs, rfl, HE.out.1.lower H1.out.2.2.2.2.size, HE.out.2⟩
end Go.Proofs.Ytnkbbjeepdjamaa
