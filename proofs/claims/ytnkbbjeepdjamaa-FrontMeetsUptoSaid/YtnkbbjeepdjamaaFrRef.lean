/- refineryref07.Ahead, Front: the document's answer for fronts. Conditions: few places. -/
import Derived.Test.YtnkbbjeepdjamaaFrP
import Derived.Test.YtnkbbjeepdjamaaDTab
import Derived.LoopTactic
namespace Go.Proofs.Ytnkbbjeepdjamaa
open Go.RowKit
theorem nb_lt {b : List (List Nat)} (hf : Few b) {a c : Nat} (hc : c ∈ nb b a) : c < b.length := by
  unfold nb at hc
  rw [List.getD_eq_getElem?_getD] at hc
  cases hb : b[a]? with
  | none => rw [hb] at hc; simp at hc
  | some l => rw [hb] at hc; exact hf.lt a l hb c hc
theorem way_lt {b : List (List Nat)} (hf : Few b) (h0 : 0 < b.length) {x : Nat} (h : Way (nb b) 0 x) : x < b.length := by
  cases h with
  | refl => exact h0
  | step _ hc => exact nb_lt hf hc
set_option maxRecDepth 100000 in
set_option maxHeartbeats 2000000 in
theorem aheadR {w : World} {base q1 n : Nat} {vs : List Value} {b : List (List Nat)} (h : Mat w base q1 vs b) (hn : b.length = n) (hrows : ∀ (i : Nat) (l : List Nat), b[i]? = some l → l.length ≤ 1048575) (i x : Nat) (hi : i < n) :
    Calls Try.prog 63 #[.slice (some ⟨q1, 0, none⟩) n n, .int .i64 i, .int .i64 x] w fun e w' => e = .returned (.bool (decide (x ∈ nb b i))) ∧ w = w' := by
  obtain ⟨rv, l, hrv, hl, hr⟩ := h.get (i := i) (by omega)
  have hll := hrows i l hl
  have hc := h.cell i
  rw [hrv] at hc
  obtain ⟨A, c, rfl, _, _, _⟩ := rowAt_slice hr
  rw [List.length_map] at hr hc
  have i0 : 0 ≤ (i : Int) := by omega
  have i1 : (i : Int) < (n : Int) := by omega
  have hb : nb b i = l := by unfold nb; rw [List.getD_eq_getElem?_getD, hl]; rfl
  rw [hb]
  have HR := Lib.hid hr
  clear h hn hrows hrv hl hr hb
  go_enter Try.func63, Try.ntmps63
  go_wp2_with fail
  go_loop [7] (fun v => ∃ k : Nat, v = .int .i64 (k : Int) ∧ Hid (k ≤ l.length ∧ ∀ j, j < k → l[j]? ≠ some x)) (fun v => l.length - (intOf v).toNat)
  case atStart => exact ⟨0, rfl, Lib.hid ⟨Nat.zero_le _, fun j hj => by omega⟩⟩
  case round =>
    obtain ⟨k, rfl, HK⟩ := hrel
    by_cases hk : k < l.length
    · have pp : ((k : Int) < (l.length : Int)) = True := eq_true (by omega)
      have k0 : 0 ≤ (k : Int) := by omega
      have k1 : (k : Int) < (l.length : Int) := by omega
      obtain ⟨u, hu⟩ : ∃ u, l[k]? = some u := ⟨_, List.getElem?_eq_getElem hk⟩
      obtain ⟨g0, o0, rfl⟩ : ∃ g o, A = some ⟨g, o, none⟩ := by
        rcases HR.out with ⟨h1, h2⟩ | ⟨g, o, cap, cur, h1, _⟩
        · have : l = [] := by simpa using h2
          rw [this] at hk; simp at hk
        · injection h1 with h1; exact ⟨g, o, h1⟩
      have hc3 := HR.out.cell k (iv u) (by rw [List.getElem?_map, hu]; rfl)
      unfold iv at hc3
      have HU := Lib.hid hu
      clear hu
      by_cases e : u = x
      · have qq : ((u : Int) == (x : Int)) = true := by simp [e]
        have HM := Lib.hid (show decide (x ∈ l) = true from decide_eq_true (e ▸ List.mem_of_getElem? HU.out))
        clear e
        go_wp2_with fail
        go_ret
        exact ⟨by rw [HM.out]; rfl, rfl⟩
      · have qq : ((u : Int) == (x : Int)) = false := beq_eq_false_iff_ne.mpr (by omega)
        have HN := Lib.hid (show ∀ j, j < k + 1 → l[j]? ≠ some x from fun j hj => by
          by_cases ej : j = k
          · subst ej; rw [HU.out]; exact fun h => e (Option.some.inj h)
          · exact HK.out.2 j (by omega))
        clear e
        go_wp2_with fail
        go_round
        case rel => exact ⟨k + 1, by go_num, Lib.hid ⟨by omega, HN.out⟩⟩
        case measure => simp [intOf]; omega
    · obtain rfl : k = l.length := by have := HK.out.1; omega
      have pp : ((l.length : Int) < (l.length : Int)) = False := eq_false (by omega)
      have HM := Lib.hid (show decide (x ∈ l) = false from decide_eq_false (fun h => by
        obtain ⟨j, hj⟩ := List.getElem?_of_mem h
        exact HK.out.2 j (List.getElem?_eq_some_iff.1 hj).1 hj))
      go_wp2_with fail
      go_ret
      exact ⟨by rw [HM.out]; rfl, rfl⟩
/-- Rows of truth values, those of the first places, whatever they tell. -/
structure TBR (R : Nat → Nat → Prop) (w : World) (base : Nat) (n k : Nat) (v : Value) (qs : List Nat) : Prop where
  row : RowAt w base 38 v (qs.map (rowV n))
  len : qs.length = k
  at_ : ∀ a q, qs[a]? = some q → base ≤ q ∧ ∃ r, Seen w q r ∧ r.length = n ∧ ∀ b, b < n → (tr r b = true ↔ R a b)
theorem TBR.later {w w' : World} {base n k : Nat} {R : Nat → Nat → Prop} {v : Value} {qs : List Nat} (h : TBR R w base n k v qs) (hb : Below w.heap.size w w') : TBR R w' base n k v qs :=
  ⟨h.row.only (Only.of_below hb) (fun g hg e => by have := (h.row.lt hg).1; omega), h.len, fun a q hq => by
    obtain ⟨h1, r, h2, h3⟩ := h.at_ a q hq
    exact ⟨h1, r, h2.only (Only.of_below hb) (by have := lt_blk h2; omega), h3⟩⟩
theorem TBR.only {w w' : World} {base n k : Nat} {R : Nat → Nat → Prop} {v : Value} {qs : List Nat} {T : Nat → Prop} (h : TBR R w base n k v qs) (ho : Only T w w') (h1 : ∀ a q : Nat, qs[a]? = some q → ¬ T q) (h2 : ∀ g, v.ownBlock = some g → ¬ T g) : TBR R w' base n k v qs :=
  ⟨h.row.only ho h2, h.len, fun a q hq => by
    obtain ⟨h3, r, h4, h5⟩ := h.at_ a q hq
    exact ⟨h3, r, h4.only ho (h1 a q hq), h5⟩⟩
theorem TBR.lower {w : World} {base base' n k : Nat} {R : Nat → Nat → Prop} {v : Value} {qs : List Nat} (h : TBR R w base n k v qs) (hb : base' ≤ base) : TBR R w base' n k v qs :=
  ⟨h.row.lower hb, h.len, fun a q hq => by
    obtain ⟨h3, r, h4, h5⟩ := h.at_ a q hq
    exact ⟨Nat.le_trans hb h3, r, h4, h5⟩⟩
theorem TBR.put {w : World} {base n k r : Nat} {R : Nat → Nat → Prop} {v : Value} {qs : List Nat} {row : List Bool} (h : TBR R w base n k v qs) (hr : Seen w r row) (hl : row.length = n) (hrow : ∀ b, b < n → (tr row b = true ↔ R k b)) (hbr : base ≤ r) (ad : Addr) (hx : w.cell? ad = some (rowV n r)) (hb : base ≤ w.heap.size) (hk : k ≤ 1048575) :
    ∃ v' w', (Builtin.append_ #[35, 35] 35 #[v, .slice (some ad) 1 1]).run Try.prog w = .ok v' w' ∧ TBR R w' base n (k + 1) v' (qs ++ [r]) ∧ Only (fun g => v.ownBlock = some g) w w' := by
  obtain ⟨i0, hi0, hz0, hz1, hz2⟩ := info_parts infoSB
  have hql := h.len
  obtain ⟨v', w', h1, h2, h3, _⟩ := RowAt.append (P := Try.prog) 35 35 38 i0 _ 24 Try.underlying35 hi0 hz0 hz1 hz2 rfl h.row ad (rowV n r) hx rfl hb (by rw [List.length_map]; unfold maxLen; omega) (by rw [List.length_map]; omega)
  refine ⟨v', w', h1, ⟨by rw [List.map_append]; exact h2, by simp [hql], fun a q hq => ?_⟩, h3⟩
  have keep : ∀ q r', Seen w q r' → Seen w' q r' := fun q r' hs => hs.only h3 (fun e => h.row.ne_blk hs (by decide) e)
  rcases Nat.lt_or_ge a qs.length with hl' | hl'
  · rw [List.getElem?_append_left hl'] at hq
    obtain ⟨h4, r', h5, h6⟩ := h.at_ a q hq
    exact ⟨h4, r', keep q r' h5, h6⟩
  · have hal := (List.getElem?_eq_some_iff.1 hq).1
    simp at hal
    obtain rfl : a = qs.length := by omega
    simp at hq
    subst hq
    rw [hql]
    exact ⟨hbr, row, keep r row hr, hl, hrow⟩
theorem TBR.at2 {w : World} {base n k g0 o0 c : Nat} {R : Nat → Nat → Prop} {qs : List Nat} (h : TBR R w base n k (.slice (some ⟨g0, o0, none⟩) k c) qs) {a b : Nat} (ha : a < k) (hb : b < n) :
    ∃ qa rb, w.cell? ⟨g0, o0 + a, none⟩ = some (.slice (some ⟨qa, 0, none⟩) n n) ∧ w.cell? ⟨qa, b, none⟩ = some (.bool rb) ∧ (rb = true ↔ R a b) := by
  obtain ⟨qa, hqa⟩ : ∃ x, qs[a]? = some x := ⟨_, List.getElem?_eq_getElem (by rw [h.len]; exact ha)⟩
  obtain ⟨_, row, hrow, hrl, hrv⟩ := h.at_ a qa hqa
  have hrr := h.row
  refine ⟨qa, tr row b, ?_, seen_tr hrow hrl hb, hrv b hb⟩
  exact hrr.cell a (rowV n qa) (by rw [List.getElem?_map, hqa]; rfl)
theorem TB.at2 {w : World} {base n k g0 o0 c : Nat} {g : Nat → List Nat} {qs : List Nat} (h : TB w base g n k (.slice (some ⟨g0, o0, none⟩) k c) qs) {a b : Nat} (ha : a < k) (hb : b < n) :
    ∃ qa rb, w.cell? ⟨g0, o0 + a, none⟩ = some (.slice (some ⟨qa, 0, none⟩) n n) ∧ w.cell? ⟨qa, b, none⟩ = some (.bool rb) ∧ (rb = true ↔ LT.Ov g a b) := by
  obtain ⟨qa, hqa⟩ : ∃ x, qs[a]? = some x := ⟨_, List.getElem?_eq_getElem (by rw [h.len]; exact ha)⟩
  obtain ⟨_, row, hrow, hrl, hrv⟩ := h.at_ a qa hqa
  have hrr := h.row
  refine ⟨qa, tr row b, ?_, seen_tr hrow hrl hb, hrv b hb⟩
  exact hrr.cell a (rowV n qa) (by rw [List.getElem?_map, hqa]; rfl)
set_option maxRecDepth 100000 in
set_option maxHeartbeats 4000000 in
theorem frontR_calls {w : World} {base q1 n : Nat} {vs : List Value} {b : List (List Nat)} (h : Mat w base q1 vs b) (hf : Few b) (hn : b.length = n) (hrows : ∀ (i : Nat) (l : List Nat), b[i]? = some l → l.length ≤ 1048575) (hway : ∀ i, i < n → (WayO (nb b) (-1) i ↔ Way (nb b) 0 i)) :
    Calls Try.prog 33 #[.slice (some ⟨q1, 0, none⟩) n n] w fun e w' => ∃ A c qs, e = .returned (.slice A n c) ∧ TBR (LT.FrontR (nb b)) w' w.heap.size n n (.slice A n c) qs ∧ Below w.heap.size w w' := by
  have hnn := hf.n
  have hmk := mk_falses n (by omega)
  have htab := table_calls h hf hn hrows hway
  have HTAB := Lib.hid htab
  have H := Lib.hid (And.intro h (And.intro hf (And.intro hn (And.intro hrows hway))))
  rw [hn] at hnn
  clear h hf hn hrows hway htab
  go_enter Try.func33, Try.ntmps33
  go_wp2_with fail
  refine HTAB.out.mono ?_
  rintro e W1 ⟨A0, c0, qs0, rfl, htb0, hb⟩
  have H1 := Lib.hid (And.intro (H.out.1.later hb) (And.intro htb0 hb))
  clear htb0 hb HTAB
  go_wp2_with fail
  go_loopw [5, 4] (fun v o wr => ∃ (k : Nat) (A : Option Addr) (c : Nat), v = .int .i64 (k : Int) ∧ o = .slice A k c ∧ Hid (k ≤ n ∧ (∃ qs, TBR (LT.FrontR (nb b)) wr W1.heap.size n k (.slice A k c) qs) ∧ Below W1.heap.size W1 wr)) (fun v _ _ => n - (intOf v).toNat)
  case atStart => exact ⟨0, none, 0, rfl, rfl, Lib.hid ⟨Nat.zero_le _, ⟨[], RowAt.nil _ _ _, rfl, fun a q hq => by simp at hq⟩, Below.refl _ _⟩⟩
  case round =>
    obtain ⟨wo, rfl⟩ : ∃ x : World, x = wr := ⟨_, rfl⟩
    obtain ⟨k, A, c, rfl, rfl, HI⟩ := hrel
    obtain ⟨hk0, ⟨qs, htb⟩, hbl⟩ := HI.out
    clear HI
    by_cases hk : k < n
    · have pp1 : ((k : Int) < (n : Int)) = True := eq_true (by omega)
      have i0 : 0 ≤ (k : Int) := by omega
      have i1 : (k : Int) < (n : Int) := by omega
      obtain ⟨g0, o0, rfl⟩ : ∃ g o, A0 = some ⟨g, o, none⟩ := by
        rcases H1.out.2.1.row with ⟨h1, h2⟩ | ⟨g, o, cap, cur, h1, _⟩
        · have h3 : qs0 = [] := by simpa using h2
          have h4 := H1.out.2.1.len
          rw [h3] at h4
          simp at h4
          omega
        · injection h1 with h1; exact ⟨g, o, h1⟩
      generalize hX : wo.alloc (falses n) = X
      obtain ⟨hx, hbx, hz⟩ := boxed hX rfl
      have hsr : Seen X wo.heap.size (List.replicate n false) := hx
      have hwz := hbl.size
      have HOLD := Lib.hid (show (∀ a q, qs[a]? = some q → q < wo.heap.size) ∧ ∀ g, (Value.slice A k c).ownBlock = some g → g < wo.heap.size from
        ⟨fun a q hq => by obtain ⟨_, r, h4, _⟩ := htb.at_ a q hq; exact lt_blk h4, fun g hg => (htb.row.lt hg).1⟩)
      have HB := Lib.hid (And.intro (htb.later hbx) (And.intro hsr (below_two hbl hbx)))
      have HX := Lib.hid hX
      clear htb hbl hx hbx hz hsr
      clear hX
      go_wp2_with fail
      rw [HX.out]
      obtain ⟨r, hr⟩ : ∃ r, wo.heap.size = r := ⟨_, rfl⟩
      rw [hr] at HB HOLD hwz ⊢
      go_loopw [7] (fun v wr => ∃ j : Nat, v = .int .i64 (j : Int) ∧ Hid (j ≤ n ∧ (∃ row, Seen wr r row ∧ row.length = n ∧ ∀ x, x < n → (tr row x = true ↔ x < j ∧ LT.FrontR (nb b) k x)) ∧ Only (fun g => g = r) X wr)) (fun v _ => n - (intOf v).toNat)
      case atStart => exact ⟨0, rfl, Lib.hid ⟨Nat.zero_le _, ⟨_, HB.out.2.1, by simp, fun x hx => by rw [show tr (List.replicate n false) x = false from tr_falses n x]; simp⟩, Only.refl _ _⟩⟩
      case round =>
        obtain ⟨wq, rfl⟩ : ∃ x : World, x = wr := ⟨_, rfl⟩
        obtain ⟨j, rfl, HJ⟩ := hrel
        by_cases hj : j < n
        · have pp2 : ((j : Int) < (n : Int)) = True := eq_true (by omega)
          have j0 : 0 ≤ (j : Int) := by omega
          have j1 : (j : Int) < (n : Int) := by omega
          go_wp2_with fail
          go_loopw [8] (fun v wr => ∃ u : Nat, v = .int .i64 (u : Int) ∧ Hid (u ≤ n ∧ (∃ row, Seen wr r row ∧ row.length = n ∧ ∀ x, x < n → (tr row x = true ↔ (x < j ∧ LT.FrontR (nb b) k x) ∨ (x = j ∧ ∃ y, y < u ∧ j ∈ nb b y ∧ LT.Ov (nb b) k y ∧ LT.Asks (nb b) j k))) ∧ Only (fun g => g = r) X wr)) (fun v _ => n - (intOf v).toNat)
          case atStart => 
            obtain ⟨row, h1, h2, h3⟩ := HJ.out.2.1
            exact ⟨0, rfl, Lib.hid ⟨Nat.zero_le _, ⟨row, h1, h2, fun x hx => by rw [h3 x hx]; simp⟩, HJ.out.2.2⟩⟩
          case round =>
            obtain ⟨wi, rfl⟩ : ∃ x : World, x = wr := ⟨_, rfl⟩
            obtain ⟨u, rfl, HU⟩ := hrel
            by_cases hu : u < n
            · have pp3 : ((u : Int) < (n : Int)) = True := eq_true (by omega)
              have u0 : 0 ≤ (u : Int) := by omega
              have u1 : (u : Int) < (n : Int) := by omega
              have hbi : Below W1.heap.size W1 wi := HB.out.2.2.trans (HU.out.2.2.below (by have := HB.out.2.2.size; omega) (fun g hg e => by omega))
              have HBI := Lib.hid hbi
              clear hbi
              obtain ⟨row, hsr, hrl, hrv⟩ := HU.out.2.1
              have HROW := Lib.hid (And.intro hsr (And.intro hrl hrv))
              clear hsr hrl hrv
              go_wp2_with fail
              refine (aheadR (H.out.1.later (below_two H1.out.2.2 HBI.out)) H.out.2.2.1 H.out.2.2.2.1 u j hu).mono ?_
              rintro e w' ⟨rfl, rfl⟩
              by_cases hm : j ∈ nb b u
              · rw [decide_eq_true hm]
                obtain ⟨qa, ra, ca, cb, hra⟩ := (H1.out.2.1.later HBI.out).at2 hk hu
                obtain ⟨qa2, rb, ca2, cb2, hrb⟩ := (H1.out.2.1.later HBI.out).at2 hk hj
                obtain rfl : qa = qa2 := by rw [ca] at ca2; simpa using ca2
                have HRA := Lib.hid (And.intro hra (And.intro hrb hm))
                clear hra hrb hm ca2
                cases ra
                · have HN := Lib.hid (show ∀ x, x < n → (tr row x = true ↔ (x < j ∧ LT.FrontR (nb b) k x) ∨ (x = j ∧ ∃ y, y < u + 1 ∧ j ∈ nb b y ∧ LT.Ov (nb b) k y ∧ LT.Asks (nb b) j k)) from fun x hx => by
                    rw [HROW.out.2.2 x hx]
                    refine or_congr Iff.rfl (and_congr Iff.rfl ⟨fun ⟨y, h1, h2⟩ => ⟨y, by omega, h2⟩, fun ⟨y, h1, h2, h3, h4⟩ => ?_⟩)
                    by_cases e : y = u
                    · subst e; have := HRA.out.1.2 h3; cases this
                    · exact ⟨y, by omega, h2, h3, h4⟩)
                  go_wp2_with fail
                  go_roundw
                  case rel => exact ⟨u + 1, by go_num, Lib.hid ⟨by omega, ⟨row, HROW.out.1, HROW.out.2.1, HN.out⟩, HU.out.2.2⟩⟩
                  case measure => simp [intOf]; omega
                · by_cases hkj : k = j
                  · have qq : ((k : Int) == (j : Int)) = true := by simp [hkj]
                    have HA1 := Lib.hid (show LT.Asks (nb b) j k from .inl hkj)
                    clear hkj
                    have hst := HROW.out.1.set j true
                    have hfr := HROW.out.1.frozen j
                    have hcr := HROW.out.1.cell j (by rw [HROW.out.2.1]; exact hj)
                    have hos := HU.out.2.2.trans (Only.setCell wi ⟨r, j, none⟩ (.bool true)) (fun _ _ e => e)
                    have HN := Lib.hid (show ∃ row', Seen (wi.setCell ⟨r, j, none⟩ (.bool true)) r row' ∧ row'.length = n ∧ ∀ x, x < n → (tr row' x = true ↔ (x < j ∧ LT.FrontR (nb b) k x) ∨ (x = j ∧ ∃ y, y < u + 1 ∧ j ∈ nb b y ∧ LT.Ov (nb b) k y ∧ LT.Asks (nb b) j k)) from by
                      refine ⟨_, hst, by simp [HROW.out.2.1], fun x hx => ?_⟩
                      rw [tr_put (by rw [HROW.out.2.1]; exact hj)]
                      by_cases e : x = j
                      · rw [if_pos e]
                        exact ⟨fun _ => .inr ⟨e, u, by omega, HRA.out.2.2, HRA.out.1.1 rfl, HA1.out⟩, fun _ => rfl⟩
                      · rw [if_neg e, HROW.out.2.2 x hx]
                        exact ⟨fun h => .inl (h.resolve_right (fun k => e k.1)), fun h => .inl (h.resolve_right (fun k => e k.1))⟩)
                    have HOS := Lib.hid hos
                    clear hst hos
                    go_wp2_with fail
                    go_roundw
                    case rel => exact ⟨u + 1, by go_num, Lib.hid ⟨by omega, HN.out, HOS.out⟩⟩
                    case measure => simp [intOf]; omega
                  · have qq : ((k : Int) == (j : Int)) = false := beq_eq_false_iff_ne.mpr (by omega)
                    have HKJ := Lib.hid hkj
                    clear hkj
                    cases rb
                    · have HA1 := Lib.hid (show LT.Asks (nb b) j k from .inr (fun e => by have := HRA.out.2.1.2 e; cases this))
                      have hst := HROW.out.1.set j true
                      have hfr := HROW.out.1.frozen j
                      have hcr := HROW.out.1.cell j (by rw [HROW.out.2.1]; exact hj)
                      have hos := HU.out.2.2.trans (Only.setCell wi ⟨r, j, none⟩ (.bool true)) (fun _ _ e => e)
                      have HN := Lib.hid (show ∃ row', Seen (wi.setCell ⟨r, j, none⟩ (.bool true)) r row' ∧ row'.length = n ∧ ∀ x, x < n → (tr row' x = true ↔ (x < j ∧ LT.FrontR (nb b) k x) ∨ (x = j ∧ ∃ y, y < u + 1 ∧ j ∈ nb b y ∧ LT.Ov (nb b) k y ∧ LT.Asks (nb b) j k)) from by
                        refine ⟨_, hst, by simp [HROW.out.2.1], fun x hx => ?_⟩
                        rw [tr_put (by rw [HROW.out.2.1]; exact hj)]
                        by_cases e : x = j
                        · rw [if_pos e]
                          exact ⟨fun _ => .inr ⟨e, u, by omega, HRA.out.2.2, HRA.out.1.1 rfl, HA1.out⟩, fun _ => rfl⟩
                        · rw [if_neg e, HROW.out.2.2 x hx]
                          exact ⟨fun h => .inl (h.resolve_right (fun k => e k.1)), fun h => .inl (h.resolve_right (fun k => e k.1))⟩)
                      have HOS := Lib.hid hos
                      clear hst hos
                      go_wp2_with fail
                      go_roundw
                      case rel => exact ⟨u + 1, by go_num, Lib.hid ⟨by omega, HN.out, HOS.out⟩⟩
                      case measure => simp [intOf]; omega
                    · have HN := Lib.hid (show ∀ x, x < n → (tr row x = true ↔ (x < j ∧ LT.FrontR (nb b) k x) ∨ (x = j ∧ ∃ y, y < u + 1 ∧ j ∈ nb b y ∧ LT.Ov (nb b) k y ∧ LT.Asks (nb b) j k)) from fun x hx => by
                        rw [HROW.out.2.2 x hx]
                        refine or_congr Iff.rfl (and_congr Iff.rfl ⟨fun ⟨y, h1, h2⟩ => ⟨y, by omega, h2⟩, fun ⟨y, h1, h2, h3, h4⟩ => ?_⟩)
                        rcases h4 with h4 | h4
                        · exact absurd h4 HKJ.out
                        · exact absurd (HRA.out.2.1.1 rfl) h4)
                      go_wp2_with fail
                      go_roundw
                      case rel => exact ⟨u + 1, by go_num, Lib.hid ⟨by omega, ⟨row, HROW.out.1, HROW.out.2.1, HN.out⟩, HU.out.2.2⟩⟩
                      case measure => simp [intOf]; omega
              · rw [decide_eq_false hm]
                have HN := Lib.hid (show ∀ x, x < n → (tr row x = true ↔ (x < j ∧ LT.FrontR (nb b) k x) ∨ (x = j ∧ ∃ y, y < u + 1 ∧ j ∈ nb b y ∧ LT.Ov (nb b) k y ∧ LT.Asks (nb b) j k)) from fun x hx => by
                  rw [HROW.out.2.2 x hx]
                  refine or_congr Iff.rfl (and_congr Iff.rfl ⟨fun ⟨y, h1, h2⟩ => ⟨y, by omega, h2⟩, fun ⟨y, h1, h2, h3, h4⟩ => ?_⟩)
                  by_cases e : y = u
                  · subst e; exact absurd h2 hm
                  · exact ⟨y, by omega, h2, h3, h4⟩)
                clear hm
                go_wp2_with fail
                go_roundw
                case rel => exact ⟨u + 1, by go_num, Lib.hid ⟨by omega, ⟨row, HROW.out.1, HROW.out.2.1, HN.out⟩, HU.out.2.2⟩⟩
                case measure => simp [intOf]; omega
            · obtain rfl : u = n := by have := HU.out.1; omega
              have pp3 : ((u : Int) < (u : Int)) = False := eq_false (by omega)
              have HN := Lib.hid (show ∃ row, Seen wi r row ∧ row.length = u ∧ ∀ x, x < u → (tr row x = true ↔ x < j + 1 ∧ LT.FrontR (nb b) k x) from by
                obtain ⟨row, h1, h2, h3⟩ := HU.out.2.1
                refine ⟨row, h1, h2, fun x hx => ?_⟩
                rw [h3 x hx]
                constructor
                · rintro (⟨h4, h5⟩ | ⟨rfl, y, h4, h5, h6, h7⟩)
                  · exact ⟨by omega, h5⟩
                  · exact ⟨by omega, y, h5, h6, h7⟩
                · rintro ⟨h4, h5⟩
                  by_cases e : x = j
                  · subst e
                    obtain ⟨y, h5, h6, h7⟩ := h5
                    refine .inr ⟨rfl, y, ?_, h5, h6, h7⟩
                    have k1 := way_lt H.out.2.1 (by have := H.out.2.2.1; omega) h6.2.1
                    have k2 := H.out.2.2.1
                    omega
                  · exact .inl ⟨by omega, h5⟩)
              go_wp2_with fail
              go_roundw
              case rel => exact ⟨j + 1, by go_num, Lib.hid ⟨by omega, HN.out, HU.out.2.2⟩⟩
              case measure => simp [intOf]; omega
        · obtain rfl : n = j := by have := HJ.out.1; omega
          have pp2 : ((n : Int) < (n : Int)) = False := eq_false (by omega)
          obtain ⟨row, hsr, hrl, hrow⟩ := HJ.out.2.1
          have hrow' : ∀ b', b' < n → (tr row b' = true ↔ LT.FrontR (nb b) k b') := fun b' hb' => by rw [hrow b' hb']; exact ⟨fun e => e.2, fun e => ⟨hb', e⟩⟩
          have hbz : Below W1.heap.size W1 wq := HB.out.2.2.trans (HJ.out.2.2.below HB.out.2.2.size (fun g hg e => by omega))
          have htbq : TBR (LT.FrontR (nb b)) wq W1.heap.size n k (.slice A k c) qs := HB.out.1.only HJ.out.2.2 (fun a q hq e => by have := HOLD.out.1 a q hq; omega) (fun g hg e => by have := HOLD.out.2 g hg; omega)
          have hsl : Seen (wq.alloc (.cells #[rowV n r] 38)) r row := hsr.only (Only.alloc (fun _ => False) _ _) id
          obtain ⟨v', W5, hrun, htb5, ho5⟩ := (htbq.later ((Below.refl _ _).alloc (Nat.le_refl _) (.cells #[rowV n r] 38))).put hsl hrl hrow' (by omega) ⟨wq.heap.size, 0, none⟩ (cell_of_blk _ _ _ _ _ (heap_alloc_new' wq _) 0) (by have := hbz.size; simp; omega) (by omega)
          obtain ⟨A5, c5, rfl, _, _, _⟩ := rowAt_slice htb5.row
          have hl5 : ((qs ++ [r]).map (rowV n)).length = k + 1 := by rw [List.length_map]; exact htb5.len
          rw [hl5] at hrun htb5
          have hb5 : Below W1.heap.size W1 W5 := (hbz.trans (((Only.alloc _ wq _).trans ho5 (fun _ _ e => e)).below hbz.size (fun g hg e => by have := (htbq.row.lt e).2; omega)))
          have HRUN := Lib.hid hrun
          have HE := Lib.hid (And.intro htb5 hb5)
          clear htbq hsl hrun htb5 ho5 hl5 hb5 hsr hrl hrow hrow' hbz
          unfold rowV at HRUN
          go_wp2_with (first | (at_builtin; refine Lib.wpList_append_run _ rfl _ _ _ _ rfl _ _ rfl rfl _ _ HRUN.out ?_) | fail)
          go_roundw
          case rel => exact ⟨k + 1, A5, c5, by go_num, rfl, Lib.hid ⟨by omega, ⟨_, HE.out.1⟩, HE.out.2⟩⟩
          case measure => simp [intOf]; omega
    · obtain rfl : k = n := by omega
      have pp1 : ((k : Int) < (k : Int)) = False := eq_false (by omega)
      have HE := Lib.hid (And.intro htb (below_two H1.out.2.2 hbl))
      clear htb hbl
      go_wp2_with fail
      go_ret
      exact ⟨A, c, qs, rfl, HE.out.1.lower H1.out.2.2.size, HE.out.2⟩
end Go.Proofs.Ytnkbbjeepdjamaa
