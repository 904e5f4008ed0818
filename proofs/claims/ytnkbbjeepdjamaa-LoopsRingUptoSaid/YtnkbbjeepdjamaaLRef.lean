/- refineryref07.Body: of a head's loop which places are in it. Conditions: few places. -/
import Derived.Test.YtnkbbjeepdjamaaLRefP
import Derived.Test.YtnkbbjeepdjamaaLOfP
import Derived.Test.YtnkbbjeepdjamaaFrRef
namespace Go.Proofs.Ytnkbbjeepdjamaa
open Go.RowKit
theorem nb_from {b : List (List Nat)} {n u v : Nat} (hb : b.length = n) (h : v ∈ nb b u) : u < n := by
  by_cases e : u < n
  · exact e
  · have e2 : b[u]? = none := List.getElem?_eq_none (by omega)
    unfold nb at h
    simp [e2] at h
def ShutB (g : Nat → List Nat) (h n : Nat) (row : List Bool) : Prop := ∀ v u, v < n → u < n → Pr g h row v u → tr row u = true
theorem BPf.round {g : Nat → List Nat} {h n : Nat} {row0 row : List Bool} (H : BPf g h n row0 n row) (hl : row0.length = n) (hn : ∀ v u, v ∈ g u → u < n ∧ v < n) (hh : tr row0 h = true) (hb : ∀ u, h ∈ g u → LT.Ov g h u → tr row0 u = true) (hs : ∀ v, tr row0 v = true → LB g h v) {k : Nat} (hk : k + 1 ≤ cnt row0 ∨ ShutB g h n row0) : k + 1 + 1 ≤ cnt row ∨ ShutB g h n row := by
  rcases H.fin with e | ⟨e, e2⟩
  · rcases hk with hk | hk
    · exact .inl (by omega)
    · have := (cnt_mono (s := row) (t := row0) (by rw [H.len, hl]) (fun v hv => (shut_all hn hh hb hs hk v).2 (H.sound v hv))).1
      omega
  · exact .inr e2
/-- While the ways ahead of the head are looked at. -/
def BW (g : Nat → List Nat) (h n u : Nat) (s : Bool) (row : List Bool) : Prop := row.length = n ∧ (∀ x, x < n → (tr row x = true ↔ x < u ∧ h ∈ g x ∧ LT.Ov g h x)) ∧ (s = true ↔ ∃ y, y < u ∧ h ∈ g y ∧ LT.Ov g h y)
theorem BW.skip {g : Nat → List Nat} {h n u : Nat} {s : Bool} {row : List Bool} (H : BW g h n u s row) (hn : ¬ (h ∈ g u ∧ LT.Ov g h u)) : BW g h n (u + 1) s row := by
  refine ⟨H.1, fun x hx => (H.2.1 x hx).trans ⟨fun ⟨a, b⟩ => ⟨by omega, b⟩, fun ⟨a, b⟩ => ⟨?_, b⟩⟩, H.2.2.trans ⟨fun ⟨y, a, b⟩ => ⟨y, by omega, b⟩, fun ⟨y, a, b⟩ => ⟨y, ?_, b⟩⟩⟩
  · by_cases e : x = u
    · subst e; exact absurd b hn
    · omega
  · by_cases e : y = u
    · subst e; exact absurd b hn
    · omega
theorem BW.hit {g : Nat → List Nat} {h n u : Nat} {s : Bool} {row : List Bool} (H : BW g h n u s row) (hu : u < n) (h1 : h ∈ g u) (h2 : LT.Ov g h u) : BW g h n (u + 1) true (row.set u true) := by
  refine ⟨by simp [H.1], fun x hx => ?_, ⟨fun _ => ⟨u, by omega, h1, h2⟩, fun _ => rfl⟩⟩
  rw [tr_put (by rw [H.1]; exact hu)]
  by_cases e : x = u
  · rw [if_pos e, e]
    exact ⟨fun _ => ⟨by omega, h1, h2⟩, fun _ => rfl⟩
  · rw [if_neg e, H.2.1 x hx]
    exact ⟨fun ⟨a, b⟩ => ⟨by omega, b⟩, fun ⟨a, b⟩ => ⟨by omega, b⟩⟩
/-- Between two rounds. -/
structure BR (g : Nat → List Nat) (h n k : Nat) (row : List Bool) : Prop where
  len : row.length = n
  hh : tr row h = true
  hb : ∀ u, h ∈ g u → LT.Ov g h u → tr row u = true
  hs : ∀ v, tr row v = true → LB g h v
  hk : k + 1 ≤ cnt row ∨ ShutB g h n row
theorem BR.next {g : Nat → List Nat} {h n k : Nat} {row0 row : List Bool} (H : BR g h n k row0) (hn : ∀ v u, v ∈ g u → u < n ∧ v < n) (h2 : BPf g h n row0 n row) : BR g h n (k + 1) row :=
  ⟨h2.len, h2.keep _ H.hh, fun u a c => h2.keep _ (H.hb u a c), h2.sound, h2.round H.len hn H.hh H.hb H.hs H.hk⟩
theorem BR.fin {g : Nat → List Nat} {h n : Nat} {row : List Bool} (H : BR g h n n row) (hn : ∀ v u, v ∈ g u → u < n ∧ v < n) (v : Nat) : tr row v = true ↔ LB g h v := by
  refine shut_all hn H.hh H.hb H.hs ?_ v
  rcases H.hk with e | e
  · have := cnt_le row; have := H.len; omega
  · exact e
theorem BW.done {g : Nat → List Nat} {h n : Nat} {row : List Bool} (H : BW g h n n true row) (hn : ∀ v u, v ∈ g u → u < n ∧ v < n) (hh : h < n) : BR g h n 0 (row.set h true) := by
  have hl := H.1
  have hset : ∀ v, tr (row.set h true) v = (decide (v = h) || tr row v) := fun v => tr_set (by omega)
  refine ⟨by simp [hl], by rw [hset]; simp, fun u a c => by rw [hset, (H.2.1 u (hn _ _ a).1).2 ⟨(hn _ _ a).1, a, c⟩]; simp, fun v hv => ?_, .inl ?_⟩
  · rw [hset] at hv
    by_cases e : v = h
    · rw [e]; exact .head
    · have hv : tr row v = true := by simpa [e] using hv
      have hvn := tr_lt hv
      have := (H.2.1 v (by omega)).1 hv
      exact .back this.2.1 this.2.2
  · have := (cnt_mono (s := List.replicate n false) (t := row.set h true) (by simp [hl]) (fun i hi => by rw [show tr (List.replicate n false) i = false from tr_falses n i] at hi; cases hi)).2 ⟨h, by rw [hset]; simp, tr_falses n h⟩
    omega
set_option maxRecDepth 100000 in
set_option maxHeartbeats 4000000 in
theorem bodyR_calls {w : World} {base q1 n : Nat} {vs : List Value} {b : List (List Nat)} (h : Mat w base q1 vs b) (hf : Few b) (hn : b.length = n) (hrows : ∀ (i : Nat) (l : List Nat), b[i]? = some l → l.length ≤ 1048575) (hway : ∀ i, i < n → (WayO (nb b) (-1) i ↔ Way (nb b) 0 i)) (x : Nat) (hx : x < n) :
    Calls Try.prog 45 #[.slice (some ⟨q1, 0, none⟩) n n, .int .i64 x] w fun e w' => ∃ q row, e = .returned (.slice (some ⟨q, 0, none⟩) n n) ∧ Seen w' q row ∧ row.length = n ∧ (∀ v, v < n → (tr row v = true ↔ HB (nb b) x ∧ LB (nb b) x v)) ∧ Below w.heap.size w w' := by
  have hnn := hf.n
  have hmk := mk_falses n (by omega)
  have htab := table_calls h hf hn hrows hway
  have HTAB := Lib.hid htab
  have hsrc : ∀ v u, v ∈ nb b u → u < n ∧ v < n := fun v u e => ⟨nb_from hn e, hn ▸ nb_lt hf e⟩
  have H := Lib.hid (And.intro h (And.intro hf (And.intro hn (And.intro hrows hsrc))))
  rw [hn] at hnn
  clear h hf hn hrows hway htab hsrc
  have x0 : 0 ≤ (x : Int) := by omega
  have x1 : (x : Int) < (n : Int) := by omega
  go_enter Try.func45, Try.ntmps45
  go_wp2_with fail
  refine HTAB.out.mono ?_
  rintro e W1 ⟨A0, c0, qs0, rfl, htb0, hb⟩
  obtain ⟨g0, o0, rfl⟩ : ∃ g o, A0 = some ⟨g, o, none⟩ := by
    rcases htb0.row with ⟨h1, h2⟩ | ⟨g, o, cap, cur, h1, _⟩
    · have h3 : qs0 = [] := by simpa using h2
      have h4 := htb0.len
      rw [h3] at h4
      simp at h4
      omega
    · injection h1 with h1; exact ⟨g, o, h1⟩
  generalize hX : W1.alloc (falses n) = X
  obtain ⟨hx, hbx, hz⟩ := boxed hX rfl
  have hsr : Seen X W1.heap.size (List.replicate n false) := hx
  have hbX := below_two hb hbx
  have H1 := Lib.hid (And.intro (H.out.1.later hbX) (And.intro (htb0.later hbx) (And.intro hbX hsr)))
  have HX := Lib.hid hX
  have HOLD := Lib.hid (show (∀ a q, qs0[a]? = some q → q < W1.heap.size) ∧ ∀ g, (Value.slice (some ⟨g0, o0, none⟩) n c0).ownBlock = some g → g < W1.heap.size from
    ⟨fun a q hq => by obtain ⟨_, r, h4, _⟩ := htb0.at_ a q hq; exact lt_blk h4, fun g hg => (htb0.row.lt hg).1⟩)
  have hwz := hb.size
  clear htb0 hb HTAB hx hbx hz hsr hX hbX
  go_wp2_with fail
  rw [HX.out]
  clear HX
  obtain ⟨r, hr⟩ : ∃ r, W1.heap.size = r := ⟨_, rfl⟩
  rw [hr] at H1 HOLD hwz ⊢
  clear hr
  have hbel : ∀ {W : World}, Only (fun g => g = r) X W → Below w.heap.size w W := fun ho => H1.out.2.2.1.trans (ho.below H1.out.2.2.1.size (fun g hg e => by omega))
  go_loopw [8, 7] (fun v s wr => ∃ (u : Nat) (s0 : Bool), v = .int .i64 (u : Int) ∧ s = .bool s0 ∧ Hid (u ≤ n ∧ (∃ row, Seen wr r row ∧ BW (nb b) x n u s0 row) ∧ Only (fun g => g = r) X wr)) (fun v _ _ => n - (intOf v).toNat)
  case atStart => exact ⟨0, false, rfl, rfl, Lib.hid ⟨Nat.zero_le _, ⟨_, H1.out.2.2.2, by simp, fun y hy => by rw [show tr (List.replicate n false) y = false from tr_falses n y]; simp, by simp⟩, Only.refl _ _⟩⟩
  case round =>
    obtain ⟨wo, rfl⟩ : ∃ x : World, x = wr := ⟨_, rfl⟩
    obtain ⟨u, s0, rfl, rfl, HU⟩ := hrel
    obtain ⟨hu0, ⟨row, hsr, hbw⟩, hon⟩ := HU.out
    clear HU
    by_cases hu : u < n
    · have pp1 : ((u : Int) < (n : Int)) = True := eq_true (by omega)
      have u0 : 0 ≤ (u : Int) := by omega
      have u1 : (u : Int) < (n : Int) := by omega
      have HR := Lib.hid (And.intro hsr (And.intro hbw hon))
      clear hsr hbw hon
      go_wp2_with fail
      refine (aheadR (H.out.1.later (hbel HR.out.2.2)) H.out.2.2.1 H.out.2.2.2.1 u x hu).mono ?_
      rintro e w' ⟨rfl, rfl⟩
      by_cases hm : x ∈ nb b u
      · rw [decide_eq_true hm]
        obtain ⟨qa, ra, ca, cb, hra⟩ := (H1.out.2.1.only HR.out.2.2 (fun a q hq e => by have := HOLD.out.1 a q hq; omega) (fun g hg e => by have := HOLD.out.2 g hg; omega)).at2 hx hu
        cases ra
        · have HN := Lib.hid (HR.out.2.1.skip (fun e => by have := hra.2 e.2; cases this))
          clear hra hm
          go_wp2_with fail
          go_roundw
          case rel => exact ⟨u + 1, s0, by go_num, rfl, Lib.hid ⟨by omega, ⟨row, HR.out.1, HN.out⟩, HR.out.2.2⟩⟩
          case measure => simp [intOf]; omega
        · have HN := Lib.hid (HR.out.2.1.hit hu hm (hra.1 rfl))
          have hst := HR.out.1.set u true
          have hfr := HR.out.1.frozen u
          have hcr := HR.out.1.cell u (by rw [HR.out.2.1.1]; exact hu)
          have hos := HR.out.2.2.trans (Only.setCell wo ⟨r, u, none⟩ (.bool true)) (fun _ _ e => e)
          have HOS := Lib.hid (And.intro hst hos)
          clear hra hm hst hos
          go_wp2_with fail
          go_roundw
          case rel => exact ⟨u + 1, true, by go_num, rfl, Lib.hid ⟨by omega, ⟨_, HOS.out.1, HN.out⟩, HOS.out.2⟩⟩
          case measure => simp [intOf]; omega
      · rw [decide_eq_false hm]
        have HN := Lib.hid (HR.out.2.1.skip (fun e => hm e.1))
        clear hm
        go_wp2_with fail
        go_roundw
        case rel => exact ⟨u + 1, s0, by go_num, rfl, Lib.hid ⟨by omega, ⟨row, HR.out.1, HN.out⟩, HR.out.2.2⟩⟩
        case measure => simp [intOf]; omega
    · obtain rfl : u = n := by omega
      have pp1 : ((u : Int) < (u : Int)) = False := eq_false (by omega)
      cases s0
      · have hno : ¬ HB (nb b) x := fun ⟨y, e1, e2⟩ => by have := hbw.2.2.2 ⟨y, (H.out.2.2.2.2 _ _ e1).1, e1, e2⟩; cases this
        generalize hX : wo.alloc (falses u) = X2
        obtain ⟨hx2, hbx, hz⟩ := boxed hX rfl
        have hsr2 : Seen X2 wo.heap.size (List.replicate u false) := hx2
        have hbl := below_two (hbel hon) hbx
        have HE := Lib.hid (And.intro hno (And.intro hsr2 (And.intro hbl hX)))
        clear hno hX hx2 hbx hz hsr2 hbl hsr hbw hon
        go_wp2_with fail
        rw [HE.out.2.2.2]
        go_ret
        exact ⟨_, _, rfl, HE.out.2.1, by simp, fun v hv => by rw [show tr (List.replicate u false) v = false from tr_falses u v]; simp; exact fun e => absurd e HE.out.1, HE.out.2.2.1⟩
      · have hfr := hsr.frozen x
        have hcr := hsr.cell x (by rw [hbw.1]; exact hx)
        have hos := hon.trans (Only.setCell wo ⟨r, x, none⟩ (.bool true)) (fun _ _ e => e)
        have hhb : HB (nb b) x := by obtain ⟨y, e1, e2⟩ := hbw.2.2.1 rfl; exact ⟨y, e2⟩
        have HS := Lib.hid (And.intro (hsr.set x true) (And.intro (hbw.done H.out.2.2.2.2 hx) (And.intro hos hhb)))
        clear hsr hbw hon hos hhb
        go_wp2_with fail
        clear hfr hcr
        go_loopw [9] (fun v wr => ∃ k : Nat, v = .int .i64 (k : Int) ∧ Hid (k ≤ u ∧ (∃ row, Seen wr r row ∧ BR (nb b) x u k row) ∧ Only (fun g => g = r) X wr)) (fun v _ => u - (intOf v).toNat)
        case atStart => exact ⟨0, rfl, Lib.hid ⟨Nat.zero_le _, ⟨_, HS.out.1, HS.out.2.1⟩, HS.out.2.2.1⟩⟩
        case round =>
          obtain ⟨wp, rfl⟩ : ∃ x : World, x = wr := ⟨_, rfl⟩
          obtain ⟨k, rfl, HK⟩ := hrel
          obtain ⟨hk0, ⟨row1, hsr, hbr⟩, hon⟩ := HK.out
          clear HK
          by_cases hk : k < u
          · have pp2 : ((k : Int) < (u : Int)) = True := eq_true (by omega)
            have HR := Lib.hid (And.intro hsr (And.intro hbr hon))
            clear hsr hbr hon
            go_wp2_with fail
            go_loopw [10] (fun v wr => ∃ i : Nat, v = .int .i64 (i : Int) ∧ Hid (i ≤ u ∧ (∃ row, Seen wr r row ∧ BPf (nb b) x u row1 i row) ∧ Only (fun g => g = r) X wr)) (fun v _ => u - (intOf v).toNat)
            case atStart => exact ⟨0, rfl, Lib.hid ⟨Nat.zero_le _, ⟨_, HR.out.1, BPf.start HR.out.2.1.len HR.out.2.1.hs⟩, HR.out.2.2⟩⟩
            case round =>
              obtain ⟨wq, rfl⟩ : ∃ x : World, x = wr := ⟨_, rfl⟩
              obtain ⟨i, rfl, HI⟩ := hrel
              obtain ⟨hi0, ⟨row2, hsr, hbp⟩, hon⟩ := HI.out
              clear HI
              by_cases hi : i < u
              · have pp3 : ((i : Int) < (u : Int)) = True := eq_true (by omega)
                have i0 : 0 ≤ (i : Int) := by omega
                have i1 : (i : Int) < (u : Int) := by omega
                have HQ := Lib.hid (And.intro hsr (And.intro hbp hon))
                clear hsr hbp hon
                go_wp2_with fail
                go_loopw [11] (fun v wr => ∃ j : Nat, v = .int .i64 (j : Int) ∧ Hid (j ≤ u ∧ (∃ row, Seen wr r row ∧ BPg (nb b) x u row1 i j row) ∧ Only (fun g => g = r) X wr)) (fun v _ => u - (intOf v).toNat)
                case atStart => exact ⟨0, rfl, Lib.hid ⟨Nat.zero_le _, ⟨_, HQ.out.1, HQ.out.2.1.enter⟩, HQ.out.2.2⟩⟩
                case round =>
                  obtain ⟨ws, rfl⟩ : ∃ x : World, x = wr := ⟨_, rfl⟩
                  obtain ⟨j, rfl, HJ⟩ := hrel
                  obtain ⟨hj0, ⟨row3, hsr, hbp⟩, hon⟩ := HJ.out
                  clear HJ
                  by_cases hj : j < u
                  · have pp4 : ((j : Int) < (u : Int)) = True := eq_true (by omega)
                    have j0 : 0 ≤ (j : Int) := by omega
                    have j1 : (j : Int) < (u : Int) := by omega
                    have HL := Lib.hid (And.intro hsr (And.intro hbp hon))
                    by_cases hix : i = x
                    · have qq : ((i : Int) != (x : Int)) = false := by simp [hix]
                      have HN := Lib.hid (hbp.skip (fun e => absurd hix e.1))
                      clear hsr hbp hon hix
                      go_wp2_with fail
                      go_roundw
                      case rel => exact ⟨j + 1, by go_num, Lib.hid ⟨by omega, ⟨row3, HL.out.1, HN.out⟩, HL.out.2.2⟩⟩
                      case measure => simp [intOf]; omega
                    · have qq : ((i : Int) != (x : Int)) = true := by simp; omega
                      have cr := seen_tr hsr hbp.ps.len hi
                      cases htr : tr row3 i
                      · rw [htr] at cr
                        have HN := Lib.hid (hbp.skip (fun e => by have := e.2.1; rw [htr] at this; cases this))
                        clear hsr hbp hon hix htr
                        go_wp2_with fail
                        go_roundw
                        case rel => exact ⟨j + 1, by go_num, Lib.hid ⟨by omega, ⟨row3, HL.out.1, HN.out⟩, HL.out.2.2⟩⟩
                        case measure => simp [intOf]; omega
                      · rw [htr] at cr
                        have hah := aheadR (H.out.1.later (hbel hon)) H.out.2.2.1 H.out.2.2.2.1 j i hj
                        obtain ⟨qa, ra, ca, cb, hra⟩ := (H1.out.2.1.only hon (fun a q hq e => by have := HOLD.out.1 a q hq; omega) (fun g hg e => by have := HOLD.out.2 g hg; omega)).at2 hj hj
                        have HAH := Lib.hid hah
                        have HT := Lib.hid (And.intro htr (And.intro hix hra))
                        clear hah hsr hbp hon htr hix hra
                        by_cases hm : i ∈ nb b j
                        · cases ra
                          · have HN := Lib.hid (HL.out.2.1.skip (fun e => by have := HT.out.2.2.2 e.2.2.2; cases this))
                            go_wp2_with fail
                            refine HAH.out.mono ?_
                            rintro e w' ⟨rfl, rfl⟩
                            rw [decide_eq_true hm]
                            go_wp2_with fail
                            go_roundw
                            case rel => exact ⟨j + 1, by go_num, Lib.hid ⟨by omega, ⟨row3, HL.out.1, HN.out⟩, HL.out.2.2⟩⟩
                            case measure => simp [intOf]; omega
                          · have HN := Lib.hid (HL.out.2.1.put hj ⟨HT.out.2.1, HT.out.1, hm, HT.out.2.2.1 rfl⟩)
                            have hst := HL.out.1.set j true
                            have hfr := HL.out.1.frozen j
                            have hcr := HL.out.1.cell j (by rw [HL.out.2.1.ps.len]; exact hj)
                            have hos := HL.out.2.2.trans (Only.setCell ws ⟨r, j, none⟩ (.bool true)) (fun _ _ e => e)
                            have HOS := Lib.hid (And.intro hst hos)
                            clear hst hos
                            go_wp2_with fail
                            refine HAH.out.mono ?_
                            rintro e w' ⟨rfl, rfl⟩
                            rw [decide_eq_true hm]
                            go_wp2_with fail
                            go_roundw
                            case rel => exact ⟨j + 1, by go_num, Lib.hid ⟨by omega, ⟨_, HOS.out.1, HN.out⟩, HOS.out.2⟩⟩
                            case measure => simp [intOf]; omega
                        · have HN := Lib.hid (HL.out.2.1.skip (fun e => absurd e.2.2.1 hm))
                          go_wp2_with fail
                          refine HAH.out.mono ?_
                          rintro e w' ⟨rfl, rfl⟩
                          rw [decide_eq_false hm]
                          go_wp2_with fail
                          go_roundw
                          case rel => exact ⟨j + 1, by go_num, Lib.hid ⟨by omega, ⟨row3, HL.out.1, HN.out⟩, HL.out.2.2⟩⟩
                          case measure => simp [intOf]; omega
                  · obtain rfl : j = u := by omega
                    have pp4 : ((j : Int) < (j : Int)) = False := eq_false (by omega)
                    have HL := Lib.hid (And.intro hsr (And.intro hbp.leave hon))
                    clear hsr hbp hon
                    go_wp2_with fail
                    go_roundw
                    case rel => exact ⟨i + 1, by go_num, Lib.hid ⟨by omega, ⟨_, HL.out.1, HL.out.2.1⟩, HL.out.2.2⟩⟩
                    case measure => simp [intOf]; omega
              · obtain rfl : i = u := by omega
                have pp3 : ((i : Int) < (i : Int)) = False := eq_false (by omega)
                have HL := Lib.hid (And.intro hsr (And.intro (HR.out.2.1.next H.out.2.2.2.2 hbp) hon))
                clear hsr hbp hon
                go_wp2_with fail
                go_roundw
                case rel => exact ⟨k + 1, by go_num, Lib.hid ⟨by omega, ⟨_, HL.out.1, HL.out.2.1⟩, HL.out.2.2⟩⟩
                case measure => simp [intOf]; omega
          · obtain rfl : k = u := by omega
            have pp2 : ((k : Int) < (k : Int)) = False := eq_false (by omega)
            have HE := Lib.hid (And.intro hsr (And.intro hbr hon))
            clear hsr hbr hon
            go_wp2_with fail
            go_ret
            exact ⟨r, row1, rfl, HE.out.1, HE.out.2.1.len, fun v hv => (HE.out.2.1.fin H.out.2.2.2.2 v).trans ⟨fun e => ⟨HS.out.2.2.2, e⟩, fun e => e.2⟩, hbel HE.out.2.2⟩
end Go.Proofs.Ytnkbbjeepdjamaa
