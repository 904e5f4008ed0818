/- refinerylaw09.apart: where it answers true, there are two ways that have nothing but their end in common. Conditions: few places. -/
import Derived.Test.YtnkbbjeepdjamaaFrMeC
namespace Go.Proofs.Ytnkbbjeepdjamaa
open Go.RowKit
attribute [local go_sem] Oper.semAt_some
/-- What the makers of rows read. -/
def AS9 (W0 : World) (base0 q1 n v bl bv bw : Nat) (ts : List Value) (b : List (List Nat)) (X : World) : Prop :=
  X.cell? ⟨bl, 0, none⟩ = some (.slice (some ⟨q1, 0, none⟩) n n) ∧ X.cell? ⟨bw, 0, none⟩ = some (wclo bv bl bw) ∧ Hid (Mat X base0 q1 ts b ∧ X.heap[bv]? = some (.cells #[.int .i64 (v : Int)] 3 (0, 0)) ∧ X.heap[bl]? = some (.cells #[.slice (some ⟨q1, 0, none⟩) n n] 26 (0, 0)) ∧ X.heap[bw]? = some (.cells #[wclo bv bl bw] 96 (0, 0)) ∧ Below W0.heap.size W0 X)
theorem AS9.later {W0 X X' : World} {base0 q1 n v bl bv bw : Nat} {ts : List Value} {b : List (List Nat)} (h : AS9 W0 base0 q1 n v bl bv bw ts b X) (hb : Below X.heap.size X X') : AS9 W0 base0 q1 n v bl bv bw ts b X' := by
  obtain ⟨h1, h2, h3⟩ := h
  have k : ∀ {p : Addr} {v : Value}, X.cell? p = some v → X'.cell? p = some v := fun hc => (hb.cell (World.block_lt_of_cell? X _ hc)).trans hc
  exact ⟨k h1, k h2, Lib.hid ⟨h3.out.1.later hb, (hb.block _ (lt_blk h3.out.2.1)).trans h3.out.2.1, (hb.block _ (lt_blk h3.out.2.2.1)).trans h3.out.2.2.1, (hb.block _ (lt_blk h3.out.2.2.2.1)).trans h3.out.2.2.2.1, below_two h3.out.2.2.2.2 hb⟩⟩
/-- The closure, at a new row. -/
theorem AS9.ways {W0 X : World} {base0 q1 n v bl bv bw : Nat} {ts : List Value} {b : List (List Nat)} (h : AS9 W0 base0 q1 n v bl bv bw ts b X) (hf : Few b) (hbn : b.length = n) (hn : n ≤ 100) (hrows : ∀ (i : Nat) (l : List Nat), b[i]? = some l → l.length ≤ 1000) (a : Nat) (ha : a < n) :
    Calls Try.prog 67 #[.int .i64 (a : Int), .slice (some ⟨X.heap.size, 0, none⟩) n n, .pointer (some ⟨bv, 0, none⟩), .pointer (some ⟨bl, 0, none⟩), .pointer (some ⟨bw, 0, none⟩)] (X.alloc (falses n)) fun e w' => ∃ A c us, e = .returned (.slice A us.length c) ∧ w'.ownsRow X.heap.size 38 1 (.slice A us.length c) us.length us ∧ us.length ≤ 20 ∧ (∀ x ∈ us, PR w' X.heap.size (nb b) n v a (List.replicate n false) x) ∧ Below X.heap.size X w' := by
  obtain ⟨h1, h2, h3⟩ := h
  obtain ⟨Y, hY⟩ : ∃ Y, X.alloc (falses n) = Y := ⟨_, rfl⟩
  obtain ⟨hx, hbx, hz⟩ := boxed hY rfl
  have hs : Seen Y X.heap.size (List.replicate n false) := hx
  rw [hY]
  have hP : PB Y base0 q1 n v bv bl bw X.heap.size ts b := ⟨h3.out.1.later hbx, (hbx.block _ (lt_blk h3.out.2.1)).trans h3.out.2.1, (hbx.block _ (lt_blk h3.out.2.2.1)).trans h3.out.2.2.1, (hbx.block _ (lt_blk h3.out.2.2.2.1)).trans h3.out.2.2.2.1, ⟨fun g hg => (h3.out.1.lt hg).1, lt_blk h3.out.2.1, lt_blk h3.out.2.2.1, lt_blk h3.out.2.2.2.1⟩⟩
  refine (wclo_ok hf hbn hn hrows n a _ Y hP hs (by simp) (tr_falses n a) ha (by rw [unseen_replicate]; exact Nat.le_refl _)).mono ?_
  rintro e w' ⟨u, us, rfl, ho, hl, hp, _, hon⟩
  obtain ⟨A, c, e, _⟩ := own_take ho (Nat.le_refl _)
  have hsz := hbx.size
  refine ⟨A, c, us, by rw [e], by rw [← e]; exact own_base ho hsz, hl, fun y hy => ?_, hbx.trans (hon.below hsz (fun k hk e => by omega))⟩
  obtain ⟨r, k1, k2⟩ := hp y hy
  exact ⟨r, k1.lower hsz, k2⟩
set_option maxRecDepth 100000 in
set_option maxHeartbeats 4000000 in
theorem apart_calls {W : World} {base0 q1 n : Nat} {ts : List Value} {b : List (List Nat)} (hm : Mat W base0 q1 ts b) (hf : Few b) (hbn : b.length = n) (hn : n ≤ 100) (hrows : ∀ (i : Nat) (l : List Nat), b[i]? = some l → l.length ≤ 1000) (x y v : Nat) (hx : x < n) (hy : y < n) :
    Calls Try.prog 37 #[.slice (some ⟨q1, 0, none⟩) n n, .int .i64 (x : Int), .int .i64 (y : Int), .int .i64 (v : Int)] W fun e w' => ∃ r, e = .returned (.bool r) ∧ (r = true → ∃ lx ly, Pth (nb b) v x lx ∧ Pth (nb b) v y ly ∧ ∀ z, z ∈ lx → z ∉ ly) ∧ Below W.heap.size W w' := by
  have hmk := mk_falses n (by omega)
  have HM := Lib.hid hm
  clear hm
  go_enter Try.func37, Try.ntmps37
  go_upto_region 3 with (fail)
  generalize hX : World.alloc (World.alloc (World.alloc W _) _) _ = X
  obtain ⟨k0, k1, k2, kz, kb⟩ : X.heap[W.heap.size]? = some _ ∧ X.heap[W.heap.size + 1]? = some _ ∧ X.heap[W.heap.size + 1 + 1]? = some _ ∧ X.heap.size = W.heap.size + 3 ∧ Below W.heap.size W X := by
    subst hX
    have n1 := heap_alloc_new' (W.alloc (.cells #[.slice (some ⟨q1, 0, none⟩) n n] 26)) (.cells #[.int .i64 (v : Int)] 3)
    have n2 := heap_alloc_new' ((W.alloc (.cells #[.slice (some ⟨q1, 0, none⟩) n n] 26)).alloc (.cells #[.int .i64 (v : Int)] 3)) (.cells #[wclo (W.heap.size + 1) W.heap.size (W.heap.size + 1 + 1)] 96)
    simp only [World.size_alloc] at n1 n2
    have old : ∀ {w : World} {o : Obj} {g : Nat} {a : Obj}, w.heap[g]? = some a → (w.alloc o).heap[g]? = some a := fun h => (Below.heap_alloc _ _ _ (lt_blk h)).trans h
    exact ⟨old (old (heap_alloc_new' W _)), old n1, n2, by simp, (((Below.refl _ _).alloc (Nat.le_refl _) _).alloc (by simp) _).alloc (by simp; omega) _⟩
  obtain ⟨bl, hbl⟩ : ∃ k, W.heap.size = k := ⟨_, rfl⟩
  obtain ⟨bv, hbv⟩ : ∃ k, bl + 1 = k := ⟨_, rfl⟩
  obtain ⟨bw, hbw⟩ : ∃ k, bv + 1 = k := ⟨_, rfl⟩
  rw [hbl] at k0 k1 k2 ⊢
  rw [hbv] at k1 k2 ⊢
  rw [hbw] at k2 ⊢
  have hS : AS9 W base0 q1 n v bl bv bw ts b X := ⟨cell_of_blk _ _ _ _ _ k0 0, cell_of_blk _ _ _ _ _ k2 0, Lib.hid ⟨HM.out.later kb, k1, k0, k2, kb⟩⟩
  have hSd := hS.later (X' := X.drew) ((Below.refl X.heap.size X).drew)
  have hmk2 : ∀ (w : World), Below w.heap.size w (w.alloc (falses n)) := fun w => (Below.refl _ _).alloc (Nat.le_refl _) _
  have HS := Lib.hid hS
  clear hX k0 k1 k2 kz kb hbl hbv hbw hS
  go_wp2_with fail
  unfold wclo at hSd
  go_region_held3 (fun Y => Y.cell? ⟨bl, 0, none⟩ = some (.slice (some ⟨q1, 0, none⟩) n n) ∧ Y.cell? ⟨bw, 0, none⟩ = some (.func (.func 67) #[] #[.pointer (some ⟨bv, 0, none⟩), .pointer (some ⟨bl, 0, none⟩), .pointer (some ⟨bw, 0, none⟩)]) ∧ Hid (Mat Y base0 q1 ts b ∧ Y.heap[bv]? = some (.cells #[.int .i64 (v : Int)] 3 (0, 0)) ∧ Y.heap[bl]? = some (.cells #[.slice (some ⟨q1, 0, none⟩) n n] 26 (0, 0)) ∧ Y.heap[bw]? = some (.cells #[wclo bv bl bw] 96 (0, 0)) ∧ Below W.heap.size W Y))
    (first | exact hSd | exact hSd.later (hmk2 _) | exact hSd.later hb1)
    (first | (go_at_call 67; refine (AS9.ways hSd hf hbn hn hrows x hx).mono ?_; rintro e w1 ⟨A1, c1, us, rfl, ho1, hl1, hp1, hb1⟩))
  rename_i hh
  have hr1 := RowAt.of_own ho1
  have H1 := Lib.hid (And.intro (AS9.later hSd hb1) (And.intro hr1 (And.intro hp1 hl1)))
  have hul : us.length ≤ 20 := hl1
  clear hh hSd ho1 hp1 hl1 hb1 hr1 HS
  go_wp2_with fail
  go_loopw [24] (fun iv wr => ∃ i : Nat, iv = .int .i64 (i : Int) ∧ Hid (i ≤ us.length ∧ Below w1.heap.size w1 wr)) (fun iv _ => us.length - (intOf iv).toNat)
  case atStart => exact ⟨0, rfl, Lib.hid ⟨Nat.zero_le _, Below.refl _ _⟩⟩
  case round =>
    obtain ⟨wo, rfl⟩ : ∃ x : World, x = wr := ⟨_, rfl⟩
    obtain ⟨i, rfl, HI⟩ := hrel
    by_cases hi : i < us.length
    · have pp1 : ((i : Int) < (us.length : Int)) = True := eq_true (by omega)
      have i0 : 0 ≤ (i : Int) := by omega
      have i1 : (i : Int) < (us.length : Int) := by omega
      obtain ⟨p, hp⟩ : ∃ p, us[i]? = some p := ⟨_, List.getElem?_eq_getElem hi⟩
      obtain ⟨rp, hrp, hrl, _, lx, hlx, hlt⟩ := H1.out.2.2.1 p (List.mem_of_getElem? hp)
      obtain ⟨Ap, cp, rfl, _, _, _⟩ := rowAt_slice hrp
      have hrowo := H1.out.2.1.only (Only.of_below HI.out.2) (fun g hg e => by have := (H1.out.2.1.lt hg).1; omega)
      obtain ⟨g0, o0, rfl⟩ : ∃ g o, A1 = some ⟨g, o, none⟩ := by
        rcases hrowo with ⟨h1, h2⟩ | ⟨g, o, cap, cur, h1, _⟩
        · rw [h2] at hi; simp at hi
        · injection h1 with h1; exact ⟨g, o, h1⟩
      have hc := hrowo.cell i _ hp
      rw [List.length_map, hrl] at hrp hc
      have hAS := AS9.later H1.out.1 HI.out.2
      have hSd := hAS.later (X' := wo.drew) ((Below.refl wo.heap.size wo).drew)
      have HP := Lib.hid (And.intro hrp (And.intro hrl (And.intro hlx hlt)))
      clear hp hrp hrl hlx hlt hrowo hAS
      go_wp2_with fail
      unfold wclo at hSd
      go_region_held3 (fun Y => Y.cell? ⟨bl, 0, none⟩ = some (.slice (some ⟨q1, 0, none⟩) n n) ∧ Y.cell? ⟨bw, 0, none⟩ = some (.func (.func 67) #[] #[.pointer (some ⟨bv, 0, none⟩), .pointer (some ⟨bl, 0, none⟩), .pointer (some ⟨bw, 0, none⟩)]) ∧ Hid (Mat Y base0 q1 ts b ∧ Y.heap[bv]? = some (.cells #[.int .i64 (v : Int)] 3 (0, 0)) ∧ Y.heap[bl]? = some (.cells #[.slice (some ⟨q1, 0, none⟩) n n] 26 (0, 0)) ∧ Y.heap[bw]? = some (.cells #[wclo bv bl bw] 96 (0, 0)) ∧ Below W.heap.size W Y))
        (first | exact hSd | exact hSd.later (hmk2 _) | exact hSd.later hb1)
        (first | (go_at_call 67; refine (AS9.ways hSd hf hbn hn hrows y hy).mono ?_; rintro e w2 ⟨A2, c2, us2, rfl, ho2, hl2, hp2, hb1⟩))
      rename_i hh
      have hr2 := RowAt.of_own ho2
      have hb2 : Below wo.heap.size wo w2 := below_two ((Below.refl wo.heap.size wo).drew) hb1
      have H2 := Lib.hid (And.intro hr2 (And.intro hp2 (And.intro hl2 hb2)))
      have hul2 : us2.length ≤ 20 := hl2
      clear hh hSd ho2 hp2 hl2 hb1 hb2 hr2 hc
      go_wp2_with fail
      go_loopw [35] (fun jv wr => ∃ j : Nat, jv = .int .i64 (j : Int) ∧ Hid (j ≤ us2.length ∧ Below w2.heap.size w2 wr)) (fun jv _ => us2.length - (intOf jv).toNat)
      case atStart => exact ⟨0, rfl, Lib.hid ⟨Nat.zero_le _, Below.refl _ _⟩⟩
      case round =>
        obtain ⟨wq, rfl⟩ : ∃ x : World, x = wr := ⟨_, rfl⟩
        obtain ⟨j, rfl, HJ⟩ := hrel
        by_cases hj : j < us2.length
        · have pp2 : ((j : Int) < (us2.length : Int)) = True := eq_true (by omega)
          have j0 : 0 ≤ (j : Int) := by omega
          have j1 : (j : Int) < (us2.length : Int) := by omega
          obtain ⟨p2, hp⟩ : ∃ p, us2[j]? = some p := ⟨_, List.getElem?_eq_getElem hj⟩
          obtain ⟨rq, hrq, hrl, _, ly, hly, hlt⟩ := H2.out.2.1 p2 (List.mem_of_getElem? hp)
          obtain ⟨Aq, cq, rfl, _, _, _⟩ := rowAt_slice hrq
          have hrowo := H2.out.1.only (Only.of_below HJ.out.2) (fun g hg e => by have := (H2.out.1.lt hg).1; omega)
          obtain ⟨g2, o2, rfl⟩ : ∃ g o, A2 = some ⟨g, o, none⟩ := by
            rcases hrowo with ⟨h1, h2⟩ | ⟨g, o, cap, cur, h1, _⟩
            · rw [h2] at hj; simp at hj
            · injection h1 with h1; exact ⟨g, o, h1⟩
          have hc := hrowo.cell j _ hp
          rw [List.length_map, hrl] at hrq hc
          have hbq := below_two (below_two HI.out.2 H2.out.2.2.2) HJ.out.2
          have hrpq := HP.out.1.only (Only.of_below hbq) (fun g hg e => by have := (HP.out.1.lt hg).1; omega)
          have hrqq := hrq.only (Only.of_below HJ.out.2) (fun g hg e => by have := (hrq.lt hg).1; omega)
          have HQ := Lib.hid (And.intro hrpq (And.intro hrqq (And.intro hrl (And.intro hly (And.intro hlt hbq)))))
          clear hp hrq hrl hly hlt hrowo hrpq hrqq hbq
          go_wp2_with fail
          clear hc
          go_loopw [41, 14] (fun kv bo wr => ∃ (k : Nat) (bb : Bool), kv = .int .i64 (k : Int) ∧ bo = .bool bb ∧ Hid (k ≤ n ∧ (bb = true ↔ ∃ z, z < k ∧ tr rp z = true ∧ tr rq z = true) ∧ wr = wq)) (fun kv _ _ => n - (intOf kv).toNat)
          case atStart => exact ⟨0, false, rfl, rfl, Lib.hid ⟨Nat.zero_le _, by simp, rfl⟩⟩
          case round =>
            obtain ⟨k, bb, rfl, rfl, HK⟩ := hrel
            obtain ⟨hk0, hbb, rfl⟩ := HK.out
            clear HK
            by_cases hk : k < n
            · have pp3 : ((k : Int) < (n : Int)) = True := eq_true (by omega)
              have k0 : 0 ≤ (k : Int) := by omega
              have k1 : (k : Int) < (n : Int) := by omega
              have hst : ((bb || (tr rp k && tr rq k)) = true ↔ ∃ z, z < k + 1 ∧ tr rp z = true ∧ tr rq z = true) := by
                rw [Bool.or_eq_true, Bool.and_eq_true, hbb]
                constructor
                · rintro (⟨z, a1, a2⟩ | a)
                  · exact ⟨z, by omega, a2⟩
                  · exact ⟨k, by omega, a⟩
                · rintro ⟨z, a1, a2⟩
                  by_cases e : z = k
                  · subst e; exact .inr a2
                  · exact .inl ⟨z, by omega, a2⟩
              have HST := Lib.hid hst
              have gt : ∀ {r : List Bool}, r.length = n → (r.map Value.bool)[k]? = some (.bool (tr r k)) := fun hr => by
                unfold tr
                rw [List.getElem?_map, List.getD_eq_getElem?_getD, List.getElem?_eq_getElem (by omega)]
                rfl
              obtain ⟨gp, op, rfl⟩ : ∃ g o, Ap = some ⟨g, o, none⟩ := by
                rcases HQ.out.1 with ⟨h1, h2⟩ | ⟨g, o, cap, cur, h1, _⟩
                · have h3 := congrArg List.length h2
                  rw [List.length_map, HP.out.2.1] at h3
                  simp at h3; omega
                · injection h1 with h1; exact ⟨g, o, h1⟩
              obtain ⟨gq, oq, rfl⟩ : ∃ g o, Aq = some ⟨g, o, none⟩ := by
                rcases HQ.out.2.1 with ⟨h1, h2⟩ | ⟨g, o, cap, cur, h1, _⟩
                · have h3 := congrArg List.length h2
                  rw [List.length_map, HQ.out.2.2.1] at h3
                  simp at h3; omega
                · injection h1 with h1; exact ⟨g, o, h1⟩
              have cp1 := HQ.out.1.cell k _ (gt HP.out.2.1)
              have cq1 := HQ.out.2.1.cell k _ (gt HQ.out.2.2.1)
              clear hst gt hbb
              cases bb
              · cases e1 : tr rp k
                · rw [e1] at cp1
                  have HE := Lib.hid e1
                  clear e1 cq1
                  go_wp2_with fail
                  go_roundw
                  case rel => exact ⟨k + 1, false, by go_num, rfl, Lib.hid ⟨by omega, by have := HST.out; rw [HE.out] at this; simpa using this, by first | rfl | trivial⟩⟩
                  case measure => simp [intOf]; omega
                · rw [e1] at cp1
                  have HE := Lib.hid e1
                  clear e1
                  cases e2 : tr rq k
                  all_goals
                    rw [e2] at cq1
                    have HE2 := Lib.hid e2
                    clear e2
                    go_wp2_with fail
                    go_roundw
                    case rel => exact ⟨k + 1, _, by go_num, rfl, Lib.hid ⟨by omega, by have := HST.out; rw [HE.out, HE2.out] at this; simpa using this, by first | rfl | trivial⟩⟩
                    case measure => simp [intOf]; omega
              · clear cp1 cq1
                go_wp2_with fail
                go_roundw
                case rel => exact ⟨k + 1, true, by go_num, rfl, Lib.hid ⟨by omega, by have := HST.out; simpa using this, by first | rfl | trivial⟩⟩
                case measure => simp [intOf]; omega
            · obtain rfl : n = k := by omega
              have pp3 : ((n : Int) < (n : Int)) = False := eq_false (by omega)
              have HBB := Lib.hid hbb
              clear hbb
              cases bb
              · have HB := Lib.hid (below_two H1.out.1.2.2.out.2.2.2.2 HQ.out.2.2.2.2.2)
                have HW2 := Lib.hid (below_two HI.out.2 H2.out.2.2.2)
                go_wp2_with fail
                go_ret
                refine ⟨true, rfl, fun _ => ⟨lx, ly, HP.out.2.2.1, HQ.out.2.2.2.1, fun z h1 h2 => ?_⟩, HB.out⟩
                have h3 := HP.out.2.2.2 z h1
                have h4 := HQ.out.2.2.2.2.1 z h2
                have h5 := tr_lt h3
                have := HBB.out.2 ⟨z, by have := HP.out.2.1; omega, h3, h4⟩
                cases this
              · go_wp2_with fail
                go_roundw
                case rel => exact ⟨j + 1, by go_num, Lib.hid ⟨by omega, HJ.out.2⟩⟩
                case measure => simp [intOf]; omega
        · obtain rfl : j = us2.length := by have := HJ.out.1; omega
          have pp2 : ((us2.length : Int) < (us2.length : Int)) = False := eq_false (by omega)
          have HB := Lib.hid (below_two (below_two HI.out.2 H2.out.2.2.2) HJ.out.2)
          go_wp2_with fail
          go_roundw
          case rel => exact ⟨i + 1, by go_num, Lib.hid ⟨by omega, HB.out⟩⟩
          case measure => simp [intOf]; omega
    · obtain rfl : i = us.length := by have := HI.out.1; omega
      have pp1 : ((us.length : Int) < (us.length : Int)) = False := eq_false (by omega)
      have HB := Lib.hid (below_two H1.out.1.2.2.out.2.2.2.2 HI.out.2)
      go_wp2_with fail
      go_ret
      exact ⟨false, rfl, (fun e => by cases e), HB.out⟩
end Go.Proofs.Ytnkbbjeepdjamaa
