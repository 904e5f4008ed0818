/- refinerylaw09.apart's own closure: ways to v as rows of truth values. Conditions: few places. -/
import Derived.Test.YtnkbbjeepdjamaaFrMeP
import Derived.Test.YtnkbbjeepdjamaaFrRef
import Derived.Laws.EntriesVeiled
namespace Go.Proofs.Ytnkbbjeepdjamaa
open Go.RowKit
theorem own_take {w : World} {base : Nat} {e : TypeId} {v : Value} {n m : Nat} {xs : List Value} (h : w.ownsRow base e 1 v n xs) (hm : m ≤ n) : ∃ A c, v = .slice A n c ∧ n ≤ c ∧ w.ownsRow base e 1 (.slice A m c) m (xs.take m) := by
  obtain ⟨h0, ⟨rfl, rfl⟩ | ⟨g, cap, cur, rfl, hb, hh, hn, hc, hcs, hx⟩⟩ := h
  · obtain rfl : m = 0 := by omega
    exact ⟨none, 0, rfl, Nat.le_refl _, by simp, .inl ⟨rfl, rfl⟩⟩
  · refine ⟨_, cap, rfl, hn, by simp; omega, .inr ⟨g, cap, cur, rfl, hb, hh, by omega, hc, hcs, ?_⟩⟩
    rw [← hx, List.take_take, Nat.mul_one, Nat.mul_one, Nat.min_eq_left hm]
/-- The closure. -/
def wclo (bv bl bw : Nat) : Value := .func (.func 67) #[] #[.pointer (some ⟨bv, 0, none⟩), .pointer (some ⟨bl, 0, none⟩), .pointer (some ⟨bw, 0, none⟩)]
/-- What it goes by. -/
structure PB (W : World) (base0 q1 n v bv bl bw q : Nat) (ts : List Value) (b : List (List Nat)) : Prop where
  mat : Mat W base0 q1 ts b
  kv : W.heap[bv]? = some (.cells #[.int .i64 (v : Int)] 3 (0, 0))
  kl : W.heap[bl]? = some (.cells #[.slice (some ⟨q1, 0, none⟩) n n] 26 (0, 0))
  kw : W.heap[bw]? = some (.cells #[wclo bv bl bw] 96 (0, 0))
  low : (∀ g, MatB q1 ts g → g < q) ∧ bv < q ∧ bl < q ∧ bw < q
theorem PB.only {W W' : World} {base0 q1 n v bv bl bw q : Nat} {ts : List Value} {b : List (List Nat)} (h : PB W base0 q1 n v bv bl bw q ts b) (ho : Only (fun k => k = q) W W') : PB W' base0 q1 n v bv bl bw q ts b := by
  obtain ⟨l1, l2, l3, l4⟩ := h.low
  exact ⟨h.mat.only ho (fun g hg e => by have := l1 g hg; omega), (ho.block _ (lt_blk h.kv) (by omega)).trans h.kv, (ho.block _ (lt_blk h.kl) (by omega)).trans h.kl, (ho.block _ (lt_blk h.kw) (by omega)).trans h.kw, h.low⟩
/-- A row that tells of a way. -/
def PR (W : World) (base : Nat) (g : Nat → List Nat) (n v a : Nat) (s : List Bool) (x : Value) : Prop :=
  ∃ r : List Bool, RowAt W base 4 x (r.map Value.bool) ∧ r.length = n ∧ (∀ z, tr s z = true → tr r z = true) ∧ ∃ l, Pth g v a l ∧ ∀ z ∈ l, tr r z = true
theorem PR.only {W W' : World} {base : Nat} {g : Nat → List Nat} {n v a : Nat} {s : List Bool} {x : Value} {T : Nat → Prop} (h : PR W base g n v a s x) (ho : Only T W W') (hT : ∀ k, T k → k < base) : PR W' base g n v a s x := by
  obtain ⟨r, h1, h2⟩ := h
  exact ⟨r, h1.only ho (fun g hg e => by have := (h1.lt hg).2; have := hT _ e; omega), h2⟩
/-- A copy of what is seen. -/
theorem bool_copy {w : World} {g q : Nat} {s : List Bool} (hg : w.heap[g]? = some (.cells #[] 4 (0, 0))) (h : Seen w q s) (hl : s.length ≤ 1000) :
    ∃ v' w', (Builtin.append_ #[38, 38] 38 #[.slice (some ⟨g, 0, none⟩) 0 0, .slice (some ⟨q, 0, none⟩) s.length s.length]).run Try.prog w = .ok v' w' ∧ RowAt w' g 4 v' (s.map Value.bool) ∧ Only (fun k => k = g) w w' := by
  obtain ⟨i0, hi0, hz0, hz1, hz2⟩ := info_parts infoB
  have hown : w.ownsRow g 4 1 (.slice (some ⟨g, 0, none⟩) 0 0) 0 [] :=
    ⟨rfl, .inr ⟨g, 0, _, rfl, Nat.le_refl _, hg, Nat.le_refl _, by decide, rfl, rfl⟩⟩
  have := append_read (P := Try.prog) 38 38 4 i0 (.bool false) 1 Try.underlying38 hi0 hz0 hz1 hz2 rfl hown (some ⟨q, 0, none⟩) s.length (s.map Value.bool) (fun _ => ⟨_, rfl, fun j u hj => by
    rw [List.getElem?_map] at hj
    cases hs : s[j]? with
    | none => rw [hs] at hj; cases hj
    | some y =>
      rw [hs] at hj
      have hc := h.cell j (List.getElem?_eq_some_iff.1 hs).1
      rw [show (⟨q, 0, none⟩ : Addr).add j = ⟨q, j, none⟩ by simp [Addr.add]; omega, hc, ← hj]
      simp [List.getD_eq_getElem?_getD, hs]⟩) (fun u hu => by obtain ⟨y, _, rfl⟩ := List.mem_map.1 hu; rfl) (Nat.le_of_lt (lt_blk hg)) (by simp; unfold maxLen; omega) (by simp; omega)
  obtain ⟨v', w', hr, r1, r2⟩ := this
  simp only [List.length_map, Nat.zero_add, List.nil_append] at hr r1
  exact ⟨v', w', hr, RowAt.of_own (by simpa using r1), (Only.grown r2).mono (fun k hk e => by simp [Value.ownBlock] at e; exact e.symm)⟩
/-- Out of the own row's growth. -/
theorem PR.grow {W W' : World} {base base' : Nat} {g : Nat → List Nat} {n v a m : Nat} {s : List Bool} {x u : Value} {us : List Value} (h : PR W base g n v a s x) (ho : W.ownsRow base' 38 1 u m us) (hb : Only (fun k => u.ownBlock = some k) W W') : PR W' base g n v a s x := by
  obtain ⟨r, h1, h2⟩ := h
  refine ⟨r, h1.only hb (fun k hk e => ?_), h2⟩
  rcases own_forms ho with ⟨h, _⟩ | ⟨g', cap, cur, h, _, hh, _⟩
  · rw [h] at e; cases e
  · rw [h] at e
    simp only [Value.ownBlock, Option.some.injEq] at e
    subst e
    exact h1.ne_blk hh (by decide) hk
/-- One place further back. -/
theorem PR.back {W : World} {base base' : Nat} {g : Nat → List Nat} {n v a k : Nat} {s : List Bool} {x : Value} (hbb : base' ≤ base) (h : PR W base g n v k (s.set a true) x) (hal : a < s.length) (hav : a ≠ v) (hk : k ∈ g a) : PR W base' g n v a s x := by
  obtain ⟨r, h1, h2, h3, l, h4, h5⟩ := h
  have hset : ∀ z, tr (s.set a true) z = (decide (z = a) || tr s z) := fun z => tr_set hal
  refine ⟨r, h1.lower hbb, h2, fun z hz => h3 z (by rw [hset, hz]; simp), a :: l, .go hav hk h4, fun z hz => ?_⟩
  rcases List.mem_cons.1 hz with e | e
  · exact h3 z (by rw [hset, e]; simp)
  · exact h5 z e
theorem set_back {s : List Bool} {a : Nat} (ha : tr s a = false) (hal : a < s.length) : (s.set a true).set a false = s := by
  apply List.ext_getElem?
  intro k
  rw [List.getElem?_set, List.getElem?_set]
  by_cases e : a = k
  · subst e
    unfold tr at ha
    rw [List.getD_eq_getElem?_getD, List.getElem?_eq_getElem hal] at ha
    simp at ha
    simp [hal, ha]
  · simp [e]
/-- A row of rows behind another one. -/
theorem rows_app {w : World} {base base2 : Nat} {u u2 : Value} {us us2 : List Value} (h : w.ownsRow base 38 1 u us.length us) (h2 : w.ownsRow base2 38 1 u2 us2.length us2) (h1 : ∀ x ∈ us2, ∃ r : List Bool, RowAt w base2 4 x (r.map Value.bool)) (hb : base ≤ w.heap.size) (hl : us.length + us2.length ≤ 1000) :
    ∃ v' w', (Builtin.append_ #[35, 35] 35 #[u, u2]).run Try.prog w = .ok v' w' ∧ w'.ownsRow base 38 1 v' (us.length + us2.length) (us ++ us2) ∧ Only (fun k => u.ownBlock = some k) w w' := by
  obtain ⟨i0, hi0, hz0, hz1, hz2⟩ := info_parts infoSB
  obtain ⟨A, c, e, hc⟩ : ∃ A c, u2 = .slice A us2.length c ∧ (0 < us2.length → ∃ ad, A = some ad ∧ ∀ j x, us2[j]? = some x → w.cell? (ad.add j) = some x) := by
    obtain ⟨_, ⟨e, e2⟩ | ⟨g, cap, cur, e, hb, hh, hn, hc, hcs, hx⟩⟩ := h2
    · exact ⟨none, 0, by rw [e, e2], fun h => by omega⟩
    · refine ⟨_, cap, e, fun _ => ⟨_, rfl, fun j x hj => ?_⟩⟩
      have hjl := (List.getElem?_eq_some_iff.1 hj).1
      rw [show (⟨g, 0, none⟩ : Addr).add j = ⟨g, j, none⟩ by simp [Addr.add]; omega, cell_of_blk _ _ _ _ _ hh]
      rw [← hx, List.getElem?_take, if_pos (by omega), Array.getElem?_toList] at hj
      exact hj
  subst e
  obtain ⟨v', w', hr, r1, r2⟩ := append_read (P := Try.prog) 35 35 38 i0 _ 24 Try.underlying35 hi0 hz0 hz1 hz2 rfl h A c us2 hc (fun x hx => by
    obtain ⟨r, hr⟩ := h1 x hx
    obtain ⟨A', c', e, _⟩ := rowAt_slice hr
    rw [e]; rfl) hb (by unfold maxLen; omega) (by omega)
  exact ⟨v', w', hr, r1, (Only.grown r2).mono (fun k _ hk => hk)⟩
theorem getD_tr {s : List Bool} {a : Nat} (h : a < s.length) : s.getD a true = tr s a := by
  unfold tr
  rw [List.getD_eq_getElem?_getD, List.getD_eq_getElem?_getD, List.getElem?_eq_getElem h]
  rfl
set_option maxRecDepth 100000 in
set_option maxHeartbeats 4000000 in
theorem wclo_ok {base0 q1 n v bv bl bw q : Nat} {ts : List Value} {b : List (List Nat)} (hf : Few b) (hbn : b.length = n) (hn : n ≤ 100) (hrows : ∀ (i : Nat) (l : List Nat), b[i]? = some l → l.length ≤ 1000) : ∀ (f a : Nat) (s : List Bool) (W : World), PB W base0 q1 n v bv bl bw q ts b → Seen W q s → s.length = n → tr s a = false → a < n → unseen s ≤ f →
    Calls Try.prog 67 #[.int .i64 (a : Int), .slice (some ⟨q, 0, none⟩) n n, .pointer (some ⟨bv, 0, none⟩), .pointer (some ⟨bl, 0, none⟩), .pointer (some ⟨bw, 0, none⟩)] W fun e w' => ∃ u us, e = .returned u ∧ w'.ownsRow W.heap.size 38 1 u us.length us ∧ us.length ≤ 20 ∧ (∀ x ∈ us, PR w' W.heap.size (nb b) n v a s x) ∧ Seen w' q s ∧ Only (fun k => k = q) W w' := by
  intro f
  induction f with
  | zero =>
    intro a s W hP hs hl ha han hu
    have := unseen_set (l := s) (v := a) (by rw [getD_tr (by omega)]; exact ha)
    omega
  | succ f ih =>
    intro a s W hP hs hl ha han hu
    have IH := Lib.hid ih
    have a0 : 0 ≤ (a : Int) := by omega
    have a1 : (a : Int) < (n : Int) := by omega
    have cv := cell_of_blk _ _ _ _ _ hP.kv 0
    simp at cv
    by_cases hav : a = v
    · obtain ⟨X, hX⟩ : ∃ X, W.alloc (.cells #[] 4) = X := ⟨_, rfl⟩
      obtain ⟨hx, hbx, hz⟩ := boxed hX rfl
      obtain ⟨v', w1, hr, r1, r2⟩ := bool_copy hx (hs.only (Only.of_below hbx) (by have := lt_blk hs; omega)) (by omega)
      obtain ⟨A1, c1, rfl, hc1, _⟩ := rowAt_slice r1
      rw [List.length_map, hl] at hr r1
      have hqw := lt_blk hs
      have ho1 : Only (fun _ => False) W w1 := (hX ▸ Only.alloc (fun _ => False) W _ : Only (fun _ => False) W X).trans r2 (fun k hk e => by omega)
      have qq : ((a : Int) == (v : Int)) = true := by simp [hav]
      rw [← hX] at hr
      have HR := Lib.hid hr
      have H1 := Lib.hid (And.intro r1 (And.intro ho1 (And.intro hs (And.intro hl hav))))
      clear hX hx hbx hz hr r1 r2 ho1 hs hP ih hl hav
      go_enter Try.func67, Try.ntmps67
      go_wp2_with (first | (at_builtin; refine Lib.wpList_append_run _ rfl _ _ _ _ rfl _ _ rfl rfl _ _ HR.out ?_) | fail)
      go_ret
      have hw2 := heap_alloc_new' w1 (.cells #[.slice A1 n c1] 38)
      have hb2 : Below w1.heap.size w1 (w1.alloc (.cells #[.slice A1 n c1] 38)) := (Below.refl _ _).alloc (Nat.le_refl _) _
      have hsz := H1.out.2.1.size
      refine ⟨_, [.slice A1 n c1], rfl, ⟨rfl, .inr ⟨w1.heap.size, 1, _, rfl, hsz, hw2, Nat.le_refl _, by decide, rfl, rfl⟩⟩, by simp, fun x hx => ?_, (H1.out.2.2.1.only H1.out.2.1 id).only (Only.of_below hb2) (by have := lt_blk (H1.out.2.2.1.only H1.out.2.1 id); omega), (H1.out.2.1.mono (fun _ _ e => e.elim)).trans (Only.of_below hb2) (fun k hk e => by omega)⟩
      rw [List.mem_singleton.1 hx]
      exact ⟨s, H1.out.1.only (Only.of_below hb2) (fun g hg e => by have := (H1.out.1.lt hg).1; omega), H1.out.2.2.2.1, fun _ e => e, [], by rw [H1.out.2.2.2.2]; exact .here, fun z hz => by cases hz⟩
    · have qq : ((a : Int) == (v : Int)) = false := beq_eq_false_iff_ne.mpr (by omega)
      have hal : a < s.length := by omega
      have c0 := hs.cell a hal
      rw [getD_tr hal, ha] at c0
      have f0 := hs.frozen a
      have hu1 := unseen_set (l := s) (v := a) (by rw [getD_tr hal]; exact ha)
      have HS := Lib.hid (show Seen (W.setCell ⟨q, a, none⟩ (.bool true)) q (s.set a true) ∧ Only (fun k => k = q) W (W.setCell ⟨q, a, none⟩ (.bool true)) from ⟨hs.set a true, Only.setCell W ⟨q, a, none⟩ (.bool true)⟩)
      have HP := Lib.hid (And.intro hP (And.intro hl (And.intro ha (And.intro hav (And.intro hal (show unseen (s.set a true) ≤ f by omega))))))
      have hqW := lt_blk hs
      clear hs hP ih hl ha hav hal hu1
      go_enter Try.func67, Try.ntmps67
      go_upto_region 5 with (fail)
      generalize hW1 : World.setCell W _ _ = W1 at *
      clear hW1 c0 f0 cv
      have hP1 := HP.out.1.only HS.out.2
      obtain ⟨rv, l, hrv, hli, hrow⟩ := hP1.mat.get (i := a) (by rw [hbn]; exact han)
      obtain ⟨A, c, rfl, _, _, _⟩ := rowAt_slice hrow
      rw [List.length_map] at hrow hrv
      have hc := hP1.mat.cell a
      rw [hrv] at hc
      have hll := hrows a l hli
      have cl := cell_of_blk _ _ _ _ _ hP1.kl 0
      simp at cl
      have hnb : nb b a = l := by unfold nb; rw [List.getD_eq_getElem?_getD, hli]; rfl
      have HL := Lib.hid (And.intro hrv (And.intro hli hnb))
      clear hP1 hrv hli hrow hnb
      go_wp2_with fail
      clear hc cl
      go_loopw [26, 8] (fun i o wr => ∃ (j : Nat) (Ao : Option Addr) (m co : Nat), i = .int .i64 (j : Int) ∧ o = .slice Ao m co ∧ Hid (j ≤ l.length ∧ m ≤ 40 ∧ ∃ us : List Value, us.length = m ∧ wr.ownsRow W1.heap.size 38 1 (.slice Ao m co) us.length us ∧ (∀ x ∈ us, PR wr W1.heap.size (nb b) n v a s x) ∧ Seen wr q (s.set a true) ∧ Only (fun k => k = q) W1 wr)) (fun i _ _ => l.length - (intOf i).toNat)
      case atStart => exact ⟨0, none, 0, 0, rfl, rfl, Lib.hid ⟨Nat.zero_le _, Nat.zero_le _, [], rfl, World.ownsRow_nil _ _ _ _, (fun x hx => by cases hx), HS.out.1, Only.refl _ _⟩⟩
      case round =>
        obtain ⟨wq, rfl⟩ : ∃ x : World, x = wr := ⟨_, rfl⟩
        obtain ⟨j, Ao, m, co, rfl, rfl, HI⟩ := hrel
        have hm40 := HI.out.2.1
        by_cases hj : j < l.length
        · have pp1 : ((j : Int) < (l.length : Int)) = True := eq_true (by omega)
          have j0 : 0 ≤ (j : Int) := by omega
          have j1 : (j : Int) < (l.length : Int) := by omega
          obtain ⟨x, hx⟩ : ∃ x, l[j]? = some x := ⟨_, List.getElem?_eq_getElem hj⟩
          have hxn : x < n := by rw [← hbn]; exact hf.lt a l HL.out.2.1 x (List.mem_of_getElem? hx)
          obtain ⟨us, hus, hown, hpr, hsn, hon⟩ := HI.out.2.2
          have hPq := (HP.out.1.only HS.out.2).only hon
          have hrow := hPq.mat.row a _ l HL.out.1 HL.out.2.1
          obtain ⟨g0, o0, rfl⟩ : ∃ g o, A = some ⟨g, o, none⟩ := by
            rcases hrow with ⟨h1, h2⟩ | ⟨g, o, cap, cur, h1, _⟩
            · have : l = [] := by simpa using h2
              rw [this] at hj; simp at hj
            · injection h1 with h1; exact ⟨g, o, h1⟩
          have hc := hrow.cell j (iv x) (by rw [List.getElem?_map, hx]; rfl)
          unfold iv at hc
          have x0 : 0 ≤ (x : Int) := by omega
          have x1 : (x : Int) < (n : Int) := by omega
          have hsl : (s.set a true).length = n := by simp [HP.out.2.1]
          have cs := hsn.cell x (by omega)
          rw [getD_tr (by omega)] at cs
          have cw := cell_of_blk _ _ _ _ _ hPq.kw 0
          simp at cw
          unfold wclo at cw
          have HX := Lib.hid (And.intro hx (And.intro hus (And.intro hown (And.intro hpr (And.intro hsn (And.intro hon (And.intro hPq hsl)))))))
          clear hx hus hown hpr hsn hon hPq hrow hsl
          cases hsx : tr (s.set a true) x
          · rw [hsx] at cs
            have HSX := Lib.hid hsx
            clear hsx
            by_cases hm20 : m < 20
            · have pm : ((m : Int) < 20) = True := eq_true (by omega)
              have hih := IH.out x (s.set a true) wq HX.out.2.2.2.2.2.2.1 HX.out.2.2.2.2.1 HX.out.2.2.2.2.2.2.2 HSX.out hxn HP.out.2.2.2.2.2
              have HIH := Lib.hid hih
              clear hih
              go_wp2_with fail
              refine HIH.out.mono ?_
              rintro e w4 ⟨u2, us2, rfl, ho2, hl20, hp2, hs2, hon2⟩
              have hqW1 : q < W1.heap.size := lt_blk HS.out.1
              have hown4 : w4.ownsRow W1.heap.size 38 1 (.slice Ao m co) us.length us := own_only hon2 HX.out.2.2.1 (fun g hg e => by have := (own_lt HX.out.2.2.1 hg).2; omega)
              have hszq := HX.out.2.2.2.2.2.1.size
              have hszw := hon2.size
              obtain ⟨v5, w5, hr5, ho5, hon5⟩ := rows_app hown4 ho2 (fun y hy => by obtain ⟨r, hr, _⟩ := hp2 y hy; exact ⟨r, hr⟩) (by omega) (by have := HX.out.2.1; omega)
              obtain ⟨A2, c2, e2, _⟩ := own_take ho2 (Nat.le_refl _)
              obtain ⟨A5, c5, e5, _⟩ := own_take ho5 (Nat.le_refl _)
              rw [e5] at hr5 ho5
              rw [e2] at hr5
              have hown5 : ∀ g, (Value.slice Ao m co).ownBlock = some g → W1.heap.size ≤ g := fun g hg => (own_lt HX.out.2.2.1 hg).2
              have HE := Lib.hid (show ∃ us' : List Value, us'.length = us.length + us2.length ∧ w5.ownsRow W1.heap.size 38 1 (.slice A5 (us.length + us2.length) c5) us'.length us' ∧ (∀ x ∈ us', PR w5 W1.heap.size (nb b) n v a s x) ∧ Seen w5 q (s.set a true) ∧ Only (fun k => k = q) W1 w5 from by
                refine ⟨us ++ us2, by simp, by rw [List.length_append]; exact ho5, fun y hy => ?_, hs2.only hon5 (fun e => by have := hown5 _ e; omega), (HX.out.2.2.2.2.2.1.trans hon2 (fun k _ e => e)).trans hon5 (fun k hk e => by have := hown5 _ e; omega)⟩
                rcases List.mem_append.1 hy with hy | hy
                · exact ((HX.out.2.2.2.1 y hy).only hon2 (fun k e => by omega)).grow hown4 hon5
                · refine ((hp2 y hy).back hszq HP.out.2.2.2.2.1 HP.out.2.2.2.1 ?_).grow hown4 hon5
                  rw [HL.out.2.2]
                  exact List.mem_of_getElem? HX.out.1)
              have HR5 := Lib.hid hr5
              have hm2 : us.length + us2.length ≤ 40 := by have := HX.out.2.1; omega
              rw [e2]
              obtain ⟨m2, hm2e⟩ : ∃ m2, us2.length = m2 := ⟨_, rfl⟩
              obtain ⟨m5, hm5e⟩ : ∃ m5, us.length + us2.length = m5 := ⟨_, rfl⟩
              rw [hm5e] at HE hm2
              rw [hm2e] at HR5 ⊢
              rw [hm2e] at hm5e
              rw [hm5e] at HR5
              clear ho2 hl20 hp2 hs2 hon2 hown4 hr5 ho5 hon5 hc cs cw e2 e5 hown5 hm2e hm5e hszq hszw
              go_wp2_with (first | (at_builtin; refine Lib.wpList_append_run _ rfl _ _ _ _ rfl _ _ rfl rfl _ _ HR5.out ?_) | fail)
              go_roundw
              case rel => exact ⟨j + 1, A5, m5, c5, by go_num, rfl, Lib.hid ⟨by omega, hm2, HE.out⟩⟩
              case measure => simp [intOf]; omega
            · have pm : ((m : Int) < 20) = False := eq_false (by omega)
              go_wp2_with fail
              go_roundw
              case rel => exact ⟨j + 1, Ao, m, co, by go_num, rfl, Lib.hid ⟨by omega, hm40, us, HX.out.2.1, HX.out.2.2.1, HX.out.2.2.2.1, HX.out.2.2.2.2.1, HX.out.2.2.2.2.2.1⟩⟩
              case measure => simp [intOf]; omega
          · rw [hsx] at cs
            clear hsx
            go_wp2_with fail
            go_roundw
            case rel => exact ⟨j + 1, Ao, m, co, by go_num, rfl, Lib.hid ⟨by omega, hm40, us, HX.out.2.1, HX.out.2.2.1, HX.out.2.2.2.1, HX.out.2.2.2.2.1, HX.out.2.2.2.2.2.1⟩⟩
            case measure => simp [intOf]; omega
        · obtain rfl : j = l.length := by have := HI.out.1; omega
          have pp1 : ((l.length : Int) < (l.length : Int)) = False := eq_false (by omega)
          obtain ⟨us, hus, hown, hpr, hsn, hon⟩ := HI.out.2.2
          have hqW1 : q < W1.heap.size := lt_blk HS.out.1
          have hc0 := hsn.cell a (by simp [HP.out.2.2.2.2.1])
          rw [getD_tr (by simp [HP.out.2.2.2.2.1]), tr_set HP.out.2.2.2.2.1] at hc0
          simp at hc0
          have hf0 := hsn.frozen a
          have hos := Only.setCell wq ⟨q, a, none⟩ (.bool false)
          have hset := hsn.set a false
          rw [set_back HP.out.2.2.1 HP.out.2.2.2.2.1] at hset
          obtain ⟨M, hM⟩ : ∃ M : Nat, min m 20 = M := ⟨_, rfl⟩
          have hmin : min (m : Int) 20 = (M : Int) := by omega
          have hown2 : (wq.setCell ⟨q, a, none⟩ (.bool false)).ownsRow W1.heap.size 38 1 (.slice Ao m co) us.length us := own_only hos hown (fun g hg e => by have := (own_lt hown hg).2; have e : g = q := e; omega)
          obtain ⟨A', c', e', hc', hown3⟩ := own_take hown2 (show M ≤ us.length by omega)
          injection e' with e1 e2 e3
          subst e1 e3
          have hMc : (M : Int) ≤ (co : Int) := by omega
          have hM0 : 0 ≤ (M : Int) := by omega
          have hszW := HS.out.2.size
          have HE := Lib.hid (show ∃ us' : List Value, us'.length = M ∧ (wq.setCell ⟨q, a, none⟩ (.bool false)).ownsRow W.heap.size 38 1 (.slice Ao M co) us'.length us' ∧ us'.length ≤ 20 ∧ (∀ x ∈ us', PR (wq.setCell ⟨q, a, none⟩ (.bool false)) W.heap.size (nb b) n v a s x) ∧ Seen (wq.setCell ⟨q, a, none⟩ (.bool false)) q s ∧ Only (fun k => k = q) W (wq.setCell ⟨q, a, none⟩ (.bool false)) from by
            have hlt : (us.take M).length = M := by rw [List.length_take]; omega
            refine ⟨us.take M, hlt, by rw [hlt]; exact own_base hown3 hszW, by rw [hlt]; omega, fun y hy => ?_, hset, (HS.out.2.trans hon (fun k _ e => e)).trans hos (fun k _ e => e)⟩
            obtain ⟨r, k1, k2⟩ := (hpr y (List.mem_of_mem_take hy)).only hos (fun k e => by have e : k = q := e; omega)
            exact ⟨r, k1.lower hszW, k2⟩)
          clear hown hpr hsn hon hos hset hown2 hown3 hc' e2
          go_wp2_with fail
          go_ret
          obtain ⟨us', h1, h2⟩ := HE.out
          exact ⟨_, us', rfl, h2⟩
end Go.Proofs.Ytnkbbjeepdjamaa
