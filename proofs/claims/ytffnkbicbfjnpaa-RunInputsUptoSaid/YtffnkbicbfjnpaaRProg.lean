/- What refinerylaw03.Small.Program gives; what Light, Same and Equal answer. Conditions: the numbers are of their kinds; no more than 8 blocks of 10 lines. -/
import Derived.Test.YtffnkbicbfjnpaaRTot
import Derived.Test.YtffnkbicbfjnpaaRP
namespace Go.Proofs.Ytffnkbicbfjnpaa
open Go.RowKit Go.Proofs.YtffnkbicbfjnpaaW.PrintWords Go.Proofs.Ytffnkbicbfjnpaa.PRunFuel
open Go.Proofs.YtffnkbicbfjnpaaW.PrintMore
def labelI (a : Int) : Int := wrap64 (wrap64 (3 * a) + wrap64 (7 * Int.tmod a 2))
theorem label_some (a : Int) : refinerylaw03_Label.f a = some (labelI a) := rfl
def lineI (regs : Int) (l : S34) : S38 := onlyI ⟨Int.tmod l.f0 9, Int.tmod l.f1 12, Int.tmod (wrap64 l.f2) regs, Int.tmod (wrap64 l.f3) regs, Int.tmod (wrap64 l.f4) regs, wrap64 l.f6, wrap64 (Int.tmod l.f5 3)⟩
theorem line_some (regs : Int) (hr : regs ≠ 0) (l : S34) : refinerylaw03_Line_Instr.f 1 l.f0 l.f1 l.f2 l.f3 l.f4 l.f5 l.f6 regs = some ((lineI regs l).f0, (lineI regs l).f1, (lineI regs l).f2, (lineI regs l).f3, (lineI regs l).f4, (lineI regs l).f5, (lineI regs l).f6) := by
  unfold refinerylaw03_Line_Instr.f
  rw [if_neg hr, only_some ⟨Int.tmod l.f0 9, Int.tmod l.f1 12, Int.tmod (wrap64 l.f2) regs, Int.tmod (wrap64 l.f3) regs, Int.tmod (wrap64 l.f4) regs, wrap64 l.f6, wrap64 (Int.tmod l.f5 3)⟩]
  rfl
def lastB (regs n : Int) (b : S138) : S29 := onlyL ⟨rd [0, 1, 1, 0, 1, 2, 1, 3] (Int.tmod b.f1 8), Int.tmod (wrap64 b.f2) regs, labelI (Int.tmod (wrap64 b.f3) n), labelI (Int.tmod (wrap64 b.f4) n)⟩
theorem last_some (regs n : Int) (hr : regs ≠ 0) (hn : n ≠ 0) (b : S138) (hb : 0 ≤ b.f1) : refinerylaw03_Block_Last.f 2 b.f0 b.f1 b.f2 b.f3 b.f4 regs n = some ((lastB regs n b).f0, (lastB regs n b).f1, (lastB regs n b).f2, (lastB regs n b).f3) := by
  unfold refinerylaw03_Block_Last.f
  have h1 : 0 ≤ Int.tmod b.f1 8 := Int.tmod_nonneg 8 hb
  have h2 : Int.tmod b.f1 8 < 8 := Int.tmod_lt_of_pos _ (by omega)
  simp only [Option.bind_some]
  rw [if_pos h1, if_pos (by simpa using h2), if_neg hr, if_neg hn]
  simp only [label_some, Option.bind_some]
  rw [onlyL_some ⟨rd [0, 1, 1, 0, 1, 2, 1, 3] (Int.tmod b.f1 8), Int.tmod (wrap64 b.f2) regs, labelI (Int.tmod (wrap64 b.f3) n), labelI (Int.tmod (wrap64 b.f4) n)⟩]
  rfl
def constI (r : Nat) : S38 := ⟨0, 0, r, 0, 0, wrap64 ((r : Int) * r), 0⟩
/-- A block's instructions, its end. -/
def instrsI (regs : Nat) (bare : Bool) (bs : List S138) (i : Nat) : List S38 := (if i = 0 ∧ bare = false then (List.range regs).map constI else []) ++ (match bs[i]? with | some b => b.f0.map (lineI regs) | none => [])
def endI (regs n : Nat) (bare : Bool) (bs : List S138) (i : Nat) : S29 := match bs[i]? with
  | some b => lastB regs n b
  | none => if bare = true then ⟨3, 0, 0, 0⟩ else ⟨2, 0, 0, 0⟩
def blockI (regs n : Nat) (bare : Bool) (bs : List S138) (i : Nat) : S31 := ⟨labelI i, [], instrsI regs bare bs i, endI regs n bare bs i⟩
def progP (regs n : Nat) (bare : Bool) (bs : List S138) : List S31 := (List.range n).map (blockI regs n bare bs)
theorem l0_mono (k d : Nat) {a b c e f : Int} {h : Bool} {i : List S138} {j : List S31} {r} (hh : refinerylaw03_Small_Program.l0 k a b c e f h i j = some r) : refinerylaw03_Small_Program.l0 (k + d) a b c e f h i j = some r := by
  induction d with
  | zero => exact hh
  | succ d ih => exact (refinerylaw03_Small_Program.mono_l (k + d)).1 _ _ _ _ _ _ _ _ r ih
theorem j3_mono (k d : Nat) {a b c e f g l m n o p : Int} {h : Bool} {i : List S138} {j : List S31} {q : List S38} {r} (hh : refinerylaw03_Small_Program.j3 k a b c e f g h i j l q m n o p = some r) : refinerylaw03_Small_Program.j3 (k + d) a b c e f g h i j l q m n o p = some r := by
  induction d with
  | zero => exact hh
  | succ d ih => exact (refinerylaw03_Small_Program.mono_l (k + d)).2.2.1 _ _ _ _ _ _ _ _ _ _ _ _ _ _ _ r ih
section
variable {regs n : Nat} {s0 : Int} {bare : Bool} {bs : List S138} {r : List S31}
/-- The lines of a block, one by one. -/
theorem l2_some (hr : 0 < regs) (hn : 0 < n) (i : Nat) (hi : i < bs.length) (hlen : bs.length ≤ 8) (b : S138) (hb : bs[i]? = some b) (hb1 : 0 ≤ b.f1) (hbl : b.f0.length ≤ 10) (acc : List S31) (hacc : acc.length ≤ 8) (lab e0 e1 e2 e3 : Int) :
    ∀ (d j : Nat) (ins : List S38), j + d = b.f0.length → ins.length + d ≤ 100 →
      (∃ k, refinerylaw03_Small_Program.l0 k regs n n ((i : Int) + 1) s0 bare bs (acc ++ [⟨lab, [], ins ++ (b.f0.drop j).map (lineI regs), lastB regs n b⟩]) = some r) →
      ∃ k, refinerylaw03_Small_Program.l2 k regs n i n i b.f0 b.f0.length j s0 bare bs acc lab ins e0 e1 e2 e3 = some r
  | 0, j, ins, hj, hl, ⟨k, hk⟩ => by
    refine ⟨k + 2 + 1, ?_⟩
    rw [refinerylaw03_Small_Program.l2]
    have hrd : rd_T138 bs (i : Int) = b := by unfold rd_T138; rw [Int.toNat_natCast, List.getD_eq_getElem?_getD, hb]; rfl
    rw [if_neg (by omega), if_pos (by omega), if_pos (by omega), hrd]
    have hls := last_some (regs : Int) (n : Int) (by omega) (by omega) b hb1
    have hmono : refinerylaw03_Block_Last.f (k + 2) b.f0 b.f1 b.f2 b.f3 b.f4 regs n = some ((lastB regs n b).f0, (lastB regs n b).f1, (lastB regs n b).f2, (lastB regs n b).f3) := by
      have h : ∀ k, refinerylaw03_Block_Last.f (2 + k) b.f0 b.f1 b.f2 b.f3 b.f4 regs n = some ((lastB regs n b).f0, (lastB regs n b).f1, (lastB regs n b).f2, (lastB regs n b).f3) := fun k => by
        induction k with
        | zero => exact hls
        | succ k ih => exact refinerylaw03_Block_Last.mono _ _ _ _ _ _ _ _ _ ih
      rw [Nat.add_comm]
      exact h k
    rw [hmono]
    simp only [Option.bind_some]
    rw [if_pos (by omega)]
    have e1' : wrap64 ((i : Int) + 1) = (i : Int) + 1 := by simp only [wrap64]; omega
    rw [e1']
    have hd : b.f0.drop j = [] := List.drop_of_length_le (by omega)
    rw [hd] at hk
    simp only [List.map_nil, List.append_nil] at hk
    exact l0_mono k 2 hk
  | d + 1, j, ins, hj, hl, hk => by
    have hlt : j < b.f0.length := by omega
    have hdrop : b.f0.drop j = b.f0[j] :: b.f0.drop (j + 1) := List.drop_eq_getElem_cons hlt
    obtain ⟨k, hk'⟩ := l2_some hr hn i hi hlen b hb hb1 hbl acc hacc lab e0 e1 e2 e3 d (j + 1) (ins ++ [lineI regs b.f0[j]]) (by omega) (by simp; omega) (by
      obtain ⟨k, hk⟩ := hk
      refine ⟨k, ?_⟩
      rw [hdrop, List.map_cons] at hk
      simpa only [List.append_assoc, List.singleton_append] using hk)
    refine ⟨k + 1 + 1, ?_⟩
    rw [refinerylaw03_Small_Program.l2]
    have hrd : rd_T34 b.f0 (j : Int) = b.f0[j] := by unfold rd_T34; rw [Int.toNat_natCast, List.getD_eq_getElem?_getD, List.getElem?_eq_getElem hlt]; rfl
    rw [if_pos (by omega), if_pos (by omega), if_pos (by omega), hrd]
    have hline : ∀ k, refinerylaw03_Line_Instr.f (1 + k) b.f0[j].f0 b.f0[j].f1 b.f0[j].f2 b.f0[j].f3 b.f0[j].f4 b.f0[j].f5 b.f0[j].f6 regs = some ((lineI regs b.f0[j]).f0, (lineI regs b.f0[j]).f1, (lineI regs b.f0[j]).f2, (lineI regs b.f0[j]).f3, (lineI regs b.f0[j]).f4, (lineI regs b.f0[j]).f5, (lineI regs b.f0[j]).f6) := fun k => by
      induction k with
      | zero => exact line_some _ (by omega) _
      | succ k ih => exact refinerylaw03_Line_Instr.mono _ _ _ _ _ _ _ _ _ _ ih
    rw [Nat.add_comm k 1, hline k]
    simp only [Option.bind_some]
    rw [if_pos (by omega)]
    have e1' : wrap64 ((j : Int) + 1) = ((j + 1 : Nat) : Int) := by simp only [wrap64]; omega
    rw [e1']
    have := (refinerylaw03_Small_Program.mono_l k).2.2.2.1 _ _ _ _ _ _ _ _ _ _ _ _ _ _ _ _ _ _ r hk'
    rw [Nat.add_comm k 1] at this
    exact this
/-- A block's end, its lines. -/
theorem j3_some (hr : 0 < regs) (hn : 0 < n) (i : Nat) (hi : i < n) (hn8 : n ≤ 8) (hbn : bs.length ≤ n) (hbs : ∀ b ∈ bs, 0 ≤ b.f1 ∧ b.f0.length ≤ 10) (acc : List S31) (hacc : acc.length ≤ 8) (lab : Int) (ins : List S38) (hins : ins.length ≤ 10)
    (h : ∃ k, refinerylaw03_Small_Program.l0 k regs n n ((i : Int) + 1) s0 bare bs (acc ++ [⟨lab, [], ins ++ (match bs[i]? with | some b => b.f0.map (lineI regs) | none => []), endI regs n bare bs i⟩]) = some r) :
    ∃ k, refinerylaw03_Small_Program.j3 k regs n i n i s0 bare bs acc lab ins 2 0 0 0 = some r := by
  cases hb : bs[i]? with
  | some b =>
    have hib : i < bs.length := (List.getElem?_eq_some_iff.1 hb).1
    have hbm := hbs b (List.mem_of_getElem? hb)
    rw [hb] at h
    simp only [endI, hb] at h
    obtain ⟨k, hk⟩ := l2_some (s0 := s0) (bare := bare) (r := r) hr hn i hib (by omega) b hb hbm.1 hbm.2 acc hacc lab 2 0 0 0 b.f0.length 0 ins (by omega) (by omega) (by simpa using h)
    refine ⟨k + 1, ?_⟩
    rw [refinerylaw03_Small_Program.j3]
    have hrd : rd_T138 bs (i : Int) = b := by unfold rd_T138; rw [Int.toNat_natCast, List.getD_eq_getElem?_getD, hb]; rfl
    rw [if_pos (by omega), if_pos (by omega), hrd]
    exact hk
  | none =>
    have hib : bs.length ≤ i := List.getElem?_eq_none_iff.1 hb
    rw [hb] at h
    simp only [endI, hb, List.append_nil] at h
    obtain ⟨k, hk⟩ := h
    refine ⟨k + 1, ?_⟩
    rw [refinerylaw03_Small_Program.j3]
    rw [if_neg (by omega)]
    have e1 : wrap64 ((i : Int) + 1) = (i : Int) + 1 := by simp only [wrap64]; omega
    cases bare with
    | true => rw [if_pos rfl, if_pos (by omega), e1]; simpa using hk
    | false => rw [if_neg (by simp), if_pos (by omega), e1]; simpa using hk
/-- The constants ahead. -/
theorem l1_some (hr6 : regs ≤ 6) (i : Nat) (acc : List S31) (lab : Int)
    (h : ∃ k, refinerylaw03_Small_Program.j3 k regs n i n i s0 bare bs acc lab ((List.range regs).map constI) 2 0 0 0 = some r) :
    ∀ (d j : Nat), j + d = regs → ∃ k, refinerylaw03_Small_Program.l1 k regs n i n i regs j s0 bare bs acc lab ((List.range j).map constI) 2 0 0 0 = some r
  | 0, j, hj => by
    obtain rfl : j = regs := by omega
    obtain ⟨k, hk⟩ := h
    refine ⟨k + 1, ?_⟩
    rw [refinerylaw03_Small_Program.l1, if_neg (by omega)]
    exact hk
  | d + 1, j, hj => by
    obtain ⟨k, hk⟩ := l1_some hr6 i acc lab h d (j + 1) (by omega)
    refine ⟨k + 1, ?_⟩
    rw [refinerylaw03_Small_Program.l1, if_pos (by omega), if_pos (by simp; omega)]
    have e1 : wrap64 ((j : Int) + 1) = ((j + 1 : Nat) : Int) := by simp only [wrap64]; omega
    rw [e1]
    have e2 : (List.range j).map constI ++ [(⟨0, 0, (j : Int), 0, 0, wrap64 ((j : Int) * j), 0⟩ : S38)] = (List.range (j + 1)).map constI := by rw [List.range_succ, List.map_append]; rfl
    rw [e2]
    exact hk
theorem prog_some (hr : 0 < regs) (hr6 : regs ≤ 6) (hn : 0 < n) (hn8 : n ≤ 8) (hbn : n = max bs.length 1) (hbs : ∀ b ∈ bs, 0 ≤ b.f1 ∧ b.f0.length ≤ 10) :
    ∀ (d i : Nat), i + d = n → ∃ k, refinerylaw03_Small_Program.l0 k regs n n i s0 bare bs ((List.range i).map (blockI regs n bare bs)) = some (progP regs n bare bs)
  | 0, i, hi => by
    obtain rfl : i = n := by omega
    exact ⟨1, by rw [refinerylaw03_Small_Program.l0, if_neg (by omega)]; rfl⟩
  | d + 1, i, hi => by
    obtain ⟨k, hk⟩ := prog_some hr hr6 hn hn8 hbn hbs d (i + 1) (by omega)
    have hacc : ((List.range i).map (blockI regs n bare bs)).length ≤ 8 := by simp; omega
    have hsn : (List.range (i + 1)).map (blockI regs n bare bs) = (List.range i).map (blockI regs n bare bs) ++ [blockI regs n bare bs i] := by rw [List.range_succ, List.map_append]; rfl
    rw [hsn] at hk
    have hcast : ((i + 1 : Nat) : Int) = (i : Int) + 1 := by omega
    rw [hcast] at hk
    by_cases hc : i = 0 ∧ bare = false
    · obtain ⟨k3, hk3⟩ := j3_some (s0 := s0) (bare := bare) (r := progP regs n bare bs) hr hn i (by omega) hn8 (by omega) hbs _ hacc (labelI i) ((List.range regs).map constI) (by simp; omega) (by
        refine ⟨k, ?_⟩
        have e : (List.range regs).map constI ++ (match bs[i]? with | some b => b.f0.map (lineI regs) | none => []) = instrsI regs bare bs i := by unfold instrsI; rw [if_pos hc]
        rw [e]; exact hk)
      obtain ⟨k1, hk1⟩ := l1_some hr6 i _ (labelI i) ⟨k3, hk3⟩ regs 0 (by omega)
      refine ⟨k1 + 1 + 1, ?_⟩
      rw [refinerylaw03_Small_Program.l0, if_pos (by omega), label_some]
      simp only [Option.bind_some]
      rw [if_pos (by omega), refinerylaw03_Small_Program.j1, if_pos (by rw [hc.2]; rfl)]
      simpa using hk1
    · obtain ⟨k3, hk3⟩ := j3_some (s0 := s0) (bare := bare) (r := progP regs n bare bs) hr hn i (by omega) hn8 (by omega) hbs _ hacc (labelI i) [] (by simp) (by
        refine ⟨k, ?_⟩
        have e : ([] : List S38) ++ (match bs[i]? with | some b => b.f0.map (lineI regs) | none => []) = instrsI regs bare bs i := by unfold instrsI; rw [if_neg hc]
        rw [e]; exact hk)
      refine ⟨k3 + 1 + 1, ?_⟩
      rw [refinerylaw03_Small_Program.l0, if_pos (by omega), label_some]
      simp only [Option.bind_some]
      by_cases hi0 : i = 0
      · have hb : bare = true := by cases bare with
          | true => rfl
          | false => exact absurd ⟨hi0, rfl⟩ hc
        rw [if_pos (by omega), refinerylaw03_Small_Program.j1, if_neg (by rw [hb]; simp)]
        exact hk3
      · rw [if_neg (by omega), refinerylaw03_Small_Program.j1, if_neg (by simp)]
        exact hk3
end
/-- How many registers and blocks there are. -/
def regsN (s0 : Int) : Nat := (1 + Int.tmod s0 6).toNat
theorem small_program (s0 : Int) (h0 : 0 ≤ s0) (bare : Bool) (bs : List S138) (h8 : bs.length ≤ 8) (hbs : ∀ b ∈ bs, 0 ≤ b.f1 ∧ b.f0.length ≤ 10) :
    ∃ k, refinerylaw03_Small_Program.f k s0 bare bs = some (progP (regsN s0) (max bs.length 1) bare bs) := by
  have h1 : 0 ≤ Int.tmod s0 6 := Int.tmod_nonneg 6 h0
  have h2 : Int.tmod s0 6 < 6 := Int.tmod_lt_of_pos _ (by omega)
  obtain ⟨k, hk⟩ := prog_some (regs := regsN s0) (n := max bs.length 1) (s0 := s0) (bare := bare) (bs := bs) (by unfold regsN; omega) (by unfold regsN; omega) (by omega) (by omega) rfl hbs (max bs.length 1) 0 (by omega)
  refine ⟨k, ?_⟩
  unfold refinerylaw03_Small_Program.f
  have e1 : wrap64 (1 + wrap64 (Int.tmod s0 6)) = (regsN s0 : Int) := by unfold regsN; simp only [wrap64]; omega
  have e2 : mx (bs.length : Int) 1 = ((max bs.length 1 : Nat) : Int) := by unfold mx; split <;> omega
  rw [e1, e2]
  exact hk
theorem small_light (s0 : Int) (bare : Bool) (bs : List S138) (hl : bs.length ≤ 9223372036854775807) :
    ∃ k, refinerylaw03_Small_Light.f k s0 bare bs = some (decide ((∀ b ∈ bs, b.f0.length ≤ 10) ∧ bs.length ≤ 8)) := by
  have key : ∀ (d i : Nat), i + d = bs.length → (∀ b ∈ bs.take i, b.f0.length ≤ 10) → refinerylaw03_Small_Light.l0 (d + 1) bs bs.length i s0 bare bs = some (decide ((∀ b ∈ bs, b.f0.length ≤ 10) ∧ bs.length ≤ 8)) := by
    intro d
    induction d with
    | zero =>
      intro i hi h
      obtain rfl : i = bs.length := by omega
      rw [List.take_of_length_le (Nat.le_refl _)] at h
      rw [refinerylaw03_Small_Light.l0, if_neg (by omega)]
      congr 1
      simp only [decide_eq_decide]
      exact ⟨fun h' => ⟨h, by omega⟩, fun h' => by have := h'.2; omega⟩
    | succ d ih =>
      intro i hi h
      have hlt : i < bs.length := by omega
      have hrd : rd_T138 bs (i : Int) = bs[i] := by unfold rd_T138; rw [Int.toNat_natCast, List.getD_eq_getElem?_getD, List.getElem?_eq_getElem hlt]; rfl
      rw [refinerylaw03_Small_Light.l0, if_pos (by omega), if_pos (by omega), if_pos (by omega), hrd]
      by_cases hb : (bs[i]).f0.length ≤ 10
      · rw [if_neg (by omega)]
        have e1 : wrap64 ((i : Int) + 1) = ((i + 1 : Nat) : Int) := by simp only [wrap64]; omega
        rw [e1]
        refine ih (i + 1) (by omega) (fun b hb' => ?_)
        rw [List.take_add_one, List.getElem?_eq_getElem hlt] at hb'
        rcases List.mem_append.1 hb' with h' | h'
        · exact h b h'
        · simp at h'; rw [h']; exact hb
      · rw [if_pos (by omega)]
        congr 1
        symm
        exact decide_eq_false (fun h' => hb (h'.1 _ (List.getElem_mem hlt)))
  exact ⟨bs.length + 1, key bs.length 0 (by omega) (by simp)⟩
theorem equal_some (l1 l2 : List Int) (h : l1.length ≤ 1099511627776) : slices_Equal_int64_int64.f (l1.length + 1) l1 l2 = some (decide (l1 = l2)) := by
  unfold slices_Equal_int64_int64.f
  by_cases hl : l1.length = l2.length
  · rw [if_pos (by omega)]
    have key : ∀ (d i : Nat), i + d = l1.length → l1.take i = l2.take i → slices_Equal_int64_int64.l0 (d + 1) l1 l2 l1.length i = some (decide (l1 = l2)) := by
      intro d
      induction d with
      | zero =>
        intro i hi ht
        rw [slices_Equal_int64_int64.l0, if_neg (by omega)]
        rw [List.take_of_length_le (by omega), List.take_of_length_le (by omega)] at ht
        rw [ht]; simp
      | succ d ih =>
        intro i hi ht
        have h1 : i < l1.length := by omega
        have h2 : i < l2.length := by omega
        have r1 : rd l1 (i : Int) = l1[i] := by unfold rd; rw [Int.toNat_natCast, List.getD_eq_getElem?_getD, List.getElem?_eq_getElem h1]; rfl
        have r2 : rd l2 (i : Int) = l2[i] := by unfold rd; rw [Int.toNat_natCast, List.getD_eq_getElem?_getD, List.getElem?_eq_getElem h2]; rfl
        rw [slices_Equal_int64_int64.l0, if_pos (by omega), if_pos (by omega), if_pos (by omega), if_pos (by omega), r1, r2]
        by_cases he : l1[i] = l2[i]
        · rw [if_pos he]
          have e1 : wrap64 ((i : Int) + 1) = ((i + 1 : Nat) : Int) := by simp only [wrap64]; omega
          rw [e1]
          refine ih (i + 1) (by omega) ?_
          rw [List.take_add_one, List.take_add_one, ht, List.getElem?_eq_getElem h1, List.getElem?_eq_getElem h2, he]
        · rw [if_neg he]
          congr 1
          symm
          refine decide_eq_false (fun e => he ?_)
          subst e; rfl
    exact key l1.length 0 (by omega) (by simp)
  · rw [if_neg (by omega)]
    congr 1
    symm
    exact decide_eq_false (fun e => hl (by rw [e]))
theorem same_some (a0 a1 : Int) (l1 : List Int) (a3 b0 b1 : Int) (l2 : List Int) (b3 : Int) (h : l1.length ≤ 1099511627776) : run_Same.f (l1.length + 1) a0 a1 l1 a3 b0 b1 l2 b3 = some (decide (a0 = b0 ∧ a1 = b1 ∧ l1 = l2)) := by
  unfold run_Same.f
  rw [equal_some l1 l2 h]
  by_cases h0 : a0 = b0 <;> by_cases h1 : a1 = b1 <;> simp [h0, h1]
end Go.Proofs.Ytffnkbicbfjnpaa
