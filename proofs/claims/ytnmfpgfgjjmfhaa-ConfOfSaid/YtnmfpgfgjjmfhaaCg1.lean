/- conf: bits and counts, plainly. -/
import Derived.Test.YtnmfpgfgjjmfhaaCf4
set_option linter.unusedVariables false
set_option linter.unusedSimpArgs false
set_option maxRecDepth 100000
namespace Go.Proofs.Ytnmfpgfgjjmfhaa
open Go
attribute [local irreducible] Exit.then Exit.inBlock Code.wp runS bodyPost postF J runT cutQ cutR Tr Sat blk Sl Old Star Ex Pu

theorem bv_wrap (z : Int) : BitVec.ofInt 64 (IntKind.i64.wrap z) = BitVec.ofInt 64 z := by
  apply BitVec.eq_of_toNat_eq
  simp only [BitVec.toNat_ofInt]
  unfold IntKind.wrap
  have e : IntKind.i64.bits = 64 := rfl
  have s : IntKind.i64.signed = true := rfl
  simp only [e, s, Bool.true_and]
  by_cases c : (2 : Int) ^ (64 - 1) ≤ z % 2 ^ 64 <;> simp [c] <;> omega
theorem bv_nat (b : BitVec 64) : BitVec.ofInt 64 (b.toNat : Int) = b := by
  apply BitVec.eq_of_toNat_eq
  simp only [BitVec.toNat_ofInt]
  have := b.isLt
  omega
theorem bitI_and (x y : Int) (i : Nat) : bitI (iand x y) i = (bitI x i && bitI y i) := by
  unfold bitI iand
  rw [bv_wrap, show IntKind.i64.bits = 64 from rfl, bv_nat, BitVec.getLsbD_and]
theorem bitI_or (x y : Int) (i : Nat) : bitI (ior x y) i = (bitI x i || bitI y i) := by
  unfold bitI ior
  rw [bv_wrap, show IntKind.i64.bits = 64 from rfl, bv_nat, BitVec.getLsbD_or]
theorem bitI_xor (x y : Int) (i : Nat) : bitI (ixor x y) i = Bool.xor (bitI x i) (bitI y i) := by
  unfold bitI ixor
  rw [bv_wrap, show IntKind.i64.bits = 64 from rfl, bv_nat, BitVec.getLsbD_xor]
def inot (x : Int) : Int := ixor (-1) x
theorem bitI_not (x : Int) {i : Nat} (hi : i < 64) : bitI (inot x) i = !bitI x i := by
  unfold inot
  rw [bitI_xor]
  have e : bitI (-1) i = true := by
    unfold bitI
    rw [show BitVec.ofInt 64 (-1) = BitVec.allOnes 64 from by decide, BitVec.getLsbD_allOnes]
    exact decide_eq_true hi
  rw [e, Bool.true_xor]

/-- how many of a list -/
def cnt (f : Nat → Bool) (l : List Nat) : Nat := (l.filter f).length
theorem cnt_cons (f : Nat → Bool) (x : Nat) (l : List Nat) : cnt f (x :: l) = (f x).toNat + cnt f l := by
  unfold cnt
  rw [List.filter_cons]
  cases f x <;> simp [Nat.add_comm]
theorem cnt_congr {f g : Nat → Bool} {l : List Nat} (h : ∀ i ∈ l, f i = g i) : cnt f l = cnt g l := by
  unfold cnt
  rw [List.filter_congr h]
theorem cnt_mono {f g : Nat → Bool} {l : List Nat} (h : ∀ i ∈ l, f i = true → g i = true) : cnt f l ≤ cnt g l := by
  induction l with
  | nil => exact Nat.le_refl _
  | cons x l ih =>
    rw [cnt_cons, cnt_cons]
    have h1 := ih (fun i hi => h i (List.mem_cons_of_mem _ hi))
    have h2 := h x (List.mem_cons_self ..)
    cases hf : f x <;> cases hg : g x <;> simp [hf, hg] at h2 ⊢ <;> omega
theorem cnt_pos {f : Nat → Bool} {l : List Nat} : 0 < cnt f l ↔ ∃ i ∈ l, f i = true := by
  unfold cnt
  rw [List.length_pos_iff_exists_mem]
  constructor
  · rintro ⟨x, hx⟩; exact ⟨x, (List.mem_filter.1 hx).1, (List.mem_filter.1 hx).2⟩
  · rintro ⟨x, hx, hf⟩; exact ⟨x, List.mem_filter.2 ⟨hx, hf⟩⟩
theorem cnt_meet (a b v w : Nat → Bool) (l : List Nat) (h : ∀ i ∈ l, (((a i && v i) && b i) && w i) = false) : 2 * cnt (fun i => a i && v i) l + 2 * cnt (fun i => b i && w i) l ≤ cnt a l + cnt b l + cnt (fun i => Bool.xor (a i) (b i)) l := by
  induction l with
  | nil => exact Nat.le_refl _
  | cons x l ih =>
    simp only [cnt_cons]
    have h1 := ih (fun i hi => h i (List.mem_cons_of_mem _ hi))
    have h2 := h x (List.mem_cons_self ..)
    cases ha : a x <;> cases hb : b x <;> cases hv : v x <;> cases hw : w x <;> simp [ha, hb, hv, hw] at h2 ⊢ <;> omega
theorem cnt_split (a v : Nat → Bool) (l : List Nat) : cnt (fun i => a i && v i) l + cnt (fun i => a i && !v i) l = cnt a l := by
  induction l with
  | nil => rfl
  | cons x l ih =>
    simp only [cnt_cons]
    cases ha : a x <;> cases hv : v x <;> simp <;> omega
theorem cnt_xor (a b : Nat → Bool) (l : List Nat) : cnt (fun i => Bool.xor (a i) (b i)) l + cnt (fun i => a i && b i) l = cnt (fun i => a i || b i) l := by
  induction l with
  | nil => rfl
  | cons x l ih =>
    simp only [cnt_cons]
    cases ha : a x <;> cases hv : b x <;> simp <;> omega
theorem cnt_or (a b : Nat → Bool) (l : List Nat) : cnt (fun i => a i || b i) l + cnt (fun i => a i && b i) l = cnt a l + cnt b l := by
  induction l with
  | nil => rfl
  | cons x l ih =>
    simp only [cnt_cons]
    cases ha : a x <;> cases hv : b x <;> simp <;> omega

theorem lenC {m : Int} (h0 : 0 ≤ m) (h1 : m < 128) : (memC m).length = cnt (bitI m) (List.range 7) := by
  unfold memC
  by_cases hm : mayC m
  · rw [if_pos hm, List.length_map]; rfl
  · rw [if_neg hm]
    have : m = 0 := by unfold mayC at hm; omega
    subst this
    decide +kernel
theorem iand_lt {m : Int} (hm : mayC m) (v : Int) : 0 ≤ iand m v ∧ iand m v < 128 := by
  obtain ⟨k, rfl⟩ : ∃ k : Nat, m = k := ⟨m.toNat, by have := hm.1; omega⟩
  have hk : k < 128 := by have := hm.2; omega
  have e : (BitVec.ofInt 64 (k : Int)).toNat = k := by simp only [BitVec.toNat_ofInt]; omega
  have l : (BitVec.ofInt 64 (k : Int) &&& BitVec.ofInt 64 v).toNat ≤ k := by
    rw [BitVec.toNat_and, e]; exact Nat.and_le_left
  unfold iand
  rw [show IntKind.i64.bits = 64 from rfl, wrap64_id (by omega)]
  omega
theorem lenA {m : Int} (hm : mayC m) (v : Int) : (memC (iand m v)).length = cnt (fun i => bitI m i && bitI v i) (List.range 7) := by
  rw [lenC (iand_lt hm v).1 (iand_lt hm v).2]
  exact cnt_congr fun i _ => bitI_and m v i
theorem mostC_iff (m v : Int) : mostC m v ↔ mayC m ∧ cnt (bitI m) (List.range 7) < 2 * cnt (fun i => bitI m i && bitI v i) (List.range 7) := by
  unfold mostC
  constructor
  · rintro ⟨h, k⟩; rw [lenC (by have := h.1; omega) h.2, lenA h] at k; exact ⟨h, k⟩
  · rintro ⟨h, k⟩; rw [lenC (by have := h.1; omega) h.2, lenA h]; exact ⟨h, k⟩
theorem may_bit {m : Int} (hm : mayC m) : 0 < cnt (bitI m) (List.range 7) := by
  obtain ⟨k, rfl⟩ : ∃ k : Nat, m = k := ⟨m.toNat, by have := hm.1; omega⟩
  have hk : k < 128 := by have := hm.2; omega
  have hp : 0 < k := by have := hm.1; omega
  have : ∀ k ∈ List.range 128, 0 < k → 0 < cnt (bitI (k : Nat)) (List.range 7) := by decide +kernel
  exact this k (List.mem_range.2 hk) hp
theorem xor_lt {a b : Int} (ha : mayC a) (hb : mayC b) : ∃ d : Nat, d < 128 ∧ ixor a b = d := by
  obtain ⟨k, rfl⟩ : ∃ k : Nat, a = k := ⟨a.toNat, by have := ha.1; omega⟩
  obtain ⟨j, rfl⟩ : ∃ k : Nat, b = k := ⟨b.toNat, by have := hb.1; omega⟩
  have hk : k < 2 ^ 7 := by have := ha.2; omega
  have hj : j < 2 ^ 7 := by have := hb.2; omega
  have e1 : (BitVec.ofInt 64 (k : Int)).toNat = k := by simp only [BitVec.toNat_ofInt]; omega
  have e2 : (BitVec.ofInt 64 (j : Int)).toNat = j := by simp only [BitVec.toNat_ofInt]; omega
  have hx := Nat.xor_lt_two_pow hk hj
  refine ⟨k ^^^ j, hx, ?_⟩
  unfold ixor
  rw [show IntKind.i64.bits = 64 from rfl, BitVec.toNat_xor, e1, e2, wrap64_id (by omega)]
theorem ior_lt {a b : Int} (ha : mayC a) (hb : mayC b) : 0 ≤ ior a b ∧ ior a b < 128 := by
  obtain ⟨k, rfl⟩ : ∃ k : Nat, a = k := ⟨a.toNat, by have := ha.1; omega⟩
  obtain ⟨j, rfl⟩ : ∃ k : Nat, b = k := ⟨b.toNat, by have := hb.1; omega⟩
  have hk : k < 2 ^ 7 := by have := ha.2; omega
  have hj : j < 2 ^ 7 := by have := hb.2; omega
  have e1 : (BitVec.ofInt 64 (k : Int)).toNat = k := by simp only [BitVec.toNat_ofInt]; omega
  have e2 : (BitVec.ofInt 64 (j : Int)).toNat = j := by simp only [BitVec.toNat_ofInt]; omega
  have hx := Nat.or_lt_two_pow hk hj
  unfold ior
  rw [show IntKind.i64.bits = 64 from rfl, BitVec.toNat_or, e1, e2, wrap64_id (by omega)]
  omega
theorem nearC_iff (a b : Int) : nearC a b ↔ (mayC a ∧ mayC b) ∧ cnt (fun i => Bool.xor (bitI a i) (bitI b i)) (List.range 7) = 1 := by
  unfold nearC
  rw [and_assoc]
  refine and_congr_right fun ⟨ha, hb⟩ => ?_
  obtain ⟨d, hd, e⟩ := xor_lt ha hb
  rw [show cnt (fun i => Bool.xor (bitI a i) (bitI b i)) (List.range 7) = cnt (bitI (ixor a b)) (List.range 7) from cnt_congr fun i _ => (bitI_xor a b i).symm, e]
  have key : ∀ d ∈ List.range 128, decide ((d : Int) ≠ 0 ∧ iand d (IntKind.i64.wrap ((d : Int) - 1)) = 0) = decide (cnt (bitI (d : Nat)) (List.range 7) = 1) := by decide +kernel
  have := key d (List.mem_range.2 hd)
  exact decide_eq_decide.1 this

-- the laws
theorem near_symm (a b : Int) : nearC a b ↔ nearC b a := by
  rw [nearC_iff, nearC_iff]
  have : cnt (fun i => Bool.xor (bitI a i) (bitI b i)) (List.range 7) = cnt (fun i => Bool.xor (bitI b i) (bitI a i)) (List.range 7) := cnt_congr fun i _ => Bool.xor_comm _ _
  rw [this]
  exact and_congr_left fun _ => And.comm
theorem near_self (a : Int) : ¬ nearC a a := by
  rw [nearC_iff]
  rintro ⟨_, h⟩
  have e : cnt (fun i => Bool.xor (bitI a i) (bitI a i)) (List.range 7) = cnt (fun _ => false) (List.range 7) := cnt_congr fun i _ => Bool.xor_self _
  rw [e] at h
  exact absurd h (by decide)
theorem near_steps {a b : Int} (ha : mayC a) (hb : mayC b) : nearC a b ↔ ((memC (ior a b)).length : Int) - (memC (iand a b)).length = 1 := by
  have e1 : (memC (ior a b)).length = cnt (fun i => bitI a i || bitI b i) (List.range 7) := by
    rw [lenC (ior_lt ha hb).1 (ior_lt ha hb).2]
    exact cnt_congr fun i _ => bitI_or a b i
  rw [nearC_iff, e1, lenA ha]
  have := cnt_xor (bitI a) (bitI b) (List.range 7)
  constructor
  · rintro ⟨_, h⟩; omega
  · intro h; exact ⟨⟨ha, hb⟩, by omega⟩
theorem near_steps0 {a b : Int} (ha : mayC a) (hb : mayC b) (h0 : iand a b = 0) : nearC a b ↔ ((memC a).length : Int) + (memC b).length = 1 := by
  rw [nearC_iff, lenC (by have := ha.1; omega) ha.2, lenC (by have := hb.1; omega) hb.2]
  have h1 := cnt_xor (bitI a) (bitI b) (List.range 7)
  have h2 := cnt_or (bitI a) (bitI b) (List.range 7)
  have h3 : cnt (fun i => bitI a i && bitI b i) (List.range 7) = 0 := by
    rw [← lenA ha b, h0]; decide
  constructor
  · rintro ⟨_, h⟩; omega
  · intro h; exact ⟨⟨ha, hb⟩, by omega⟩
theorem most_self {m : Int} (hm : mayC m) : mostC m m := by
  rw [mostC_iff]
  have e : cnt (fun i => bitI m i && bitI m i) (List.range 7) = cnt (bitI m) (List.range 7) := cnt_congr fun i _ => Bool.and_self _
  have := may_bit hm
  exact ⟨hm, by omega⟩
theorem most_none (m : Int) : ¬ mostC m 0 := by
  rw [mostC_iff]
  rintro ⟨hm, h⟩
  have e : cnt (fun i => bitI m i && bitI 0 i) (List.range 7) = cnt (fun _ => false) (List.range 7) := cnt_congr fun i _ => by
    have : bitI 0 i = false := by simp [bitI]
    rw [this, Bool.and_false]
  rw [e] at h
  have : cnt (fun _ => false) (List.range 7) = 0 := by decide
  omega
theorem most_more {m v : Int} (w : Int) (h : mostC m v) : mostC m (ior v w) := by
  rw [mostC_iff] at h ⊢
  refine ⟨h.1, Nat.lt_of_lt_of_le h.2 (Nat.mul_le_mul_left 2 (cnt_mono fun i _ hi => ?_))⟩
  simp only [Bool.and_eq_true] at hi
  simp only [bitI_or, hi.1, hi.2, Bool.true_or, Bool.and_self]
theorem most_two {m v : Int} (h : mostC m v) : ¬ mostC m (inot v) := by
  rw [mostC_iff] at h ⊢
  rintro ⟨_, k⟩
  have e : cnt (fun i => bitI m i && bitI (inot v) i) (List.range 7) = cnt (fun i => bitI m i && !bitI v i) (List.range 7) := cnt_congr fun i hi => by
    rw [bitI_not v (by have := List.mem_range.1 hi; omega)]
  have := cnt_split (bitI m) (bitI v) (List.range 7)
  omega
theorem most_meet {a b v w : Int} (h : a = b ∨ nearC a b) (h1 : mostC a v) (h2 : mostC b w) : 0 < (memC (iand (iand (iand a v) b) w)).length := by
  have ha := h1.1
  have lt : 0 ≤ iand (iand (iand a v) b) w ∧ iand (iand (iand a v) b) w < 128 := by
    by_cases c1 : mayC (iand a v)
    · by_cases c2 : mayC (iand (iand a v) b)
      · exact iand_lt c2 w
      · have := iand_lt c1 b
        have z : iand (iand a v) b = 0 := by unfold mayC at c2; omega
        rw [z]
        have : iand 0 w = 0 := by unfold iand; simp; decide
        omega
    · have := iand_lt ha v
      have z : iand a v = 0 := by unfold mayC at c1; omega
      have z1 : ∀ w, iand 0 w = 0 := fun w => by unfold iand; simp; decide
      rw [z, z1, z1]
      omega
  rw [lenC lt.1 lt.2]
  refine Nat.pos_of_ne_zero fun hz => ?_
  rw [mostC_iff] at h1 h2
  have hc : ∀ i ∈ List.range 7, (((bitI a i && bitI v i) && bitI b i) && bitI w i) = false := fun i hi => by
    have : ¬ 0 < cnt (bitI (iand (iand (iand a v) b) w)) (List.range 7) := by omega
    rw [cnt_pos] at this
    have := fun hb => this ⟨i, hi, hb⟩
    rw [bitI_and, bitI_and, bitI_and] at this
    exact Bool.eq_false_iff.2 this
  have m := cnt_meet (bitI a) (bitI b) (bitI v) (bitI w) (List.range 7) hc
  have hx : cnt (fun i => Bool.xor (bitI a i) (bitI b i)) (List.range 7) ≤ 1 := by
    rcases h with rfl | h
    · rw [show cnt (fun i => Bool.xor (bitI a i) (bitI a i)) (List.range 7) = cnt (fun _ => false) (List.range 7) from cnt_congr fun i _ => Bool.xor_self _]
      decide
    · rw [nearC_iff] at h; omega
  have := h1.2
  have := h2.2
  omega

-- what most have
theorem sorted_count {s : List Int} (hs : s.Pairwise (· ≤ ·)) (x : Int) : ∀ p (hp : p < s.length), (x ≤ s[p] → s.length - p ≤ s.countP fun y => decide (x ≤ y)) ∧ (s[p] < x → (s.countP fun y => decide (x ≤ y)) ≤ s.length - p - 1) := by
  induction hs with
  | nil => intro p hp; exact absurd hp (Nat.not_lt_zero _)
  | @cons y l hy hl ih =>
    intro p hp
    rw [List.countP_cons]
    have hle : (l.countP fun y => decide (x ≤ y)) ≤ l.length := List.countP_le_length
    cases p with
    | zero =>
      simp only [List.getElem_cons_zero, List.length_cons]
      constructor
      · intro h
        have : (l.countP fun y => decide (x ≤ y)) = l.length := by
          rw [List.countP_eq_length]
          intro z hz
          have := hy z hz
          exact decide_eq_true (by omega)
        rw [if_pos (decide_eq_true h)]; omega
      · intro h
        rw [if_neg (by simpa using h)]; omega
    | succ p =>
      simp only [List.getElem_cons_succ, List.length_cons]
      have hp' : p < l.length := by simpa using hp
      have := ih p hp'
      have hyp := hy l[p] (List.getElem_mem hp')
      constructor
      · intro h
        have := this.1 h
        split <;> omega
      · intro h
        have := this.2 h
        rw [if_neg (by simp; omega)]; omega
def med (l : List Int) : Int := (srt l).getD ((l.length - 1) / 2) 0
theorem srt_perm (l : List Int) : (srt l).Perm l := List.mergeSort_perm l _
theorem srt_sorted (l : List Int) : (srt l).Pairwise (· ≤ ·) := by
  have := List.pairwise_mergeSort (le := fun x y : Int => decide (x ≤ y)) (fun a b c h1 h2 => decide_eq_true (Int.le_trans (of_decide_eq_true h1) (of_decide_eq_true h2))) (fun a b => by simp; omega) l
  exact this.imp fun h => of_decide_eq_true h
theorem med_iff {l : List Int} (hl : 0 < l.length) (x : Int) : x ≤ med l ↔ l.length < 2 * l.countP fun y => decide (x ≤ y) := by
  have hs := srt_sorted l
  have hn := srt_len l
  have hp : (l.length - 1) / 2 < (srt l).length := by omega
  have hc : (srt l).countP (fun y => decide (x ≤ y)) = l.countP fun y => decide (x ≤ y) := (srt_perm l).countP_eq _
  have h := sorted_count hs x ((l.length - 1) / 2) hp
  have hm : med l = (srt l)[(l.length - 1) / 2] := by
    unfold med
    rw [List.getD_eq_getElem?_getD, List.getElem?_eq_getElem hp]; rfl
  rw [hm]
  rw [hc, hn] at h
  constructor
  · intro hx; have := h.1 hx; omega
  · intro hx
    refine Int.not_lt.1 fun hlt => ?_
    have := h.2 hlt
    omega
theorem med_mem {l : List Int} (hl : 0 < l.length) : med l ∈ l := by
  have hn := srt_len l
  have hp : (l.length - 1) / 2 < (srt l).length := by omega
  have hm : med l = (srt l)[(l.length - 1) / 2] := by
    unfold med
    rw [List.getD_eq_getElem?_getD, List.getElem?_eq_getElem hp]; rfl
  rw [hm]
  exact (srt_perm l).mem_iff.1 (List.getElem_mem hp)
theorem reachedC_med {m : Int} {mt : List Int} (h : 0 < (reachL m mt).length) : reachedC m mt = max (med (reachL m mt)) 0 := by
  unfold reachedC
  rw [if_neg (by omega)]; rfl
theorem reachL_len (m : Int) (mt : List Int) : (reachL m mt).length = (memC m).length := List.length_map _
theorem reachL_cnt {m : Int} (hm : mayC m) (mt : List Int) (p : Int → Bool) : (reachL m mt).countP p = cnt (fun i => bitI m i && p (mt.getD i 0)) (List.range 7) := by
  unfold reachL memC memN cnt
  rw [if_pos hm, List.map_map, List.countP_map, List.countP_eq_length_filter, List.filter_filter]
  congr 1
  refine List.filter_congr fun i _ => ?_
  simp [Bool.and_comm]
/-- what is reached by most, told by counting -/
theorem reached_has {m : Int} (hm : mayC m) {mt : List Int} (h0 : ∀ i : Nat, 0 ≤ mt.getD i 0) (x : Int) : x ≤ reachedC m mt ↔ cnt (bitI m) (List.range 7) < 2 * cnt (fun i => bitI m i && decide (x ≤ mt.getD i 0)) (List.range 7) := by
  have hl : (reachL m mt).length = cnt (bitI m) (List.range 7) := by rw [reachL_len, lenC (by have := hm.1; omega) hm.2]
  have hp : 0 < (reachL m mt).length := by rw [hl]; exact may_bit hm
  have hn : 0 ≤ med (reachL m mt) := by
    have := med_mem hp
    obtain ⟨i, _, e⟩ := List.mem_map.1 this
    have := h0 i.toNat
    omega
  rw [reachedC_med hp, Int.max_eq_left hn, med_iff hp, hl, reachL_cnt hm]
theorem reached_nonneg (m : Int) (mt : List Int) : 0 ≤ reachedC m mt := by
  unfold reachedC
  split
  · exact Int.le_refl _
  · omega
theorem reached_not {m : Int} (hm : ¬ mayC m) (mt : List Int) : reachedC m mt = 0 := by
  unfold reachedC reachL memC
  rw [if_neg hm]; rfl
end Go.Proofs.Ytnmfpgfgjjmfhaa
