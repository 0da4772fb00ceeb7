/- conf: the document's answers: May, Has, List, Most, Near. -/
import Derived.Test.YtnmfpgfgjjmfhaaCf5
import Derived.Test.YtnmfpgfgjjmfhaaCg2
import Derived.Test.YtnmfpgfgjjmfhaaSa
set_option linter.unusedVariables false
set_option linter.unusedSimpArgs false
set_option maxRecDepth 100000
namespace Go.Proofs.Ytnmfpgfgjjmfhaa
open Go
attribute [local irreducible] Exit.then Exit.inBlock Code.wp runS bodyPost postF J runT cutQ cutR Tr Sat blk Sl Old Star Ex Pu
theorem rmay_spec (m : Int) (Lp : List HP) : Tr Try.prog 11 [.int .i64 m] Lp (fun v M => v = .bool (decide (mayC m)) ∧ M = Lp) := by
  refine tr_enter Try.func11 rfl Try.ntmps11 rfl (fun F => ?_)
  repeat' (first | (show J _ _ _ (runS _ _ _ _ (⟨_, _, _, _, _, none⟩ :: _)); first | (show J _ _ _ (runS _ _ _ _ (⟨_, .move _, _, _, _, _⟩ :: _)); refine j_move rfl rfl ?_) | (show J _ _ _ (runS _ _ _ _ (⟨_, .binOp _ _ _ _ _, _, _, _, _⟩ :: _)); ((refine j_bin rfl rfl rfl rfl ?_))) | (show J _ _ _ (runS _ _ _ _ (⟨_, .assign _, _, _, _, _⟩ :: _)); refine j_assign rfl rfl ?_) | (show J _ _ _ (runS _ _ _ _ (⟨_, .pick _ _ _, _, _, _, _⟩ :: _)); (first | refine j_pick_t rfl rfl rfl ?_ | refine j_pick_f rfl rfl rfl ?_))) | refine j_nil ?_ | (show J _ _ _ (runS _ _ _ _ (⟨_, _, _, _, _, some _⟩ :: _)); first | refine j_gno_u rfl rfl rfl rfl ?_ | refine j_gyes rfl rfl rfl ?_ | refine j_gsplit_dec rfl rfl (fun h => ?_) (fun h => ?_)) | (show J _ _ _ (Code.wp _ _ _); first | refine j_seq ?_ | refine j_region ?_ | refine j_ret ?_) | refine j_then ?_)
  · exact j_ret1 (M := Lp) rfl rfl .refl ⟨congrArg Value.bool (decide_eq_decide.2 ⟨fun k => ⟨by omega, by omega⟩, fun k => by have := k.2; omega⟩), rfl⟩
  · exact j_ret1 (M := Lp) rfl rfl .refl ⟨congrArg Value.bool (decide_eq_false (fun k : mayC m => by have := k.1; omega)).symm, rfl⟩

def u64 (m : Int) : Nat := (BitVec.ofInt 64 m).toNat
theorem u64_conv (m : Int) : IntKind.u64.wrap m = ((u64 m : Nat) : Int) := by
  unfold u64 IntKind.wrap
  simp only [BitVec.toNat_ofInt]
  have e : IntKind.u64.bits = 64 := rfl
  have s : IntKind.u64.signed = false := rfl
  simp only [e, s, Bool.false_and]
  simp
  omega
theorem u64_bit (m : Int) (i : Nat) : (u64 m / 2 ^ i % 2 = 1) ↔ bitI m i = true := by
  unfold bitI u64
  rw [BitVec.getLsbD, Nat.testBit_eq_decide_div_mod_eq, decide_eq_true_eq]
theorem u64_lt (m : Int) (i : Nat) : u64 m / 2 ^ i < 18446744073709551616 := Nat.lt_of_le_of_lt (Nat.div_le_self _ _) (BitVec.ofInt 64 m).isLt
theorem wrapu {x : Int} (h : 0 ≤ x ∧ x < 18446744073709551616) : IntKind.u64.wrap x = x := by
  unfold IntKind.wrap
  have e : IntKind.u64.bits = 64 := rfl
  have s : IntKind.u64.signed = false := rfl
  simp only [e, s, Bool.false_and]
  simp
  omega
theorem rhas_spec (m : Int) (i : Nat) (hi : i ≤ 1000) (Lp : List HP) : Tr Try.prog 24 [.int .i64 m, .int .i64 (i : Nat)] Lp (fun v M => v = .bool (bitI m i) ∧ M = Lp) := by
  refine tr_enter Try.func24 rfl Try.ntmps24 rfl (fun F => ?_)
  repeat' (first | (show J _ _ _ (runS _ _ _ _ (⟨_, _, _, _, _, none⟩ :: _)); first | (show J _ _ _ (runS _ _ _ _ (⟨_, .move _, _, _, _, _⟩ :: _)); refine j_move rfl rfl ?_) | (show J _ _ _ (runS _ _ _ _ (⟨_, .assign _, _, _, _, _⟩ :: _)); refine j_assign rfl rfl ?_) | (show J _ _ _ (runS _ _ _ _ (⟨_, .convert _ _ _, _, _, _, _⟩ :: _)); refine j_conv rfl rfl ?_)) | refine j_nil ?_ | (show J _ _ _ (Code.wp _ _ _); first | refine j_seq ?_ | refine j_region ?_ | refine j_block ?_) | refine j_then ?_)
  rw [u64_conv, show ((u64 m : Nat) : Int) = ((u64 m / 2 ^ 0 : Nat) : Int) from by simp]
  refine j_loop (X := { k : Nat // k ≤ i }) (fun k => [(1, .int .i64 (i : Nat)), (5, .int .u64 ((u64 m / 2 ^ k.1 : Nat))), (6, .int .i64 (k.1 : Nat))]) (fun k => Lp ++ F) (fun k => i - k.1) ⟨0, by omega⟩ ⟨rfl, rfl, rfl, trivial⟩ .refl (fun k => ?_)
  obtain ⟨k, hk⟩ := k
  dsimp only
  repeat' (first | (show J _ _ _ (runS _ _ _ _ (⟨_, _, _, _, _, none⟩ :: _)); first | (show J _ _ _ (runS _ _ _ _ (⟨_, .move _, _, _, _, _⟩ :: _)); refine j_move rfl rfl ?_) | (show J _ _ _ (runS _ _ _ _ (⟨_, .binOp _ _ _ _ _, _, _, _, _⟩ :: _)); (first | refine j_add rfl rfl (by omega) rfl ?_ | refine j_bin rfl rfl rfl rfl ?_ | refine j_quo rfl rfl (by omega) rfl ?_ | refine j_rem rfl rfl (by omega) rfl ?_)) | (show J _ _ _ (runS _ _ _ _ (⟨_, .assign _, _, _, _, _⟩ :: _)); refine j_assign rfl rfl ?_)) | refine j_nil ?_ | (show J _ _ _ (Code.wp _ _ _); first | refine j_seq ?_ | refine j_region ?_ | refine j_block ?_ | (show J _ _ _ (Code.wp _ (.cond _ _ _) _); (refine j_dec rfl (fun h => ?_) (fun h => ?_))) | refine j_ret ?_ | refine j_skip ?_ | refine j_exit ?_) | refine j_then ?_ | refine j_then_exit ?_ | refine j_inb ?_ | refine j_inb_here ?_)
  · have e : IntKind.u64.wrap (((u64 m / 2 ^ k : Nat) : Int).tdiv 2) = ((u64 m / 2 ^ (k + 1) : Nat) : Int) := by
      have h2 := u64_lt m k
      rw [Nat.pow_succ, ← Nat.div_div_eq_div_mul]
      generalize u64 m / 2 ^ k = q at h2 ⊢
      rw [Int.tdiv_eq_ediv_of_nonneg (by omega), wrapu (by omega)]
      omega
    rw [e]
    exact j_round ⟨k + 1, by omega⟩ (by dsimp only; omega) ⟨rfl, rfl, rfl, trivial⟩ .refl
  · have hk2 : k = i := by omega
    subst hk2
    refine j_ret1 (M := Lp) rfl rfl (by repeat ((exact .refl))) ⟨congrArg Value.bool ?_, rfl⟩
    have := u64_bit m k
    generalize u64 m / 2 ^ k = q at this ⊢
    cases hb : bitI m k with
    | true =>
      rw [hb] at this
      have := this.2 rfl
      exact decide_eq_true (by rw [Int.tmod_eq_emod_of_nonneg (by omega)]; omega)
    | false =>
      rw [hb] at this
      exact decide_eq_false (fun h => by rw [Int.tmod_eq_emod_of_nonneg (by omega)] at h; exact absurd (this.1 (by omega)) (by simp))

theorem rlist_spec (m : Int) (Lp : List HP) : Tr Try.prog 14 [.int .i64 m] Lp (fun v M => ∃ a c, v = .slice a (memC m).length c ∧ M = Sl 3 a c (memC m) :: Lp) := by
  refine tr_enter Try.func14 rfl Try.ntmps14 rfl (fun F => ?_)
  repeat' (first | (show J _ _ _ (runS _ _ _ _ (⟨_, _, _, _, _, none⟩ :: _)); (show J _ _ _ (runS _ _ _ _ (⟨_, .assign _, _, _, _, _⟩ :: _)); refine j_assign rfl rfl ?_)) | refine j_nil ?_ | (show J _ _ _ (Code.wp _ _ _); first | refine j_seq ?_ | refine j_region ?_) | refine j_then ?_)
  refine j_lit0 (α := Int) rfl (fun b0 => ?_)
  repeat' (first | (show J _ _ _ (runS _ _ _ _ (⟨_, _, _, _, _, none⟩ :: _)); (show J _ _ _ (runS _ _ _ _ (⟨_, .assign _, _, _, _, _⟩ :: _)); refine j_assign rfl rfl ?_)) | refine j_nil ?_ | (show J _ _ _ (Code.wp _ _ _); first | refine j_seq ?_ | refine j_region ?_ | refine j_block ?_) | refine j_then ?_)
  refine j_loop (X := { q : Nat × Option Addr × Nat // q.1 ≤ 7 ∧ (¬ mayC m → q.1 = 0) }) (fun q => [(0, .int .i64 m), (3, .slice q.1.2.1 (((List.range q.1.1).filter (bitI m)).map (fun i : Nat => (i : Int))).length q.1.2.2), (4, .int .i64 (q.1.1 : Nat))]) (fun q => Sl 3 q.1.2.1 q.1.2.2 (((List.range q.1.1).filter (bitI m)).map (fun i : Nat => (i : Int))) :: (Lp ++ F)) (fun q => 7 - q.1.1) ⟨(0, some ⟨b0, 0, none⟩, 0), by omega, fun _ => rfl⟩ ⟨rfl, rfl, rfl, trivial⟩ .refl (fun q => ?_)
  obtain ⟨⟨i, a, c⟩, hi, hmi⟩ := q
  dsimp only at hi hmi ⊢
  repeat' (first | (show J _ _ _ (runS _ _ _ _ (⟨_, _, _, _, _, none⟩ :: _)); first | (show J _ _ _ (runS _ _ _ _ (⟨_, .move _, _, _, _, _⟩ :: _)); refine j_move rfl rfl ?_) | (show J _ _ _ (runS _ _ _ _ (⟨_, .binOp _ _ _ _ _, _, _, _, _⟩ :: _)); ((refine j_bin rfl rfl rfl rfl ?_))) | (show J _ _ _ (runS _ _ _ _ (⟨_, .assign _, _, _, _, _⟩ :: _)); refine j_assign rfl rfl ?_) | (show J _ _ _ (runS _ _ _ _ (⟨_, .pick _ _ _, _, _, _, _⟩ :: _)); ((refine j_pick_f rfl rfl rfl ?_)))) | refine j_nil ?_ | (show J _ _ _ (runS _ _ _ _ (⟨_, _, _, _, _, some _⟩ :: _)); first | refine j_gno_u rfl rfl rfl rfl ?_ | refine j_gyes rfl rfl rfl ?_ | refine j_gsplit_dec rfl rfl (fun h => ?_) (fun h => ?_)) | (show J _ _ _ (Code.wp _ _ _); first | refine j_seq ?_ | refine j_region ?_ | (show J _ _ _ (Code.wp _ (.cond _ _ _) _); (refine j_false rfl ?_)) | refine j_ret ?_ | refine j_exit ?_) | refine j_then ?_ | refine j_then_exit ?_ | refine j_inb_here ?_)
  · (refine j_call rfl rfl (rmay_spec m []) (.refl) rfl (fun v M N h hN => ?_); obtain ⟨rfl, rfl⟩ := h; (try simp only [List.nil_append, List.cons_append, List.append_assoc] at hN); subst hN)
    repeat' (first | (show J _ _ _ (runS _ _ _ _ (⟨_, _, _, _, _, none⟩ :: _)); first | (show J _ _ _ (runS _ _ _ _ (⟨_, .move _, _, _, _, _⟩ :: _)); refine j_move rfl rfl ?_) | (show J _ _ _ (runS _ _ _ _ (⟨_, .assign _, _, _, _, _⟩ :: _)); refine j_assign rfl rfl ?_) | (show J _ _ _ (runS _ _ _ _ (⟨_, .pick _ _ _, _, _, _, _⟩ :: _)); ((refine j_pick_t rfl rfl rfl ?_)))) | refine j_nil ?_ | (show J _ _ _ (Code.wp _ _ _); first | refine j_seq ?_ | refine j_region ?_ | refine j_block ?_ | (show J _ _ _ (Code.wp _ (.cond _ _ _) _); (refine j_dec rfl (fun h => ?_) (fun h => ?_))) | refine j_ret ?_ | refine j_skip ?_ | refine j_exit ?_) | refine j_then ?_ | refine j_then_exit ?_ | refine j_inb_here ?_)
    · have hm : mayC m := by assumption
      (refine j_call rfl rfl (rhas_spec m i (by omega) []) (.refl) rfl (fun v M N h hN => ?_); obtain ⟨rfl, rfl⟩ := h; (try simp only [List.nil_append, List.cons_append, List.append_assoc] at hN); subst hN)
      repeat' (first | (show J _ _ _ (runS _ _ _ _ (⟨_, _, _, _, _, none⟩ :: _)); first | (show J _ _ _ (runS _ _ _ _ (⟨_, .move _, _, _, _, _⟩ :: _)); refine j_move rfl rfl ?_) | (show J _ _ _ (runS _ _ _ _ (⟨_, .binOp _ _ _ _ _, _, _, _, _⟩ :: _)); ((refine j_add rfl rfl (by omega) rfl ?_))) | (show J _ _ _ (runS _ _ _ _ (⟨_, .assign _, _, _, _, _⟩ :: _)); refine j_assign rfl rfl ?_)) | refine j_nil ?_ | (show J _ _ _ (Code.wp _ _ _); first | refine j_region ?_ | (show J _ _ _ (Code.wp _ (.cond _ _ _) _); (refine j_bool rfl (fun h => ?_) (fun h => ?_))) | refine j_skip ?_) | refine j_then ?_ | refine j_inb ?_)
      · have hb : bitI m i = true := by assumption
        obtain ⟨ls, hls⟩ : ∃ ls, ls = ((List.range i).filter (bitI m)).map (fun i : Nat => (i : Int)) := ⟨_, rfl⟩
        have hst : ((List.range (i + 1)).filter (bitI m)).map (fun i : Nat => (i : Int)) = ls ++ [(i : Int)] := by
          rw [List.range_succ, List.filter_append, List.map_append, ← hls]
          simp [hb]
        have hlen : ls.length ≤ 7 := by
          rw [hls, List.length_map]
          exact Nat.le_trans (List.length_filter_le _ _) (by simp; omega)
        rw [← hls]
        refine j_lit1 (α := Int) rfl rfl (i : Int) rfl (by decide) rfl (fun bh => ?_)
        refine j_append (α := Int) (ls := ls) (ms := [(i : Int)]) rfl rfl rfl (fun _ _ => (by repeat constructor)) (M := [blk bh 3 [.int .i64 (i : Nat)]]) (by repeat ((exact .refl))) (sees_blk1 (i : Int)) rfl rfl (by unfold maxLen; simp; omega) (by simp; omega) rfl (fun a9 c9 _ => ?_)
        rw [← hst]
        repeat' (first | (show J _ _ _ (runS _ _ _ _ (⟨_, _, _, _, _, none⟩ :: _)); first | (show J _ _ _ (runS _ _ _ _ (⟨_, .move _, _, _, _, _⟩ :: _)); refine j_move rfl rfl ?_) | (show J _ _ _ (runS _ _ _ _ (⟨_, .binOp _ _ _ _ _, _, _, _, _⟩ :: _)); ((refine j_add rfl rfl (by omega) rfl ?_))) | (show J _ _ _ (runS _ _ _ _ (⟨_, .assign _, _, _, _, _⟩ :: _)); refine j_assign rfl rfl ?_)) | refine j_nil ?_ | (show J _ _ _ (Code.wp _ _ _); (refine j_region ?_)) | refine j_then ?_ | refine j_inb ?_)
        exact j_round ⟨(i + 1, a9, c9), by dsimp only; omega, fun k => absurd hm k⟩ (by dsimp only; omega) ⟨rfl, rfl, rfl, trivial⟩ (by repeat (first | exact .refl | apply Pk.cons | refine .drop ?_ | constructor))
      · have hb : bitI m i = false := by
          cases hb : bitI m i with
          | false => rfl
          | true => exact absurd hb (by (intro k; simp_all))
        have hst : (List.range i).filter (bitI m) = (List.range (i + 1)).filter (bitI m) := by
          rw [List.range_succ, List.filter_append]
          simp [hb]
        rw [hst]
        exact j_round ⟨(i + 1, a, c), by dsimp only; omega, fun k => absurd hm k⟩ (by dsimp only; omega) ⟨rfl, rfl, rfl, trivial⟩ (by repeat ((exact .refl)))
    · have hm : ¬ mayC m := by assumption
      have h0 := hmi hm
      subst h0
      have e : memC m = [] := by unfold memC; rw [if_neg hm]
      exact j_ret1 (M := Sl 3 a c ([] : List Int) :: Lp) rfl rfl .refl ⟨a, c, by rw [e]; rfl, by rw [e]⟩
  · have he : i = 7 := by omega
    subst he
    have hm : mayC m := Decidable.byContradiction fun k => absurd (hmi k) (by decide)
    have e : memC m = ((List.range 7).filter (bitI m)).map (fun i : Nat => (i : Int)) := by unfold memC; rw [if_pos hm]; rfl
    rw [← e]
    exact j_ret1 (M := Sl 3 a c (memC m) :: Lp) rfl rfl (by repeat ((exact .refl))) ⟨a, c, rfl, rfl⟩

theorem rnear_spec (a b : Int) (Lp : List HP) : Tr Try.prog 18 [.int .i64 a, .int .i64 b] Lp (fun v M => v = .bool (decide (nearC a b)) ∧ M = Lp) := by
  refine tr_enter Try.func18 rfl Try.ntmps18 rfl (fun F => ?_)
  repeat' (first | (show J _ _ _ (runS _ _ _ _ (⟨_, _, _, _, _, none⟩ :: _)); (show J _ _ _ (runS _ _ _ _ (⟨_, .assign _, _, _, _, _⟩ :: _)); refine j_assign rfl rfl ?_)) | refine j_nil ?_ | (show J _ _ _ (Code.wp _ _ _); first | refine j_seq ?_ | refine j_region ?_ | refine j_block ?_) | refine j_then ?_)
  refine j_loop (X := { i : Nat // i ≤ 7 }) (fun i => [(0, .int .i64 a), (1, .int .i64 b), (5, .int .i64 (cnt (fun i => Bool.xor (bitI a i) (bitI b i)) (List.range i.1) : Nat)), (6, .int .i64 (i.1 : Nat))]) (fun _ => Lp ++ F) (fun i => 7 - i.1) ⟨0, by omega⟩ ⟨rfl, rfl, rfl, rfl, trivial⟩ .refl (fun i => ?_)
  obtain ⟨i, hi⟩ := i
  have hc : cnt (fun i => Bool.xor (bitI a i) (bitI b i)) (List.range i) ≤ 7 := Nat.le_trans (List.length_filter_le _ _) (by simp; omega)
  have hs : cnt (fun i => Bool.xor (bitI a i) (bitI b i)) (List.range (i + 1)) = cnt (fun i => Bool.xor (bitI a i) (bitI b i)) (List.range i) + (Bool.xor (bitI a i) (bitI b i)).toNat := by
    unfold cnt
    rw [List.range_succ, List.filter_append, List.length_append]
    cases h : Bool.xor (bitI a i) (bitI b i) <;> simp [h]
  dsimp only
  repeat' (first | (show J _ _ _ (runS _ _ _ _ (⟨_, _, _, _, _, none⟩ :: _)); first | (show J _ _ _ (runS _ _ _ _ (⟨_, .move _, _, _, _, _⟩ :: _)); refine j_move rfl rfl ?_) | (show J _ _ _ (runS _ _ _ _ (⟨_, .binOp _ _ _ _ _, _, _, _, _⟩ :: _)); ((refine j_bin rfl rfl rfl rfl ?_)))) | refine j_nil ?_ | (show J _ _ _ (Code.wp _ _ _); first | refine j_seq ?_ | refine j_region ?_ | refine j_block ?_ | (show J _ _ _ (Code.wp _ (.cond _ _ _) _); (refine j_dec rfl (fun h => ?_) (fun h => ?_))) | refine j_skip ?_ | refine j_exit ?_) | refine j_then ?_ | refine j_then_exit ?_ | refine j_inb_here ?_)
  · (refine j_call rfl rfl (rhas_spec a i (by omega) []) (.refl) rfl (fun v M N h hN => ?_); obtain ⟨rfl, rfl⟩ := h; (try simp only [List.nil_append, List.cons_append, List.append_assoc] at hN); subst hN)
    repeat' ((show J _ _ _ (runS _ _ _ _ (⟨_, _, _, _, _, none⟩ :: _)); (show J _ _ _ (runS _ _ _ _ (⟨_, .move _, _, _, _, _⟩ :: _)); refine j_move rfl rfl ?_)))
    (refine j_call rfl rfl (rhas_spec b i (by omega) []) (.refl) rfl (fun v M N h hN => ?_); obtain ⟨rfl, rfl⟩ := h; (try simp only [List.nil_append, List.cons_append, List.append_assoc] at hN); subst hN)
    repeat' (first | (show J _ _ _ (runS _ _ _ _ (⟨_, _, _, _, _, none⟩ :: _)); first | (show J _ _ _ (runS _ _ _ _ (⟨_, .move _, _, _, _, _⟩ :: _)); refine j_move rfl rfl ?_) | (show J _ _ _ (runS _ _ _ _ (⟨_, .binOp _ _ _ _ _, _, _, _, _⟩ :: _)); (first | refine j_add rfl rfl (by omega) rfl ?_ | refine j_nebool rfl rfl rfl ?_)) | (show J _ _ _ (runS _ _ _ _ (⟨_, .assign _, _, _, _, _⟩ :: _)); refine j_assign rfl rfl ?_)) | refine j_nil ?_ | (show J _ _ _ (Code.wp _ _ _); first | refine j_region ?_ | (show J _ _ _ (Code.wp _ (.cond _ _ _) _); (refine j_dec rfl (fun h => ?_) (fun h => ?_))) | refine j_skip ?_) | refine j_then ?_ | refine j_inb ?_)
    · have e : ((cnt (fun i => Bool.xor (bitI a i) (bitI b i)) (List.range i) : Nat) : Int) + 1 = ((cnt (fun i => Bool.xor (bitI a i) (bitI b i)) (List.range (i + 1)) : Nat) : Int) := by
        rw [hs, show Bool.xor (bitI a i) (bitI b i) = true from by cases h1 : bitI a i <;> cases h2 : bitI b i <;> simp_all]
        rfl
      rw [e]
      exact j_round ⟨i + 1, by omega⟩ (by dsimp only; omega) ⟨rfl, rfl, rfl, rfl, trivial⟩ .refl
    · have e : cnt (fun i => Bool.xor (bitI a i) (bitI b i)) (List.range i) = cnt (fun i => Bool.xor (bitI a i) (bitI b i)) (List.range (i + 1)) := by
        rw [hs, show Bool.xor (bitI a i) (bitI b i) = false from by cases h1 : bitI a i <;> cases h2 : bitI b i <;> simp_all]
        rfl
      rw [e]
      exact j_round ⟨i + 1, by omega⟩ (by dsimp only; omega) ⟨rfl, rfl, rfl, rfl, trivial⟩ .refl
  · have he : i = 7 := by omega
    subst he
    (refine j_call rfl rfl (rmay_spec a []) (.refl) rfl (fun v M N h hN => ?_); obtain ⟨rfl, rfl⟩ := h; (try simp only [List.nil_append, List.cons_append, List.append_assoc] at hN); subst hN)
    repeat' (first | (show J _ _ _ (runS _ _ _ _ (⟨_, _, _, _, _, none⟩ :: _)); first | (show J _ _ _ (runS _ _ _ _ (⟨_, .move _, _, _, _, _⟩ :: _)); refine j_move rfl rfl ?_) | (show J _ _ _ (runS _ _ _ _ (⟨_, .assign _, _, _, _, _⟩ :: _)); refine j_assign rfl rfl ?_) | (show J _ _ _ (runS _ _ _ _ (⟨_, .pick _ _ _, _, _, _, _⟩ :: _)); ((refine j_pick_f rfl rfl rfl ?_)))) | refine j_nil ?_ | (show J _ _ _ (runS _ _ _ _ (⟨_, _, _, _, _, some _⟩ :: _)); first | refine j_gno_u rfl rfl rfl rfl ?_ | refine j_gyes rfl rfl rfl ?_ | refine j_gsplit_dec rfl rfl (fun h => ?_) (fun h => ?_)) | (show J _ _ _ (Code.wp _ _ _); (refine j_ret ?_)) | refine j_then ?_)
    · (refine j_call rfl rfl (rmay_spec b []) (.refl) rfl (fun v M N h hN => ?_); obtain ⟨rfl, rfl⟩ := h; (try simp only [List.nil_append, List.cons_append, List.append_assoc] at hN); subst hN)
      repeat' (first | (show J _ _ _ (runS _ _ _ _ (⟨_, _, _, _, _, none⟩ :: _)); first | (show J _ _ _ (runS _ _ _ _ (⟨_, .move _, _, _, _, _⟩ :: _)); refine j_move rfl rfl ?_) | (show J _ _ _ (runS _ _ _ _ (⟨_, .binOp _ _ _ _ _, _, _, _, _⟩ :: _)); ((refine j_bin rfl rfl rfl rfl ?_))) | (show J _ _ _ (runS _ _ _ _ (⟨_, .assign _, _, _, _, _⟩ :: _)); refine j_assign rfl rfl ?_) | (show J _ _ _ (runS _ _ _ _ (⟨_, .pick _ _ _, _, _, _, _⟩ :: _)); (first | refine j_pick_t rfl rfl rfl ?_ | refine j_pick_f rfl rfl rfl ?_))) | refine j_nil ?_ | (show J _ _ _ (runS _ _ _ _ (⟨_, _, _, _, _, some _⟩ :: _)); first | refine j_gno_u rfl rfl rfl rfl ?_ | refine j_gyes rfl rfl rfl ?_ | refine j_gsplit_dec rfl rfl (fun h => ?_) (fun h => ?_)) | (show J _ _ _ (Code.wp _ _ _); (refine j_ret ?_)) | refine j_then ?_)
      · refine j_ret1 (M := Lp) rfl rfl (by repeat ((exact .refl))) ⟨congrArg Value.bool (decide_eq_decide.2 ⟨fun h => (nearC_iff a b).2 ⟨⟨by assumption, by assumption⟩, by omega⟩, fun h => by have := ((nearC_iff a b).1 h).2; omega⟩), rfl⟩
      · refine j_ret1 (M := Lp) rfl rfl (by repeat ((exact .refl))) ⟨congrArg Value.bool (decide_eq_false (fun hn : nearC a b => absurd hn.1.1.2 (by assumption))).symm, rfl⟩
    · refine j_ret1 (M := Lp) rfl rfl (by repeat ((exact .refl))) ⟨congrArg Value.bool (decide_eq_false (fun hn : nearC a b => absurd hn.1.1.1 (by assumption))).symm, rfl⟩

theorem memC_cnt {m : Int} (hm : mayC m) (p : Nat → Bool) : (memC m).countP (fun x => p x.toNat) = cnt (fun i => bitI m i && p i) (List.range 7) := by
  unfold memC memN cnt
  rw [if_pos hm, List.countP_map, List.countP_eq_length_filter, List.filter_filter]
  congr 1
  refine List.filter_congr fun i _ => ?_
  simp [Bool.and_comm]
theorem countP_take_succ {α : Type} {p : α → Bool} {l : List α} {i : Nat} (h : i < l.length) : (l.take (i + 1)).countP p = (l.take i).countP p + (p l[i]).toNat := by
  rw [List.take_add_one, List.getElem?_eq_getElem h, Option.toList, List.countP_append]
  cases hp : p l[i] <;> simp [hp]
theorem rmost_spec (m v : Int) (Lp : List HP) : Tr Try.prog 16 [.int .i64 m, .int .i64 v] Lp (fun r M => r = .bool (decide (mostC m v)) ∧ M = Lp) := by
  refine tr_enter Try.func16 rfl Try.ntmps16 rfl (fun F => ?_)
  repeat' (first | (show J _ _ _ (runS _ _ _ _ (⟨_, _, _, _, _, none⟩ :: _)); first | (show J _ _ _ (runS _ _ _ _ (⟨_, .move _, _, _, _, _⟩ :: _)); refine j_move rfl rfl ?_) | (show J _ _ _ (runS _ _ _ _ (⟨_, .assign _, _, _, _, _⟩ :: _)); refine j_assign rfl rfl ?_)) | refine j_nil ?_ | (show J _ _ _ (Code.wp _ _ _); first | refine j_seq ?_ | refine j_region ?_) | refine j_then ?_)
  (refine j_call rfl rfl (rlist_spec m Lp) ((by repeat ((exact .refl)))) rfl (fun v M N h hN => ?_); obtain ⟨a1, c1, rfl, rfl⟩ := h; (try simp only [List.nil_append, List.cons_append, List.append_assoc] at hN); subst hN)
  have hl7 := memC_len m
  repeat' (first | (show J _ _ _ (runS _ _ _ _ (⟨_, _, _, _, _, none⟩ :: _)); (show J _ _ _ (runS _ _ _ _ (⟨_, .assign _, _, _, _, _⟩ :: _)); refine j_assign rfl rfl ?_)) | refine j_nil ?_ | (show J _ _ _ (Code.wp _ _ _); first | refine j_seq ?_ | refine j_region ?_ | refine j_block ?_) | refine j_then ?_)
  refine j_loop (X := { i : Nat // i ≤ (memC m).length }) (fun i => [(0, .int .i64 m), (1, .int .i64 v), (5, .slice a1 (memC m).length c1), (6, .int .i64 (((memC m).take i.1).countP (fun x => bitI v x.toNat) : Nat)), (7, .int .i64 (i.1 : Nat))]) (fun _ => Sl 3 a1 c1 (memC m) :: (Lp ++ F)) (fun i => (memC m).length - i.1) ⟨0, by omega⟩ ⟨rfl, rfl, rfl, rfl, rfl, trivial⟩ .refl (fun i => ?_)
  obtain ⟨i, hi⟩ := i
  have hc : ((memC m).take i).countP (fun x => bitI v x.toNat) ≤ 7 := Nat.le_trans List.countP_le_length (by rw [List.length_take]; omega)
  dsimp only
  repeat' (first | (show J _ _ _ (runS _ _ _ _ (⟨_, _, _, _, _, none⟩ :: _)); first | (show J _ _ _ (runS _ _ _ _ (⟨_, .move _, _, _, _, _⟩ :: _)); refine j_move rfl rfl ?_) | (show J _ _ _ (runS _ _ _ _ (⟨_, .binOp _ _ _ _ _, _, _, _, _⟩ :: _)); ((refine j_bin rfl rfl rfl rfl ?_))) | (show J _ _ _ (runS _ _ _ _ (⟨_, .call ⟨.builtin .len, _, _⟩, _, _, _, _⟩ :: _)); ((refine j_len rfl rfl ?_)))) | refine j_nil ?_ | (show J _ _ _ (Code.wp _ _ _); first | refine j_seq ?_ | refine j_region ?_ | refine j_block ?_ | (show J _ _ _ (Code.wp _ (.cond _ _ _) _); (refine j_dec rfl (fun h => ?_) (fun h => ?_))) | refine j_skip ?_ | refine j_exit ?_) | refine j_then ?_ | refine j_then_exit ?_ | refine j_inb_here ?_)
  · have hi2 : i < (memC m).length := by omega
    refine j_idx (α := Int) (M := [Sl 3 a1 c1 (memC m)]) rfl rfl (by repeat ((exact .refl))) sees_sl rfl i rfl hi2 rfl (fun b3 o3 ha3 hc3 => ?_)
    refine j_loadv (M := [Sl 3 a1 c1 (memC m)]) (v := .int .i64 (memC m)[i]) rfl rfl (by repeat ((exact .refl))) (hc3 0 _ rfl) rfl ?_
    have hs := countP_take_succ (p := fun x => bitI v x.toNat) hi2
    have hx7 := memC_lt (m := m) (i := (memC m)[i]) (List.getElem_mem hi2)
    obtain ⟨x, hx⟩ : ∃ x : Nat, (memC m)[i] = x := ⟨(memC m)[i].toNat, by omega⟩
    rw [hx] at hs hx7 ⊢
    (refine j_call rfl rfl (rhas_spec v x (by omega) []) (.refl) rfl (fun v M N h hN => ?_); obtain ⟨rfl, rfl⟩ := h; (try simp only [List.nil_append, List.cons_append, List.append_assoc] at hN); subst hN)
    repeat' (first | (show J _ _ _ (runS _ _ _ _ (⟨_, _, _, _, _, none⟩ :: _)); first | (show J _ _ _ (runS _ _ _ _ (⟨_, .move _, _, _, _, _⟩ :: _)); refine j_move rfl rfl ?_) | (show J _ _ _ (runS _ _ _ _ (⟨_, .binOp _ _ _ _ _, _, _, _, _⟩ :: _)); ((refine j_add rfl rfl (by omega) rfl ?_))) | (show J _ _ _ (runS _ _ _ _ (⟨_, .assign _, _, _, _, _⟩ :: _)); refine j_assign rfl rfl ?_)) | refine j_nil ?_ | (show J _ _ _ (Code.wp _ _ _); first | refine j_region ?_ | (show J _ _ _ (Code.wp _ (.cond _ _ _) _); (refine j_bool rfl (fun h => ?_) (fun h => ?_))) | refine j_skip ?_) | refine j_then ?_ | refine j_inb ?_)
    · have e : ((((memC m).take i).countP (fun x => bitI v x.toNat) : Nat) : Int) + 1 = ((((memC m).take (i + 1)).countP (fun x => bitI v x.toNat) : Nat) : Int) := by
        rw [hs, Int.toNat_natCast, show bitI v x = true from by assumption]
        rfl
      rw [e]
      exact j_round ⟨i + 1, by omega⟩ (by dsimp only; omega) ⟨rfl, rfl, rfl, rfl, rfl, trivial⟩ .refl
    · have hb : bitI v x = false := by
        cases hb : bitI v x with
        | false => rfl
        | true => exact absurd hb (by (intro k; simp_all))
      have e : ((memC m).take i).countP (fun x => bitI v x.toNat) = ((memC m).take (i + 1)).countP (fun x => bitI v x.toNat) := by
        rw [hs, Int.toNat_natCast, hb]
        rfl
      rw [e]
      exact j_round ⟨i + 1, by omega⟩ (by dsimp only; omega) ⟨rfl, rfl, rfl, rfl, rfl, trivial⟩ .refl
  · have he : i = (memC m).length := by omega
    subst he
    rw [List.take_length] at hc ⊢
    (refine j_call rfl rfl (rmay_spec m []) (.refl) rfl (fun v M N h hN => ?_); obtain ⟨rfl, rfl⟩ := h; (try simp only [List.nil_append, List.cons_append, List.append_assoc] at hN); subst hN)
    repeat' (first | (show J _ _ _ (runS _ _ _ _ (⟨_, _, _, _, _, none⟩ :: _)); first | (show J _ _ _ (runS _ _ _ _ (⟨_, .move _, _, _, _, _⟩ :: _)); refine j_move rfl rfl ?_) | (show J _ _ _ (runS _ _ _ _ (⟨_, .binOp _ _ _ _ _, _, _, _, _⟩ :: _)); (first | refine j_sub_ rfl rfl (by omega) rfl ?_ | refine j_bin rfl rfl rfl rfl ?_)) | (show J _ _ _ (runS _ _ _ _ (⟨_, .assign _, _, _, _, _⟩ :: _)); refine j_assign rfl rfl ?_) | (show J _ _ _ (runS _ _ _ _ (⟨_, .pick _ _ _, _, _, _, _⟩ :: _)); (first | refine j_pick_t rfl rfl rfl ?_ | refine j_pick_f rfl rfl rfl ?_)) | (show J _ _ _ (runS _ _ _ _ (⟨_, .call ⟨.builtin .len, _, _⟩, _, _, _, _⟩ :: _)); ((refine j_len rfl rfl ?_)))) | refine j_nil ?_ | (show J _ _ _ (runS _ _ _ _ (⟨_, _, _, _, _, some _⟩ :: _)); first | refine j_gno_u rfl rfl rfl rfl ?_ | refine j_gyes rfl rfl rfl ?_ | refine j_gsplit_dec rfl rfl (fun h => ?_) (fun h => ?_)) | (show J _ _ _ (Code.wp _ _ _); (refine j_ret ?_)) | refine j_then ?_)
    · have hm : mayC m := by assumption
      have hk := memC_cnt hm (bitI v)
      have hl := lenC (m := m) (by have := hm.1; omega) hm.2
      refine j_ret1 (M := Lp) rfl rfl (by repeat (first | exact .refl | refine .drop ?_)) ⟨congrArg Value.bool (decide_eq_decide.2 ⟨fun h => (mostC_iff m v).2 ⟨hm, by omega⟩, fun h => by have := ((mostC_iff m v).1 h).2; omega⟩), rfl⟩
    · refine j_ret1 (M := Lp) rfl rfl (by repeat (first | exact .refl | refine .drop ?_)) ⟨congrArg Value.bool (decide_eq_false (fun hn : mostC m v => absurd hn.1 (by assumption))).symm, rfl⟩
theorem rsame_spec (ls : List Int) (hl : ls.length ≤ 1000) (a1 a2 : Option Addr) (c1 c2 : Nat) (Lp : List HP) (h1 : Sees Lp (fun w => Vw w a1 ls)) (h2 : Sees Lp (fun w => Vw w a2 ls)) : Tr Try.prog 12 [.slice a1 ls.length c1, .slice a2 ls.length c2] Lp (fun r M => r = .bool true ∧ M = Lp) := by
  refine tr_enter Try.func12 rfl Try.ntmps12 rfl (fun F => ?_)
  repeat' (first | (show J _ _ _ (runS _ _ _ _ (⟨_, _, _, _, _, none⟩ :: _)); first | (show J _ _ _ (runS _ _ _ _ (⟨_, .move _, _, _, _, _⟩ :: _)); refine j_move rfl rfl ?_) | (show J _ _ _ (runS _ _ _ _ (⟨_, .binOp _ _ _ _ _, _, _, _, _⟩ :: _)); ((refine j_bin rfl rfl rfl rfl ?_))) | (show J _ _ _ (runS _ _ _ _ (⟨_, .assign _, _, _, _, _⟩ :: _)); refine j_assign rfl rfl ?_) | (show J _ _ _ (runS _ _ _ _ (⟨_, .call ⟨.builtin .len, _, _⟩, _, _, _, _⟩ :: _)); ((refine j_len rfl rfl ?_)))) | refine j_nil ?_ | (show J _ _ _ (Code.wp _ _ _); first | refine j_seq ?_ | refine j_region ?_ | refine j_block ?_ | (show J _ _ _ (Code.wp _ (.cond _ _ _) _); (refine j_dec rfl (fun h => ?_) (fun h => ?_))) | refine j_ret ?_ | refine j_skip ?_) | refine j_then ?_ | refine j_then_ret ?_)
  · exact absurd rfl h
  refine j_loop (X := { i : Nat // i ≤ ls.length }) (fun i => [(0, .slice a1 ls.length c1), (1, .slice a2 ls.length c2), (12, .int .i64 (ls.length : Nat)), (13, .int .i64 (i.1 : Nat))]) (fun _ => Lp ++ F) (fun i => ls.length - i.1) ⟨0, by omega⟩ ⟨rfl, rfl, rfl, rfl, trivial⟩ .refl (fun i => ?_)
  obtain ⟨i, hi⟩ := i
  dsimp only
  repeat' (first | (show J _ _ _ (runS _ _ _ _ (⟨_, _, _, _, _, none⟩ :: _)); first | (show J _ _ _ (runS _ _ _ _ (⟨_, .move _, _, _, _, _⟩ :: _)); refine j_move rfl rfl ?_) | (show J _ _ _ (runS _ _ _ _ (⟨_, .binOp _ _ _ _ _, _, _, _, _⟩ :: _)); ((refine j_bin rfl rfl rfl rfl ?_))) | (show J _ _ _ (runS _ _ _ _ (⟨_, .assign _, _, _, _, _⟩ :: _)); refine j_assign rfl rfl ?_)) | refine j_nil ?_ | (show J _ _ _ (Code.wp _ _ _); first | refine j_seq ?_ | refine j_region ?_ | refine j_block ?_ | (show J _ _ _ (Code.wp _ (.cond _ _ _) _); (refine j_dec rfl (fun h => ?_) (fun h => ?_))) | refine j_ret ?_ | refine j_skip ?_ | refine j_exit ?_ | refine j_draw (by decide +kernel) ?_) | refine j_then ?_ | refine j_then_exit ?_ | refine j_inb_here ?_)
  · have hi2 : i < ls.length := by omega
    refine j_idx (α := Int) (M := Lp) rfl rfl (by repeat ((exact .refl))) h1 rfl i rfl hi2 rfl (fun b3 o3 ha3 hc3 => ?_)
    refine j_loadv (M := Lp) (v := .int .i64 ls[i]) rfl rfl (by repeat ((exact .refl))) (hc3 0 _ rfl) rfl ?_
    repeat' ((show J _ _ _ (runS _ _ _ _ (⟨_, _, _, _, _, none⟩ :: _)); (show J _ _ _ (runS _ _ _ _ (⟨_, .move _, _, _, _, _⟩ :: _)); refine j_move rfl rfl ?_)))
    refine j_idx (α := Int) (M := Lp) rfl rfl (by repeat ((exact .refl))) h2 rfl i rfl hi2 rfl (fun b3 o3 ha3 hc3 => ?_)
    refine j_loadv (M := Lp) (v := .int .i64 ls[i]) rfl rfl (by repeat ((exact .refl))) (hc3 0 _ rfl) rfl ?_
    repeat' (first | (show J _ _ _ (runS _ _ _ _ (⟨_, _, _, _, _, none⟩ :: _)); first | (show J _ _ _ (runS _ _ _ _ (⟨_, .move _, _, _, _, _⟩ :: _)); refine j_move rfl rfl ?_) | (show J _ _ _ (runS _ _ _ _ (⟨_, .binOp _ _ _ _ _, _, _, _, _⟩ :: _)); (first | refine j_add rfl rfl (by omega) rfl ?_ | refine j_bin rfl rfl rfl rfl ?_)) | (show J _ _ _ (runS _ _ _ _ (⟨_, .assign _, _, _, _, _⟩ :: _)); refine j_assign rfl rfl ?_)) | refine j_nil ?_ | (show J _ _ _ (Code.wp _ _ _); first | refine j_seq ?_ | refine j_region ?_ | (show J _ _ _ (Code.wp _ (.cond _ _ _) _); (refine j_dec rfl (fun h => ?_) (fun h => ?_))) | refine j_ret ?_ | refine j_skip ?_) | refine j_then ?_ | refine j_then_ret ?_ | refine j_inb ?_ | refine j_inb_ret ?_)
    · exact absurd rfl (by assumption)
    · exact j_round ⟨i + 1, by omega⟩ (by dsimp only; omega) ⟨rfl, rfl, rfl, rfl, trivial⟩ .refl
  · exact j_ret1 (M := Lp) rfl rfl (by repeat ((exact .refl))) ⟨rfl, rfl⟩
end Go.Proofs.Ytnmfpgfgjjmfhaa
