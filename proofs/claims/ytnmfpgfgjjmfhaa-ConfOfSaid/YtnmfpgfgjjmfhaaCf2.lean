/- conf: members. -/
import Derived.Test.YtnmfpgfgjjmfhaaCf1
set_option linter.unusedVariables false
set_option linter.unusedSimpArgs false
set_option maxRecDepth 100000
namespace Go.Proofs.Ytnmfpgfgjjmfhaa
open Go
attribute [local irreducible] Exit.then Exit.inBlock Code.wp runS bodyPost postF J runT cutQ cutR Tr Sat blk Sl Old Star Ex Pu

def bitI (m : Int) (i : Nat) : Bool := (BitVec.ofInt 64 m).getLsbD i
def mayC (m : Int) : Prop := 0 < m ∧ m < 128
instance (m : Int) : Decidable (mayC m) := inferInstanceAs (Decidable (_ ∧ _))
def memN (m : Int) : List Nat := (List.range 7).filter (bitI m)
def memC (m : Int) : List Int := if mayC m then (memN m).map (fun i : Nat => (i : Int)) else []
theorem bitI_nat {k i : Nat} (hk : k < 2 ^ 64) (hi : i < 64) : bitI (k : Int) i = k.testBit i := by
  unfold bitI
  have e : BitVec.ofInt 64 (k : Int) = BitVec.ofNat 64 k := by
    apply BitVec.eq_of_toNat_eq
    simp [BitVec.toNat_ofInt]
  rw [e, BitVec.getLsbD_ofNat]
  simp [hi]
theorem and_one (x : Nat) (hx : x < 9223372036854775808) : IntKind.i64.wrap ((BitVec.ofInt IntKind.i64.bits (x : Int) &&& BitVec.ofInt IntKind.i64.bits (1 : Int)).toNat : Int) = ((x % 2 : Nat) : Int) := by
  have e2 : (BitVec.ofInt IntKind.i64.bits (x : Int) &&& BitVec.ofInt IntKind.i64.bits (1 : Int)).toNat = x % 2 := by
    rw [BitVec.toNat_and]
    show (BitVec.ofInt 64 (x : Int)).toNat &&& (BitVec.ofInt 64 (1 : Int)).toNat = _
    have a1 : (BitVec.ofInt 64 (x : Int)).toNat = x := by simp only [BitVec.toNat_ofInt]; omega
    have a2 : (BitVec.ofInt 64 (1 : Int)).toNat = 1 := by decide
    rw [a1, a2, Nat.and_one_is_mod]
  rw [e2, wrap64_id (by omega)]
theorem shr_nat (k i : Nat) (hi : i < 64) : (k : Int).fdiv (2 ^ (min (i : Int).toNat IntKind.i64.bits)) = ((k / 2 ^ i : Nat) : Int) := by
  have e : min (i : Int).toNat IntKind.i64.bits = i := by
    have : IntKind.i64.bits = 64 := rfl
    rw [this, Int.toNat_natCast]; omega
  rw [e, show (2 : Int) ^ i = ((2 ^ i : Nat) : Int) from by simp, Int.fdiv_eq_ediv_of_nonneg _ (Int.natCast_nonneg _)]
  rfl
theorem bit_walk (k i : Nat) (hk : k < 128) (hi : i < 7) : IntKind.i64.wrap ((BitVec.ofInt IntKind.i64.bits ((k : Int).fdiv (2 ^ (min (i : Int).toNat IntKind.i64.bits))) &&& BitVec.ofInt IntKind.i64.bits (1 : Int)).toNat : Int) = 1 ↔ bitI (k : Int) i = true := by
  rw [shr_nat k i (by omega), and_one _ (by have := Nat.div_le_self k (2 ^ i); omega), bitI_nat (by omega) (by omega), Nat.testBit_eq_decide_div_mod_eq, decide_eq_true_eq]
  omega

theorem cmay_spec (m : Int) (Lp : List HP) : Tr Try.prog 10 [.int .i64 m] Lp (fun v M => v = .bool (decide (mayC m)) ∧ M = Lp) := by
  refine tr_enter Try.func10 rfl Try.ntmps10 rfl (fun F => ?_)
  repeat' (first | (show J _ _ _ (runS _ _ _ _ (⟨_, _, _, _, _, none⟩ :: _)); first | (show J _ _ _ (runS _ _ _ _ (⟨_, .move _, _, _, _, _⟩ :: _)); refine j_move rfl rfl ?_) | (show J _ _ _ (runS _ _ _ _ (⟨_, .binOp _ _ _ _ _, _, _, _, _⟩ :: _)); ((refine j_bin rfl rfl rfl rfl ?_))) | (show J _ _ _ (runS _ _ _ _ (⟨_, .assign _, _, _, _, _⟩ :: _)); refine j_assign rfl rfl ?_) | (show J _ _ _ (runS _ _ _ _ (⟨_, .pick _ _ _, _, _, _, _⟩ :: _)); (first | refine j_pick_t rfl rfl rfl ?_ | refine j_pick_f rfl rfl rfl ?_))) | refine j_nil ?_ | (show J _ _ _ (runS _ _ _ _ (⟨_, _, _, _, _, some _⟩ :: _)); first | refine j_gno_u rfl rfl rfl rfl ?_ | refine j_gyes rfl rfl rfl ?_ | refine j_gsplit_dec rfl rfl (fun h => ?_) (fun h => ?_)) | (show J _ _ _ (Code.wp _ _ _); first | refine j_seq ?_ | refine j_region ?_ | refine j_ret ?_) | refine j_then ?_)
  · have h' : 0 < m := h
    exact j_ret1 (M := Lp) rfl rfl .refl ⟨by simp [mayC, h'], rfl⟩
  · have h' : ¬ 0 < m := h
    exact j_ret1 (M := Lp) rfl rfl .refl ⟨by simp [mayC, h'], rfl⟩

theorem clist_spec (m : Int) (Lp : List HP) : Tr Try.prog 13 [.int .i64 m] Lp (fun v M => ∃ a c, v = .slice a (memC m).length c ∧ M = Sl 3 a c (memC m) :: Lp) := by
  refine tr_enter Try.func13 rfl Try.ntmps13 rfl (fun F => ?_)
  repeat' (first | (show J _ _ _ (runS _ _ _ _ (⟨_, _, _, _, _, none⟩ :: _)); first | (show J _ _ _ (runS _ _ _ _ (⟨_, .move _, _, _, _, _⟩ :: _)); refine j_move rfl rfl ?_) | (show J _ _ _ (runS _ _ _ _ (⟨_, .assign _, _, _, _, _⟩ :: _)); refine j_assign rfl rfl ?_)) | refine j_nil ?_ | (show J _ _ _ (Code.wp _ _ _); first | refine j_seq ?_ | refine j_region ?_) | refine j_then ?_)
  (refine j_call rfl rfl (cmay_spec m []) (.refl) rfl (fun v M N h hN => ?_); obtain ⟨rfl, rfl⟩ := h; (try simp only [List.nil_append, List.cons_append, List.append_assoc] at hN); subst hN)
  repeat' (first | (show J _ _ _ (runS _ _ _ _ (⟨_, _, _, _, _, none⟩ :: _)); first | (show J _ _ _ (runS _ _ _ _ (⟨_, .move _, _, _, _, _⟩ :: _)); refine j_move rfl rfl ?_) | (show J _ _ _ (runS _ _ _ _ (⟨_, .assign _, _, _, _, _⟩ :: _)); refine j_assign rfl rfl ?_) | (show J _ _ _ (runS _ _ _ _ (⟨_, .unOp _ _ _, _, _, _, _⟩ :: _)); ((refine j_not rfl rfl ?_)))) | refine j_nil ?_ | (show J _ _ _ (Code.wp _ _ _); first | refine j_seq ?_ | refine j_region ?_ | refine j_block ?_ | (show J _ _ _ (Code.wp _ (.cond _ _ _) _); (refine j_dec rfl (fun h => ?_) (fun h => ?_))) | refine j_ret ?_ | refine j_skip ?_) | refine j_then ?_ | refine j_then_ret ?_)
  · refine j_sl0 (α := Int) 3 none ?_
    have e : memC m = [] := by unfold memC; rw [if_neg h]
    exact j_ret1 (M := Sl 3 none 0 ([] : List Int) :: Lp) rfl rfl .refl ⟨none, 0, by rw [e]; rfl, by rw [e]⟩
  · have hm : mayC m := Decidable.not_not.1 h
    obtain ⟨k, rfl⟩ : ∃ k : Nat, m = k := ⟨m.toNat, by have := hm.1; omega⟩
    have hk : k < 128 := by have := hm.2; omega
    refine j_sl0 (α := Int) 3 none ?_
    refine j_loop (X := { q : Nat × Option Addr × Nat // q.1 ≤ 7 }) (fun q => [(0, .int .i64 (k : Nat)), (3, .slice q.1.2.1 (((List.range q.1.1).filter (bitI (k : Nat))).map (fun i : Nat => (i : Int))).length q.1.2.2), (8, .int .i64 (q.1.1 : Nat))]) (fun q => Sl 3 q.1.2.1 q.1.2.2 (((List.range q.1.1).filter (bitI (k : Nat))).map (fun i : Nat => (i : Int))) :: (Lp ++ F)) (fun q => 7 - q.1.1) ⟨(0, none, 0), by omega⟩ ⟨rfl, rfl, rfl, trivial⟩ .refl (fun q => ?_)
    obtain ⟨⟨i, a, c⟩, hi⟩ := q
    dsimp only at hi ⊢
    repeat' (first | (show J _ _ _ (runS _ _ _ _ (⟨_, _, _, _, _, none⟩ :: _)); first | (show J _ _ _ (runS _ _ _ _ (⟨_, .move _, _, _, _, _⟩ :: _)); refine j_move rfl rfl ?_) | (show J _ _ _ (runS _ _ _ _ (⟨_, .binOp _ _ _ _ _, _, _, _, _⟩ :: _)); (first | refine j_add rfl rfl (by omega) rfl ?_ | refine j_bin rfl rfl rfl rfl ?_ | refine j_shr rfl rfl (by omega) rfl ?_)) | (show J _ _ _ (runS _ _ _ _ (⟨_, .assign _, _, _, _, _⟩ :: _)); refine j_assign rfl rfl ?_)) | refine j_nil ?_ | (show J _ _ _ (Code.wp _ _ _); first | refine j_seq ?_ | refine j_region ?_ | refine j_block ?_ | (show J _ _ _ (Code.wp _ (.cond _ _ _) _); (refine j_dec rfl (fun h => ?_) (fun h => ?_))) | refine j_ret ?_ | refine j_skip ?_ | refine j_exit ?_) | refine j_then ?_ | refine j_then_exit ?_ | refine j_inb ?_ | refine j_inb_here ?_)
    · have hi7 : i < 7 := by omega
      have hb := (bit_walk k i hk hi7).1 (by assumption)
      obtain ⟨ls, hls⟩ : ∃ ls, ls = ((List.range i).filter (bitI (k : Nat))).map (fun i : Nat => (i : Int)) := ⟨_, rfl⟩
      have hst : ((List.range (i + 1)).filter (bitI (k : Nat))).map (fun i : Nat => (i : Int)) = ls ++ [(i : Int)] := by
        rw [List.range_succ, List.filter_append, List.map_append, ← hls]
        simp [hb]
      have hlen : ls.length ≤ 7 := by
        rw [hls, List.length_map]
        exact Nat.le_trans (List.length_filter_le _ _) (by simp; omega)
      rw [← hls]
      refine j_lit1 (α := Int) rfl rfl (i : Int) rfl (by decide) rfl (fun bh => ?_)
      refine j_append (α := Int) (ls := ls) (ms := [(i : Int)]) rfl rfl rfl (fun _ _ => (by repeat constructor)) (M := [blk bh 3 [.int .i64 (i : Nat)]]) (by repeat ((exact .refl))) (sees_blk1 (i : Int)) rfl rfl (by unfold maxLen; simp; omega) (by simp; omega) rfl (fun a9 c9 _ => ?_)
      rw [← hst]
      repeat' (first | (show J _ _ _ (runS _ _ _ _ (⟨_, _, _, _, _, none⟩ :: _)); first | (show J _ _ _ (runS _ _ _ _ (⟨_, .move _, _, _, _, _⟩ :: _)); refine j_move rfl rfl ?_) | (show J _ _ _ (runS _ _ _ _ (⟨_, .binOp _ _ _ _ _, _, _, _, _⟩ :: _)); ((refine j_add rfl rfl (by omega) rfl ?_))) | (show J _ _ _ (runS _ _ _ _ (⟨_, .assign _, _, _, _, _⟩ :: _)); refine j_assign rfl rfl ?_)) | refine j_nil ?_ | (show J _ _ _ (Code.wp _ _ _); (refine j_region ?_)) | refine j_then ?_ | refine j_inb ?_)
      exact j_round ⟨(i + 1, a9, c9), by dsimp only; omega⟩ (by dsimp only; omega) ⟨rfl, rfl, rfl, trivial⟩ (by repeat (first | exact .refl | apply Pk.cons | refine .drop ?_ | constructor))
    · have hi7 : i < 7 := by omega
      have hb : bitI (k : Nat) i = false := by
        cases hb : bitI (k : Nat) i with
        | false => rfl
        | true => exact absurd ((bit_walk k i hk hi7).2 hb) (by assumption)
      have hst : (List.range i).filter (bitI (k : Nat)) = (List.range (i + 1)).filter (bitI (k : Nat)) := by
        rw [List.range_succ, List.filter_append]
        simp [hb]
      rw [hst]
      exact j_round ⟨(i + 1, a, c), by dsimp only; omega⟩ (by dsimp only; omega) ⟨rfl, rfl, rfl, trivial⟩ (by repeat ((exact .refl)))
    · have he : i = 7 := by omega
      subst he
      have e : memC (k : Nat) = ((List.range 7).filter (bitI (k : Nat))).map (fun i : Nat => (i : Int)) := by unfold memC; rw [if_pos hm]; rfl
      rw [← e]
      exact j_ret1 (M := Sl 3 a c (memC (k : Nat)) :: Lp) rfl rfl (by repeat ((exact .refl))) ⟨a, c, rfl, rfl⟩
end Go.Proofs.Ytnmfpgfgjjmfhaa
