/- Counts, as package wire writes them. -/
import Derived.Test.YtnmfpgfgjjmfhaaSu
import Derived.Test.YtnmfpgfgjjmfhaaTy
set_option linter.unusedVariables false
set_option linter.unusedSimpArgs false
set_option maxRecDepth 100000
namespace Go.Proofs.Ytnmfpgfgjjmfhaa
open Go
attribute [local irreducible] Exit.then Exit.inBlock Code.wp runS bodyPost postF J runT cutQ cutR Tr Sat blk Sl Old Star Ex Pu

theorem wrap_u8n (n : Nat) : IntKind.u8.wrap (n : Int) = (((UInt8.ofNat n).toNat : Nat) : Int) := by
  have : IntKind.u8.wrap (n : Int) = ((n % 256 : Nat) : Int) := by
    unfold IntKind.wrap
    simp [IntKind.signed, IntKind.bits]
  rw [this]
  simp
theorem shr8 (n : Nat) : ((n : Nat) : Int).fdiv (2 ^ (min (8 : Int).toNat IntKind.u64.bits)) = ((n / 256 : Nat) : Int) := by
  have : (2 : Int) ^ (min (8 : Int).toNat IntKind.u64.bits) = ((256 : Nat) : Int) := by decide
  rw [this, Int.fdiv_eq_ediv_of_nonneg _ (by omega)]
  omega

/-- a number's bytes, the lowest first -/
def digs : Nat → Nat → List UInt8
  | 0, _ => []
  | f + 1, n => if n = 0 then [] else UInt8.ofNat n :: digs f (n / 256)
theorem digs_len : ∀ (f n : Nat), (digs f n).length ≤ f
  | 0, _ => Nat.le_refl _
  | f + 1, n => by
    rw [digs]
    split
    · simp
    · have := digs_len f (n / 256)
      simp; omega
theorem digs_zero (f : Nat) : digs f 0 = [] := by cases f <;> rfl
/-- a count's bytes -/
def cntB (n : Nat) : List UInt8 := UInt8.ofNat (digs 8 n).length :: (digs 8 n).reverse
theorem cntB_len (n : Nat) : (cntB n).length ≤ 9 := by
  unfold cntB
  have := digs_len 8 n
  simp; omega

theorem wcount_spec (a : Option Addr) (c : Nat) (ls : List UInt8) (n : Nat) (hn : n < 18446744073709551616) (hb : ls.length ≤ 100000000) : Tr Try.prog 80 [.slice a ls.length c, .int .u64 (n : Nat)] [Sl 5 a c ls] (fun v M => ∃ a' c', v = .slice a' (ls ++ cntB n).length c' ∧ M = [Sl 5 a' c' (ls ++ cntB n)]) := by
  refine tr_enter Try.func80 rfl Try.ntmps80 rfl (fun F => ?_)
  repeat' (first | (show J _ _ _ (runS _ _ _ _ (⟨_, _, _, _, _, none⟩ :: _)); (show J _ _ _ (runS _ _ _ _ (⟨_, .assign _, _, _, _, _⟩ :: _)); refine j_assign rfl rfl ?_)) | refine j_nil ?_ | (show J _ _ _ (Code.wp _ _ _); first | refine j_seq ?_ | refine j_region ?_) | refine j_then ?_)
  refine j_sl0 (α := UInt8) 5 none ?_
  refine j_cut (X := { q : Option Addr × Nat // True }) (fun q => [(0, .slice a ls.length c), (5, .slice q.1.1 (digs 8 n).length q.1.2)]) (fun q => Sl 5 q.1.1 q.1.2 (digs 8 n) :: Sl 5 a c ls :: F) ?_ (fun q => ?_)
  · refine j_block ?_
    refine j_loop (X := { q : Nat × Nat × List UInt8 × Option Addr × Nat // (q.1 ≤ 8 ∧ q.2.1 < 256 ^ (8 - q.1)) ∧ q.2.2.1.length = q.1 ∧ digs 8 n = q.2.2.1 ++ digs (8 - q.1) q.2.1 }) (fun q => [(0, .slice a ls.length c), (1, .int .u64 (q.1.2.1 : Nat)), (5, .slice q.1.2.2.2.1 q.1.2.2.1.length q.1.2.2.2.2)]) (fun q => Sl 5 q.1.2.2.2.1 q.1.2.2.2.2 q.1.2.2.1 :: Sl 5 a c ls :: F) (fun q => q.1.2.1) ⟨(0, n, [], none, 0), ⟨by omega, hn⟩, rfl, rfl⟩ ⟨rfl, rfl, rfl, trivial⟩ (by repeat ((exact .refl))) (fun q => ?_)
    obtain ⟨⟨k, m, l, a5, c5⟩, ⟨hk, hm⟩, hl, hd⟩ := q
    dsimp only at hk hm hl hd ⊢
    repeat' (first | (show J _ _ _ (runS _ _ _ _ (⟨_, _, _, _, _, none⟩ :: _)); first | (show J _ _ _ (runS _ _ _ _ (⟨_, .move _, _, _, _, _⟩ :: _)); refine j_move rfl rfl ?_) | (show J _ _ _ (runS _ _ _ _ (⟨_, .binOp _ _ _ _ _, _, _, _, _⟩ :: _)); ((refine j_bin rfl rfl rfl rfl ?_))) | (show J _ _ _ (runS _ _ _ _ (⟨_, .convert _ _ _, _, _, _, _⟩ :: _)); refine j_conv rfl rfl ?_)) | refine j_nil ?_ | (show J _ _ _ (Code.wp _ _ _); first | refine j_seq ?_ | refine j_region ?_ | refine j_block ?_ | (show J _ _ _ (Code.wp _ (.cond _ _ _) _); (refine j_dec rfl (fun h => ?_) (fun h => ?_))) | refine j_skip ?_ | refine j_exit ?_) | refine j_then ?_ | refine j_then_exit ?_ | refine j_inb_here ?_)
    · have hk8 : k < 8 := by
        rcases Nat.lt_or_ge k 8 with h8 | h8
        · exact h8
        · rw [show 8 - k = 0 from by omega] at hm
          simp at hm
          omega
      have hst : digs 8 n = (l ++ [UInt8.ofNat m]) ++ digs (8 - (k + 1)) (m / 256) := by
        rw [hd, show 8 - k = (8 - (k + 1)) + 1 from by omega, digs, if_neg (by omega), List.append_assoc]
        rfl
      have hm2 : m / 256 < 256 ^ (8 - (k + 1)) := by
        rw [Nat.div_lt_iff_lt_mul (by omega), ← Nat.pow_succ, show (8 - (k + 1)).succ = 8 - k from by omega]
        exact hm
      rw [wrap_u8n]
      refine j_lit1 (α := UInt8) rfl rfl (UInt8.ofNat m) rfl (by decide) rfl (fun bh => ?_)
      refine j_append (α := UInt8) (ls := l) (ms := [UInt8.ofNat m]) rfl rfl rfl (fun _ _ => (by repeat constructor)) (M := [blk bh 5 [.int .u8 ((UInt8.ofNat m).toNat : Nat)]]) (by repeat ((exact .refl))) (sees_blk1 (UInt8.ofNat m)) rfl rfl (by unfold maxLen; simp only [List.length_singleton]; omega) (by simp only [List.length_singleton]; omega) rfl (fun a6 c6 _ => ?_)
      repeat' (first | (show J _ _ _ (runS _ _ _ _ (⟨_, _, _, _, _, none⟩ :: _)); first | (show J _ _ _ (runS _ _ _ _ (⟨_, .move _, _, _, _, _⟩ :: _)); refine j_move rfl rfl ?_) | (show J _ _ _ (runS _ _ _ _ (⟨_, .binOp _ _ _ _ _, _, _, _, _⟩ :: _)); ((refine j_shr rfl rfl (by omega) rfl ?_))) | (show J _ _ _ (runS _ _ _ _ (⟨_, .assign _, _, _, _, _⟩ :: _)); refine j_assign rfl rfl ?_)) | refine j_nil ?_ | (show J _ _ _ (Code.wp _ _ _); (refine j_region ?_)) | refine j_then ?_ | refine j_inb ?_)
      rw [shr8]
      refine j_round ⟨(k + 1, m / 256, l ++ [UInt8.ofNat m], a6, c6), ⟨hk8, hm2⟩, ?_, hst⟩ (by dsimp only; omega) ⟨rfl, rfl, rfl, trivial⟩ (by repeat (first | exact .refl | apply Pk.cons | refine .drop ?_ | constructor))
      dsimp only; rw [List.length_append, hl]; rfl
    · have h0 : m = 0 := by omega
      subst h0
      rw [digs_zero, List.append_nil] at hd
      rw [← hd]
      exact j_cutend (Y := { q : Option Addr × Nat // True }) ⟨(a5, c5), trivial⟩ ⟨rfl, rfl, trivial⟩ (by repeat ((exact .refl)))
  obtain ⟨⟨a5, c5⟩, _⟩ := q
  dsimp only
  obtain ⟨l, hl⟩ : ∃ l, l = digs 8 n := ⟨_, rfl⟩
  have hlen := digs_len 8 n
  rw [← hl] at hlen ⊢
  repeat' (first | (show J _ _ _ (runS _ _ _ _ (⟨_, _, _, _, _, none⟩ :: _)); first | (show J _ _ _ (runS _ _ _ _ (⟨_, .move _, _, _, _, _⟩ :: _)); refine j_move rfl rfl ?_) | (show J _ _ _ (runS _ _ _ _ (⟨_, .call ⟨.builtin .len, _, _⟩, _, _, _, _⟩ :: _)); ((refine j_len rfl rfl ?_))) | (show J _ _ _ (runS _ _ _ _ (⟨_, .convert _ _ _, _, _, _, _⟩ :: _)); refine j_conv rfl rfl ?_)) | (show J _ _ _ (Code.wp _ _ _); first | refine j_seq ?_ | refine j_region ?_) | refine j_then ?_)
  rw [wrap_u8n]
  refine j_lit1 (α := UInt8) rfl rfl (UInt8.ofNat l.length) rfl (by decide) rfl (fun bh => ?_)
  refine j_append (α := UInt8) (ls := ls) (ms := [UInt8.ofNat l.length]) rfl rfl rfl (fun _ _ => (by repeat constructor)) (M := [blk bh 5 [.int .u8 ((UInt8.ofNat l.length).toNat : Nat)]]) (by repeat ((exact .refl))) (sees_blk1 (UInt8.ofNat l.length)) rfl rfl (by unfold maxLen; simp only [List.length_singleton]; omega) (by simp only [List.length_singleton]; omega) rfl (fun a6 c6 _ => ?_)
  repeat' (first | (show J _ _ _ (runS _ _ _ _ (⟨_, _, _, _, _, none⟩ :: _)); first | (show J _ _ _ (runS _ _ _ _ (⟨_, .move _, _, _, _, _⟩ :: _)); refine j_move rfl rfl ?_) | (show J _ _ _ (runS _ _ _ _ (⟨_, .binOp _ _ _ _ _, _, _, _, _⟩ :: _)); ((refine j_sub_ rfl rfl (by omega) rfl ?_))) | (show J _ _ _ (runS _ _ _ _ (⟨_, .assign _, _, _, _, _⟩ :: _)); refine j_assign rfl rfl ?_) | (show J _ _ _ (runS _ _ _ _ (⟨_, .call ⟨.builtin .len, _, _⟩, _, _, _, _⟩ :: _)); ((refine j_len rfl rfl ?_)))) | refine j_nil ?_ | (show J _ _ _ (Code.wp _ _ _); first | refine j_seq ?_ | refine j_region ?_) | refine j_then ?_)
  refine j_block ?_
  refine j_loop (X := { q : Nat × Option Addr × Nat // q.1 ≤ l.length }) (fun q => [(0, .slice q.1.2.1 (ls ++ [UInt8.ofNat l.length] ++ (l.drop q.1.1).reverse).length q.1.2.2), (5, .slice a5 l.length c5), (6, .int .i64 ((q.1.1 : Int) - 1))]) (fun q => Sl 5 q.1.2.1 q.1.2.2 (ls ++ [UInt8.ofNat l.length] ++ (l.drop q.1.1).reverse) :: Sl 5 a5 c5 l :: F) (fun q => q.1.1) ⟨(l.length, a6, c6), Nat.le_refl _⟩ ⟨by dsimp only; rw [List.drop_length]; simp; rfl, rfl, rfl, trivial⟩ (by dsimp only; rw [List.drop_length, List.reverse_nil, List.append_nil]; exact (by repeat (first | exact .refl | apply Pk.cons | refine .drop ?_ | constructor))) (fun q => ?_)
  obtain ⟨⟨j, a7, c7⟩, hj⟩ := q
  dsimp only at hj ⊢
  have hl7 : (ls ++ [UInt8.ofNat l.length] ++ (l.drop j).reverse).length ≤ ls.length + 9 := by simp; omega
  repeat' (first | (show J _ _ _ (runS _ _ _ _ (⟨_, _, _, _, _, none⟩ :: _)); first | (show J _ _ _ (runS _ _ _ _ (⟨_, .move _, _, _, _, _⟩ :: _)); refine j_move rfl rfl ?_) | (show J _ _ _ (runS _ _ _ _ (⟨_, .binOp _ _ _ _ _, _, _, _, _⟩ :: _)); ((refine j_bin rfl rfl rfl rfl ?_))) | (show J _ _ _ (runS _ _ _ _ (⟨_, .assign _, _, _, _, _⟩ :: _)); refine j_assign rfl rfl ?_)) | refine j_nil ?_ | (show J _ _ _ (Code.wp _ _ _); first | refine j_seq ?_ | refine j_region ?_ | refine j_block ?_ | (show J _ _ _ (Code.wp _ (.cond _ _ _) _); (refine j_dec rfl (fun h => ?_) (fun h => ?_))) | refine j_ret ?_ | refine j_skip ?_ | refine j_exit ?_) | refine j_then ?_ | refine j_then_exit ?_ | refine j_inb_here ?_)
  · obtain ⟨i, rfl⟩ : ∃ i, j = i + 1 := ⟨j - 1, by omega⟩
    have hi : i < l.length := hj
    have hst : ls ++ [UInt8.ofNat l.length] ++ (l.drop i).reverse = (ls ++ [UInt8.ofNat l.length] ++ (l.drop (i + 1)).reverse) ++ [l[i]] := by
      rw [List.drop_eq_getElem_cons hi, List.reverse_cons]
      simp
    refine j_idx (α := UInt8) (M := [Sl 5 a5 c5 l]) rfl rfl (by repeat (first | exact .refl | apply Pk.cons | constructor)) sees_sl rfl i (by omega) hi rfl (fun b3 o3 ha3 hc3 => ?_)
    refine j_loadv (M := [Sl 5 a5 c5 l]) (v := .int .u8 (l[i].toNat : Nat)) rfl rfl (by repeat (first | exact .refl | apply Pk.cons | constructor)) (fun w hw => hc3 0 _ rfl w hw) rfl ?_
    refine j_lit1 (α := UInt8) rfl rfl l[i] rfl (by decide) rfl (fun bh2 => ?_)
    refine j_append (α := UInt8) (ls := ls ++ [UInt8.ofNat l.length] ++ (l.drop (i + 1)).reverse) (ms := [l[i]]) rfl rfl rfl (fun _ _ => (by repeat constructor)) (M := [blk bh2 5 [.int .u8 (l[i].toNat : Nat)]]) (by repeat ((exact .refl))) (sees_blk1 l[i]) rfl rfl (by unfold maxLen; simp only [List.length_singleton]; omega) (by simp only [List.length_singleton]; omega) rfl (fun a8 c8 _ => ?_)
    rw [← hst]
    repeat' (first | (show J _ _ _ (runS _ _ _ _ (⟨_, _, _, _, _, none⟩ :: _)); first | (show J _ _ _ (runS _ _ _ _ (⟨_, .move _, _, _, _, _⟩ :: _)); refine j_move rfl rfl ?_) | (show J _ _ _ (runS _ _ _ _ (⟨_, .binOp _ _ _ _ _, _, _, _, _⟩ :: _)); ((refine j_sub_ rfl rfl (by omega) rfl ?_))) | (show J _ _ _ (runS _ _ _ _ (⟨_, .assign _, _, _, _, _⟩ :: _)); refine j_assign rfl rfl ?_)) | refine j_nil ?_ | (show J _ _ _ (Code.wp _ _ _); (refine j_region ?_)) | refine j_then ?_ | refine j_inb ?_)
    refine j_round ⟨(i, a8, c8), by dsimp only; omega⟩ (by dsimp only; omega) ⟨rfl, rfl, ?_, trivial⟩ (by repeat (first | exact .refl | apply Pk.cons | refine .drop ?_ | constructor))
    show some (Value.int .i64 _) = some (Value.int .i64 ((i : Int) - 1))
    congr 2
    omega
  · have h0 : j = 0 := by omega
    subst h0
    rw [List.drop_zero, List.append_assoc]
    have e : ls ++ ([UInt8.ofNat l.length] ++ l.reverse) = ls ++ cntB n := by unfold cntB; rw [← hl]; rfl
    rw [e]
    exact j_ret1 (M := [Sl 5 a7 c7 (ls ++ cntB n)]) rfl rfl (by repeat (first | exact .refl | apply Pk.cons | refine .drop ?_ | constructor)) ⟨a7, c7, rfl, rfl⟩
end Go.Proofs.Ytnmfpgfgjjmfhaa
