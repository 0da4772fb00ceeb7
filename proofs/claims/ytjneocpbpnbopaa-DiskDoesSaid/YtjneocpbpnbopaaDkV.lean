/- The document's names: Rune. -/
import Derived.Test.YtjneocpbpnbopaaDk9
import Derived.Test.YtjneocpbpnbopaaSe
set_option linter.unusedVariables false
set_option linter.unusedSimpArgs false
set_option maxRecDepth 100000
namespace Go.Proofs.Ytjneocpbpnbopaa
open Go
attribute [local irreducible] Exit.then Exit.inBlock Code.wp runS bodyPost postF J runT cutQ cutR Tr Sat blk Sl Old Star Ex Pu
attribute [local irreducible] MapA MapB IterA IterS All

def bz (s : ByteArray) (k : Nat) : Int := ((s.get! k).toNat : Nat)
theorem bz_bd (s : ByteArray) (k : Nat) : 0 ≤ bz s k ∧ bz s k ≤ 255 := by
  have := (s.get! k).toNat_lt
  unfold bz
  omega
def accR (s : ByteArray) (c0 : Int) : Nat → Int
  | 0 => c0
  | k + 1 => accR s c0 k * 64 + bz s (k + 1) - 128
def contB (s : ByteArray) : Nat → Bool
  | 0 => true
  | k + 1 => contB s k && decide (128 ≤ bz s (k + 1)) && decide (bz s (k + 1) ≤ 191)
def badR : Int × Int × Bool := (65533, 1, false)
def finR (s : ByteArray) (n : Nat) (low c0 : Int) : Int × Int × Bool :=
  if s.size < n then badR else if contB s (n - 1) = false then badR
  else if accR s c0 (n - 1) < low ∨ 1114111 < accR s c0 (n - 1) ∨ (55296 ≤ accR s c0 (n - 1) ∧ accR s c0 (n - 1) ≤ 57343) then badR else (accR s c0 (n - 1), n, true)
def runeR (s : ByteArray) : Int × Int × Bool :=
  if bz s 0 < 128 then (bz s 0, 1, true)
  else if 194 ≤ bz s 0 ∧ bz s 0 ≤ 223 then finR s 2 128 (bz s 0 - 192)
  else if 224 ≤ bz s 0 ∧ bz s 0 ≤ 239 then finR s 3 2048 (bz s 0 - 224)
  else if 240 ≤ bz s 0 ∧ bz s 0 ≤ 244 then finR s 4 65536 (bz s 0 - 240)
  else badR
/-- which kinds there are -/
def KindR (s : ByteArray) (n : Nat) (low c0 : Int) : Prop :=
  (n = 2 ∨ n = 3 ∨ n = 4) ∧ 0 ≤ c0 ∧ c0 ≤ 31 ∧ runeR s = finR s n low c0
theorem contB_le (s : ByteArray) : ∀ {k j : Nat}, j ≤ k → contB s k = true → contB s j = true
  | 0, j, h, hc => by rw [show j = 0 from by omega]; rfl
  | k + 1, j, h, hc => by
    by_cases hj : j = k + 1
    · rw [hj]; exact hc
    · refine contB_le s (k := k) (by omega) ?_
      rw [contB] at hc
      simp at hc
      exact hc.1.1
theorem contB_at (s : ByteArray) {k j : Nat} (h : 1 ≤ j) (hj : j ≤ k) (hc : contB s k = true) : 128 ≤ bz s j ∧ bz s j ≤ 191 := by
  have := contB_le s hj hc
  obtain ⟨i, rfl⟩ : ∃ i, j = i + 1 := ⟨j - 1, by omega⟩
  rw [contB] at this
  simp at this
  exact ⟨this.1.2, this.2⟩
theorem accR_bd {s : ByteArray} {c0 : Int} (h0 : 0 ≤ c0 ∧ c0 ≤ 31) : ∀ {k : Nat}, k ≤ 3 → contB s k = true → 0 ≤ accR s c0 k ∧ accR s c0 k ≤ 100000000
  | 0, _, _ => ⟨h0.1, by show c0 ≤ _; omega⟩
  | 1, _, h => by have := contB_at s (by omega) (Nat.le_refl 1) h; simp only [accR, Nat.zero_add, Nat.reduceAdd]; omega
  | 2, _, h => by have := contB_at s (by omega) (Nat.le_refl 2) h; have := contB_at s (j := 1) (by omega) (by omega) h; simp only [accR, Nat.zero_add, Nat.reduceAdd]; omega
  | 3, _, h => by have := contB_at s (by omega) (Nat.le_refl 3) h; have := contB_at s (j := 1) (by omega) (by omega) h; have := contB_at s (j := 2) (by omega) (by omega) h; simp only [accR, Nat.zero_add, Nat.reduceAdd]; omega

def rvR (r : Int × Int × Bool) : Value := .tuple #[.int .i64 r.1, .int .i64 r.2.1, .bool r.2.2]

theorem rrune_spec (s : ByteArray) (hs : 0 < s.size) : Tr Try.prog 46 [.string s] [] (fun v M => v = rvR (runeR s) ∧ M = []) := by
  have hb0 := bz_bd s 0
  refine tr_enter Try.func46 rfl Try.ntmps46 rfl (fun F => ?_)
  repeat' (first | (show J _ _ _ (runS _ _ _ (⟨_, _, _, _, _, none⟩ :: _)); first | (show J _ _ _ (runS _ _ _ (⟨_, .move _, _, _, _, _⟩ :: _)); refine j_move rfl rfl ?_) | (show J _ _ _ (runS _ _ _ (⟨_, .assign _, _, _, _, _⟩ :: _)); refine j_assign rfl rfl ?_)) | refine j_nil ?_ | (show J _ _ _ (Code.wp _ _ _); first | refine j_seq ?_ | refine j_region ?_) | refine j_then ?_)
  refine j_idxStr rfl rfl 0 rfl hs rfl ?_
  refine j_conv rfl rfl ?_
  rw [show IntKind.i64.wrap ((s.get! 0).toNat : Nat) = bz s 0 from wrap64_id (by unfold bz at hb0; omega)]
  repeat' (first | (show J _ _ _ (runS _ _ _ (⟨_, _, _, _, _, none⟩ :: _)); (show J _ _ _ (runS _ _ _ (⟨_, .assign _, _, _, _, _⟩ :: _)); refine j_assign rfl rfl ?_)) | refine j_nil ?_ | (show J _ _ _ (Code.wp _ _ _); first | refine j_seq ?_ | refine j_region ?_) | refine j_then ?_)
  refine j_cutR (X := { q : Nat × Int × Int // KindR s q.1 q.2.1 q.2.2 }) (fun q => [(0, .string s), (5, .int .i64 q.1.2.2), (6, .int .i64 (q.1.1 : Nat)), (7, .int .i64 q.1.2.1)]) (fun _ => [] ++ F) ?_ (fun q => ?_)
  · repeat' (first | (show J _ _ _ (runS _ _ _ (⟨_, _, _, _, _, none⟩ :: _)); first | (show J _ _ _ (runS _ _ _ (⟨_, .move _, _, _, _, _⟩ :: _)); refine j_move rfl rfl ?_) | (show J _ _ _ (runS _ _ _ (⟨_, .binOp _ _ _ _ _, _, _, _, _⟩ :: _)); (first | refine j_sub_ rfl rfl (by omega) rfl ?_ | refine j_bin rfl rfl rfl rfl ?_)) | (show J _ _ _ (runS _ _ _ (⟨_, .assign _, _, _, _, _⟩ :: _)); refine j_assign rfl rfl ?_) | (show J _ _ _ (runS _ _ _ (⟨_, .pick _ _ _, _, _, _, _⟩ :: _)); (first | refine j_pick_t rfl rfl rfl ?_ | refine j_pick_f rfl rfl rfl ?_))) | refine j_nil ?_ | (show J _ _ _ (runS _ _ _ (⟨_, _, _, _, _, some _⟩ :: _)); first | refine j_gno_u rfl rfl rfl rfl ?_ | refine j_gyes rfl rfl rfl ?_ | refine j_gsplit_dec rfl rfl (fun h => ?_) (fun h => ?_)) | (show J _ _ _ (Code.wp _ _ _); first | refine j_seq ?_ | refine j_region ?_ | refine j_block ?_ | (show J _ _ _ (Code.wp _ (.cond _ _ _) _); first | refine j_false rfl ?_ | refine j_dec rfl (fun h => ?_) (fun h => ?_)) | refine j_ret ?_) | refine j_cutRret ?_ | refine j_then ?_ | refine j_then_ret ?_ | refine j_inb ?_ | refine j_inb_ret ?_)
    · have hr : runeR s = (bz s 0, 1, true) := by unfold runeR; rw [if_pos h]
      rw [hr]
      exact j_ret3 (M := []) rfl rfl rfl rfl .refl ⟨rfl, rfl⟩
    all_goals first
      | exact j_cutRend (Y := { q : Nat × Int × Int // KindR s q.1 q.2.1 q.2.2 }) ⟨(2, 128, bz s 0 - 192), .inl rfl, by dsimp only; omega, by dsimp only; omega, by unfold runeR; rw [if_neg (by omega), if_pos (by omega)]⟩ ⟨rfl, rfl, rfl, rfl, trivial⟩ .refl
      | exact j_cutRend (Y := { q : Nat × Int × Int // KindR s q.1 q.2.1 q.2.2 }) ⟨(3, 2048, bz s 0 - 224), .inr (.inl rfl), by dsimp only; omega, by dsimp only; omega, by unfold runeR; rw [if_neg (by omega), if_neg (by omega), if_pos (by omega)]⟩ ⟨rfl, rfl, rfl, rfl, trivial⟩ .refl
      | exact j_cutRend (Y := { q : Nat × Int × Int // KindR s q.1 q.2.1 q.2.2 }) ⟨(4, 65536, bz s 0 - 240), .inr (.inr rfl), by dsimp only; omega, by dsimp only; omega, by unfold runeR; rw [if_neg (by omega), if_neg (by omega), if_neg (by omega), if_pos (by omega)]⟩ ⟨rfl, rfl, rfl, rfl, trivial⟩ .refl
      | exact j_ret3 (M := []) rfl rfl rfl rfl .refl ⟨(congrArg rvR (show runeR s = badR from by unfold runeR; rw [if_neg (by omega), if_neg (by omega), if_neg (by omega), if_neg (by omega)])).symm, rfl⟩
  obtain ⟨⟨n, low, c0⟩, hn, hc0, hc1, hrs⟩ := q
  dsimp only at hn hc0 hc1 hrs ⊢
  rw [hrs]
  repeat' (first | (show J _ _ _ (runS _ _ _ (⟨_, _, _, _, _, none⟩ :: _)); first | (show J _ _ _ (runS _ _ _ (⟨_, .move _, _, _, _, _⟩ :: _)); refine j_move rfl rfl ?_) | (show J _ _ _ (runS _ _ _ (⟨_, .binOp _ _ _ _ _, _, _, _, _⟩ :: _)); ((refine j_bin rfl rfl rfl rfl ?_))) | (show J _ _ _ (runS _ _ _ (⟨_, .assign _, _, _, _, _⟩ :: _)); refine j_assign rfl rfl ?_) | (show J _ _ _ (runS _ _ _ (⟨_, .call ⟨.builtin .len, _, _⟩, _, _, _, _⟩ :: _)); ((refine j_len_str rfl rfl ?_)))) | refine j_nil ?_ | (show J _ _ _ (Code.wp _ _ _); first | refine j_seq ?_ | refine j_region ?_ | (show J _ _ _ (Code.wp _ (.cond _ _ _) _); (refine j_dec rfl (fun h => ?_) (fun h => ?_))) | refine j_ret ?_ | refine j_skip ?_) | refine j_then ?_ | refine j_then_ret ?_)
  · exact j_ret3 (M := []) rfl rfl rfl rfl .refl ⟨(congrArg rvR (show finR s n low c0 = badR from by unfold finR; rw [if_pos (by omega)])).symm, rfl⟩
  have hsz : ¬ s.size < n := by omega
  clear h
  refine j_cutR (X := Unit) (fun _ => [(5, .int .i64 (accR s c0 (n - 1))), (6, .int .i64 (n : Nat)), (7, .int .i64 low)]) (fun _ => Pu (contB s (n - 1) = true) :: F) ?_ (fun _ => ?_)
  · refine j_block ?_
    refine j_loop (X := { k : Nat // k + 1 ≤ n ∧ contB s k = true }) (fun k => [(0, .string s), (5, .int .i64 (accR s c0 k.1)), (6, .int .i64 (n : Nat)), (7, .int .i64 low), (8, .int .i64 ((k.1 : Int) + 1))]) (fun _ => F) (fun k => n - k.1) ⟨0, by omega, rfl⟩ ⟨rfl, rfl, rfl, rfl, rfl, trivial⟩ .refl (fun k => ?_)
    obtain ⟨k, hk, hct⟩ := k
    dsimp only at hk hct ⊢
    have hac := accR_bd ⟨hc0, hc1⟩ (show k ≤ 3 by omega) hct
    have hb1 := bz_bd s (k + 1)
    repeat' (first | (show J _ _ _ (runS _ _ _ (⟨_, _, _, _, _, none⟩ :: _)); first | (show J _ _ _ (runS _ _ _ (⟨_, .move _, _, _, _, _⟩ :: _)); refine j_move rfl rfl ?_) | (show J _ _ _ (runS _ _ _ (⟨_, .binOp _ _ _ _ _, _, _, _, _⟩ :: _)); ((refine j_bin rfl rfl rfl rfl ?_)))) | refine j_nil ?_ | (show J _ _ _ (Code.wp _ _ _); first | refine j_seq ?_ | refine j_region ?_ | refine j_block ?_ | (show J _ _ _ (Code.wp _ (.cond _ _ _) _); (refine j_dec rfl (fun h => ?_) (fun h => ?_))) | refine j_skip ?_ | refine j_exit ?_) | refine j_then ?_ | refine j_then_exit ?_ | refine j_inb_here ?_)
    · refine j_idxStr rfl rfl (k + 1) (by omega) (by omega) rfl ?_
      refine j_conv rfl rfl ?_
      rw [show IntKind.i64.wrap ((s.get! (k + 1)).toNat : Nat) = bz s (k + 1) from wrap64_id (by unfold bz at hb1; omega)]
      repeat' (first | (show J _ _ _ (runS _ _ _ (⟨_, _, _, _, _, none⟩ :: _)); first | (show J _ _ _ (runS _ _ _ (⟨_, .move _, _, _, _, _⟩ :: _)); refine j_move rfl rfl ?_) | (show J _ _ _ (runS _ _ _ (⟨_, .binOp _ _ _ _ _, _, _, _, _⟩ :: _)); (first | refine j_add rfl rfl (by omega) rfl ?_ | refine j_bin rfl rfl rfl rfl ?_)) | (show J _ _ _ (runS _ _ _ (⟨_, .assign _, _, _, _, _⟩ :: _)); refine j_assign rfl rfl ?_) | (show J _ _ _ (runS _ _ _ (⟨_, .pick _ _ _, _, _, _, _⟩ :: _)); (first | refine j_pick_t rfl rfl rfl ?_ | refine j_pick_f rfl rfl rfl ?_))) | refine j_nil ?_ | (show J _ _ _ (runS _ _ _ (⟨_, _, _, _, _, some _⟩ :: _)); first | refine j_gno_u rfl rfl rfl rfl ?_ | refine j_gyes rfl rfl rfl ?_ | refine j_gsplit_dec rfl rfl (fun h => ?_) (fun h => ?_)) | (show J _ _ _ (Code.wp _ _ _); first | refine j_seq ?_ | refine j_region ?_ | (show J _ _ _ (Code.wp _ (.cond _ _ _) _); first | refine j_true rfl ?_ | refine j_dec rfl (fun h => ?_) (fun h => ?_)) | refine j_ret ?_ | refine j_skip ?_) | refine j_cutRret ?_ | refine j_then ?_ | refine j_then_ret ?_ | refine j_inb ?_ | refine j_inb_ret ?_)
      · have hbad : finR s n low c0 = badR := by
          unfold finR
          rw [if_neg hsz]
          by_cases hc : contB s (n - 1) = false
          · rw [if_pos hc]
          · have := contB_at s (k := n - 1) (j := k + 1) (by omega) (by omega) (by simpa using hc)
            omega
        exact j_ret3 (M := []) rfl rfl rfl rfl .refl ⟨(congrArg rvR hbad).symm, rfl⟩
      · have hbad : finR s n low c0 = badR := by
          unfold finR
          rw [if_neg hsz]
          by_cases hc : contB s (n - 1) = false
          · rw [if_pos hc]
          · have := contB_at s (k := n - 1) (j := k + 1) (by omega) (by omega) (by simpa using hc)
            omega
        exact j_ret3 (M := []) rfl rfl rfl rfl .refl ⟨(congrArg rvR hbad).symm, rfl⟩
      · rw [show IntKind.i64.wrap (accR s c0 k * 64) = accR s c0 k * 64 from wrap64_id (by omega), show IntKind.i64.wrap (accR s c0 k * 64 + bz s (k + 1)) = accR s c0 k * 64 + bz s (k + 1) from wrap64_id (by omega), show IntKind.i64.wrap (accR s c0 k * 64 + bz s (k + 1) - 128) = accR s c0 k * 64 + bz s (k + 1) - 128 from wrap64_id (by omega)]
        refine j_round ⟨k + 1, by omega, ?_⟩ (by dsimp only; omega) ⟨rfl, rfl, rfl, rfl, ?_, trivial⟩ .refl
        · rw [contB, hct]; simp; omega
        · show some (Value.int .i64 ((k : Int) + 1 + 1)) = some (Value.int .i64 (((k + 1 : Nat) : Int) + 1)); congr 2
    · have hkn : k = n - 1 := by omega
      rw [hkn] at hct
      refine j_unpu hct ?_
      rw [hkn]
      exact j_cutRend (Y := Unit) () ⟨rfl, rfl, rfl, trivial⟩ .refl
  refine j_pu (fun hct => ?_)
  repeat' (first | (show J _ _ _ (runS _ _ _ (⟨_, _, _, _, _, none⟩ :: _)); first | (show J _ _ _ (runS _ _ _ (⟨_, .move _, _, _, _, _⟩ :: _)); refine j_move rfl rfl ?_) | (show J _ _ _ (runS _ _ _ (⟨_, .binOp _ _ _ _ _, _, _, _, _⟩ :: _)); ((refine j_bin rfl rfl rfl rfl ?_))) | (show J _ _ _ (runS _ _ _ (⟨_, .assign _, _, _, _, _⟩ :: _)); refine j_assign rfl rfl ?_) | (show J _ _ _ (runS _ _ _ (⟨_, .pick _ _ _, _, _, _, _⟩ :: _)); (first | refine j_pick_t rfl rfl rfl ?_ | refine j_pick_f rfl rfl rfl ?_))) | refine j_nil ?_ | (show J _ _ _ (runS _ _ _ (⟨_, _, _, _, _, some _⟩ :: _)); first | refine j_gno_u rfl rfl rfl rfl ?_ | refine j_gun_u rfl rfl rfl ?_ | refine j_gyes rfl rfl rfl ?_ | refine j_gsplit_dec rfl rfl (fun h => ?_) (fun h => ?_)) | (show J _ _ _ (Code.wp _ _ _); first | refine j_seq ?_ | refine j_region ?_ | (show J _ _ _ (Code.wp _ (.cond _ _ _) _); first | refine j_true rfl ?_ | refine j_false rfl ?_ | refine j_dec rfl (fun h => ?_) (fun h => ?_)) | refine j_ret ?_ | refine j_skip ?_) | refine j_then ?_ | refine j_then_ret ?_)
  all_goals first
    | exact j_ret3 (M := []) rfl rfl rfl rfl .refl ⟨(congrArg rvR (show finR s n low c0 = badR from by unfold finR; rw [if_neg hsz, if_neg (by rw [hct]; simp), if_pos (by omega)])).symm, rfl⟩
    | exact j_ret3 (M := []) rfl rfl rfl rfl .refl ⟨(congrArg rvR (show finR s n low c0 = (accR s c0 (n - 1), (n : Int), true) from by unfold finR; rw [if_neg hsz, if_neg (by rw [hct]; simp), if_neg (by omega)])).symm, rfl⟩

def toldR (r : Nat × Nat) : Int × Int × Bool := ((r.1 : Int), (r.2 : Int), !(decide (r.1 = 65533) && decide (r.2 = 1)))
theorem toldR_bad : toldR (65533, 1) = badR := rfl
theorem toldR_many {c n : Nat} (h : n ≠ 1) : toldR (c, n) = ((c : Int), (n : Int), true) := by unfold toldR; simp [h]
theorem decodeN_bad {z x0 x1 x2 x3 : Nat} (h0 : ¬ x0 < 128) (h1 : ¬ (x0 / 32 = 6 ∧ (1 < z ∧ x1 / 64 = 2))) (h2 : ¬ (x0 / 16 = 14 ∧ (1 < z ∧ x1 / 64 = 2) ∧ (2 < z ∧ x2 / 64 = 2))) (h3 : ¬ (x0 / 8 = 30 ∧ (1 < z ∧ x1 / 64 = 2) ∧ (2 < z ∧ x2 / 64 = 2) ∧ (3 < z ∧ x3 / 64 = 2))) : Lib.decodeN z x0 x1 x2 x3 = (65533, 1) := by
  unfold Lib.decodeN
  rw [if_neg h0, if_neg h1, if_neg h2, if_neg h3]
/-- it is the language's own reading -/
theorem runeR_decode (s : ByteArray) : runeR s = (((Utf8.decode s 0).1 : Int), ((Utf8.decode s 0).2 : Int), !(decide ((Utf8.decode s 0).1 = 65533) && decide ((Utf8.decode s 0).2 = 1))) := by
  have b0 := (s.get! 0).toNat_lt
  have b1 := (s.get! 1).toNat_lt
  have b2 := (s.get! 2).toNat_lt
  have b3 := (s.get! 3).toNat_lt
  have e0 : bz s 0 = ((s.get! 0).toNat : Nat) := rfl
  have e1 : bz s 1 = ((s.get! 1).toNat : Nat) := rfl
  have e2 : bz s 2 = ((s.get! 2).toNat : Nat) := rfl
  have e3 : bz s 3 = ((s.get! 3).toNat : Nat) := rfl
  rw [Lib.decode_at]
  simp only [runeR, finR, contB, accR, badR, Nat.zero_add, Nat.reduceAdd, Nat.reduceSub, e0, e1, e2, e3, Nat.sub_zero]
  generalize (s.get! 0).toNat = x0 at *
  generalize (s.get! 1).toNat = x1 at *
  generalize (s.get! 2).toNat = x2 at *
  generalize (s.get! 3).toNat = x3 at *
  generalize s.size = z at *
  clear e0 e1 e2 e3
  clear s
  simp only [Bool.true_and, Bool.and_eq_false_iff, decide_eq_false_iff_not]
  show _ = toldR (Lib.decodeN z x0 x1 x2 x3)
  have hbad : badR = (65533, 1, false) := rfl
  by_cases h0 : (x0 : Int) < 128
  · rw [if_pos h0]
    unfold Lib.decodeN
    rw [if_pos (by omega)]
    unfold toldR
    simp; omega
  rw [if_neg h0]
  by_cases h2 : 194 ≤ (x0 : Int) ∧ (x0 : Int) ≤ 223
  · rw [if_pos h2]
    by_cases hc : 2 ≤ z ∧ 128 ≤ x1 ∧ x1 ≤ 191
    · rw [if_neg (by omega), if_neg (by omega), if_neg (by omega)]
      unfold Lib.decodeN
      rw [if_neg (by omega), if_pos (by omega), if_pos (by omega), toldR_many (by decide)]
      simp only [Prod.mk.injEq, and_true]
      omega
    · rw [decodeN_bad (by omega) (by omega) (by omega) (by omega), toldR_bad, hbad]
      by_cases hz : z < 2
      · rw [if_pos hz]
      · rw [if_neg hz, if_pos (by omega)]
  rw [if_neg h2]
  by_cases h3 : 224 ≤ (x0 : Int) ∧ (x0 : Int) ≤ 239
  · rw [if_pos h3]
    by_cases hc : 3 ≤ z ∧ (128 ≤ x1 ∧ x1 ≤ 191) ∧ (128 ≤ x2 ∧ x2 ≤ 191)
    · rw [if_neg (by omega), if_neg (by omega)]
      by_cases hv : x0 % 16 * 4096 + x1 % 64 * 64 + x2 % 64 ≥ 2048 ∧ (x0 % 16 * 4096 + x1 % 64 * 64 + x2 % 64 < 55296 ∨ (57344 ≤ x0 % 16 * 4096 + x1 % 64 * 64 + x2 % 64 ∧ x0 % 16 * 4096 + x1 % 64 * 64 + x2 % 64 ≤ 1114111))
      · have hd : Lib.decodeN z x0 x1 x2 x3 = (x0 % 16 * 4096 + x1 % 64 * 64 + x2 % 64, 3) := by
          unfold Lib.decodeN
          rw [if_neg (by omega), if_neg (by omega), if_pos (by omega), if_pos hv]
        rw [hd, if_neg (by omega), toldR_many (by decide)]
        simp only [Prod.mk.injEq, and_true]
        omega
      · have hd : Lib.decodeN z x0 x1 x2 x3 = (65533, 1) := by
          unfold Lib.decodeN
          rw [if_neg (by omega), if_neg (by omega), if_pos (by omega), if_neg hv]
        rw [hd, if_pos (by omega), toldR_bad]; rfl
    · rw [decodeN_bad (by omega) (by omega) (by omega) (by omega), toldR_bad, hbad]
      by_cases hz : z < 3
      · rw [if_pos hz]
      · rw [if_neg hz, if_pos (by omega)]
  rw [if_neg h3]
  by_cases h4 : 240 ≤ (x0 : Int) ∧ (x0 : Int) ≤ 244
  · rw [if_pos h4]
    by_cases hc : 4 ≤ z ∧ (128 ≤ x1 ∧ x1 ≤ 191) ∧ (128 ≤ x2 ∧ x2 ≤ 191) ∧ (128 ≤ x3 ∧ x3 ≤ 191)
    · rw [if_neg (by omega), if_neg (by omega)]
      by_cases hv : x0 % 8 * 262144 + x1 % 64 * 4096 + x2 % 64 * 64 + x3 % 64 ≥ 65536 ∧ (x0 % 8 * 262144 + x1 % 64 * 4096 + x2 % 64 * 64 + x3 % 64 < 55296 ∨ (57344 ≤ x0 % 8 * 262144 + x1 % 64 * 4096 + x2 % 64 * 64 + x3 % 64 ∧ x0 % 8 * 262144 + x1 % 64 * 4096 + x2 % 64 * 64 + x3 % 64 ≤ 1114111))
      · have hd : Lib.decodeN z x0 x1 x2 x3 = (x0 % 8 * 262144 + x1 % 64 * 4096 + x2 % 64 * 64 + x3 % 64, 4) := by
          unfold Lib.decodeN
          rw [if_neg (by omega), if_neg (by omega), if_neg (by omega), if_pos (by omega), if_pos hv]
        rw [hd, if_neg (by omega), toldR_many (by decide)]
        simp only [Prod.mk.injEq, and_true]
        omega
      · have hd : Lib.decodeN z x0 x1 x2 x3 = (65533, 1) := by
          unfold Lib.decodeN
          rw [if_neg (by omega), if_neg (by omega), if_neg (by omega), if_pos (by omega), if_neg hv]
        rw [hd, if_pos (by omega), toldR_bad]; rfl
    · rw [decodeN_bad (by omega) (by omega) (by omega) (by omega), toldR_bad, hbad]
      by_cases hz : z < 4
      · rw [if_pos hz]
      · rw [if_neg hz, if_pos (by omega)]
  rw [if_neg h4]
  by_cases h5 : x0 / 32 = 6 ∧ (1 < z ∧ x1 / 64 = 2)
  · unfold Lib.decodeN
    rw [if_neg (by omega), if_pos h5, if_neg (by omega), toldR_bad]; rfl
  · by_cases h6 : x0 / 8 = 30 ∧ (1 < z ∧ x1 / 64 = 2) ∧ (2 < z ∧ x2 / 64 = 2) ∧ (3 < z ∧ x3 / 64 = 2)
    · unfold Lib.decodeN
      rw [if_neg (by omega), if_neg h5, if_neg (by omega), if_pos h6, if_neg (by omega), toldR_bad]; rfl
    · rw [decodeN_bad (by omega) h5 (by omega) h6, toldR_bad]; rfl

end Go.Proofs.Ytjneocpbpnbopaa
