/- Merged: Rb1 Rb2 Rb3 Rb4 -/
import Derived.Test.YtnmfpgfgjjmfhaaRaX
section
set_option linter.unusedVariables false
set_option linter.unusedSimpArgs false
set_option maxRecDepth 100000
namespace Go.Proofs.Ytnmfpgfgjjmfhaa
open Go
attribute [local irreducible] Exit.then Exit.inBlock Code.wp runS bodyPost postF J runT cutQ cutR Tr Sat blk Sl Old Star Ex Pu

theorem brune_spec (s : ByteArray) (hs : 1 ≤ s.size ∧ s.size ≤ 1000000) (Lp : List HP) : Tr Try.prog 106 [.string s] Lp (fun v M => (∃ (c : Int) (n : Nat) (b : Bool), v = .tuple #[.int .i64 c, .int .i64 (n : Nat), .bool b] ∧ 1 ≤ n ∧ n ≤ s.size) ∧ M = Lp) := by
  refine tr_enter Try.func106 rfl Try.ntmps106 rfl (fun F => ?_)
  repeat' (first | (show J _ _ _ (runS _ _ _ _ (⟨_, _, _, _, _, none⟩ :: _)); first | (show J _ _ _ (runS _ _ _ _ (⟨_, .move _, _, _, _, _⟩ :: _)); refine j_move rfl rfl ?_) | (show J _ _ _ (runS _ _ _ _ (⟨_, .assign _, _, _, _, _⟩ :: _)); refine j_assign rfl rfl ?_)) | refine j_nil ?_ | (show J _ _ _ (Code.wp _ _ _); first | refine j_seq ?_ | refine j_region ?_) | refine j_then ?_)
  refine j_idxStr rfl rfl 0 rfl (by omega) rfl ?_
  obtain ⟨x, hx⟩ : ∃ x : Nat, x = (s.get! 0).toNat := ⟨_, rfl⟩
  have hx2 : x < 256 := by rw [hx]; exact UInt8.toNat_lt _
  rw [← hx]
  repeat' (first | (show J _ _ _ (runS _ _ _ _ (⟨_, _, _, _, _, none⟩ :: _)); first | (show J _ _ _ (runS _ _ _ _ (⟨_, .assign _, _, _, _, _⟩ :: _)); refine j_assign rfl rfl ?_) | (show J _ _ _ (runS _ _ _ _ (⟨_, .convert _ _ _, _, _, _, _⟩ :: _)); refine j_conv rfl rfl ?_)) | refine j_nil ?_ | refine j_then ?_)
  rw [wrap64_id (x := (x : Int)) (by omega)]
  repeat' (first | (show J _ _ _ (runS _ _ _ _ (⟨_, _, _, _, _, none⟩ :: _)); first | (show J _ _ _ (runS _ _ _ _ (⟨_, .move _, _, _, _, _⟩ :: _)); refine j_move rfl rfl ?_) | (show J _ _ _ (runS _ _ _ _ (⟨_, .binOp _ _ _ _ _, _, _, _, _⟩ :: _)); (first | refine j_sub_ rfl rfl (by omega) rfl ?_ | refine j_bin rfl rfl rfl rfl ?_)) | (show J _ _ _ (runS _ _ _ _ (⟨_, .assign _, _, _, _, _⟩ :: _)); refine j_assign rfl rfl ?_) | (show J _ _ _ (runS _ _ _ _ (⟨_, .pick _ _ _, _, _, _, _⟩ :: _)); (first | refine j_pick_t rfl rfl rfl ?_ | refine j_pick_f rfl rfl rfl ?_)) | (show J _ _ _ (runS _ _ _ _ (⟨_, .call ⟨.builtin .len, _, _⟩, _, _, _, _⟩ :: _)); ((refine j_len_str rfl rfl ?_)))) | refine j_nil ?_ | (show J _ _ _ (runS _ _ _ _ (⟨_, _, _, _, _, some _⟩ :: _)); first | refine j_gno_u rfl rfl rfl rfl ?_ | refine j_gyes rfl rfl rfl ?_ | refine j_gsplit_dec rfl rfl (fun h => ?_) (fun h => ?_)) | (show J _ _ _ (Code.wp _ _ _); first | refine j_seq ?_ | refine j_region ?_ | refine j_block ?_ | (show J _ _ _ (Code.wp _ (.cond _ _ _) _); first | refine j_false rfl ?_ | refine j_dec rfl (fun h => ?_) (fun h => ?_)) | refine j_ret ?_ | refine j_skip ?_) | refine j_then ?_ | refine j_then_ret ?_ | refine j_inb ?_ | refine j_inb_ret ?_)
  · exact j_ret3 (M := Lp) rfl rfl rfl rfl (by repeat ((exact .refl))) ⟨⟨_, 1, _, rfl, by omega, by omega⟩, rfl⟩
  · exact j_ret3 (M := Lp) rfl rfl rfl rfl (by repeat ((exact .refl))) ⟨⟨_, 1, _, rfl, by omega, by omega⟩, rfl⟩
  · refine j_loop (X := { q : Nat × Int // 1 ≤ q.1 ∧ q.1 ≤ 2 ∧ 0 ≤ q.2 ∧ q.2 ≤ 100000000000 ∧ (q.1 = 1 → q.2 ≤ 255) ∧ (q.1 = 2 → q.2 ≤ 100000) ∧ (q.1 = 3 → q.2 ≤ 100000000) }) (fun q => [(0, .string s), (5, .int .i64 q.1.2), (6, .int .i64 2), (7, .int .i64 128), (8, .int .i64 (q.1.1 : Nat))]) (fun _ => Lp ++ F) (fun q => 2 - q.1.1) ⟨(1, (x : Int) - 192), by dsimp only; omega⟩ ⟨rfl, rfl, rfl, rfl, rfl, trivial⟩ .refl (fun q => ?_)
    obtain ⟨⟨k, c⟩, hk1, hk2, hc0, hc1, hc2, hc3, hc4⟩ := q
    dsimp only at hk1 hk2 hc0 hc1 hc2 hc3 hc4 ⊢
    repeat' (first | (show J _ _ _ (runS _ _ _ _ (⟨_, _, _, _, _, none⟩ :: _)); first | (show J _ _ _ (runS _ _ _ _ (⟨_, .move _, _, _, _, _⟩ :: _)); refine j_move rfl rfl ?_) | (show J _ _ _ (runS _ _ _ _ (⟨_, .binOp _ _ _ _ _, _, _, _, _⟩ :: _)); ((refine j_bin rfl rfl rfl rfl ?_))) | (show J _ _ _ (runS _ _ _ _ (⟨_, .assign _, _, _, _, _⟩ :: _)); refine j_assign rfl rfl ?_) | (show J _ _ _ (runS _ _ _ _ (⟨_, .pick _ _ _, _, _, _, _⟩ :: _)); (first | refine j_pick_t rfl rfl rfl ?_ | refine j_pick_f rfl rfl rfl ?_))) | refine j_nil ?_ | (show J _ _ _ (runS _ _ _ _ (⟨_, _, _, _, _, some _⟩ :: _)); first | refine j_gno_u rfl rfl rfl rfl ?_ | refine j_gun_u rfl rfl rfl ?_ | refine j_gyes rfl rfl rfl ?_ | refine j_gsplit_dec rfl rfl (fun h => ?_) (fun h => ?_)) | (show J _ _ _ (Code.wp _ _ _); first | refine j_seq ?_ | refine j_region ?_ | refine j_block ?_ | (show J _ _ _ (Code.wp _ (.cond _ _ _) _); first | refine j_true rfl ?_ | refine j_false rfl ?_ | refine j_dec rfl (fun h => ?_) (fun h => ?_)) | refine j_ret ?_ | refine j_skip ?_ | refine j_exit ?_) | refine j_then ?_ | refine j_then_ret ?_ | refine j_then_exit ?_ | refine j_inb_here ?_)
    · refine j_idxStr rfl rfl k rfl (by omega) rfl ?_
      obtain ⟨y, hy⟩ : ∃ y : Nat, y = (s.get! k).toNat := ⟨_, rfl⟩
      have hy2 : y < 256 := by rw [hy]; exact UInt8.toNat_lt _
      rw [← hy]
      repeat' (first | (show J _ _ _ (runS _ _ _ _ (⟨_, _, _, _, _, none⟩ :: _)); first | (show J _ _ _ (runS _ _ _ _ (⟨_, .assign _, _, _, _, _⟩ :: _)); refine j_assign rfl rfl ?_) | (show J _ _ _ (runS _ _ _ _ (⟨_, .convert _ _ _, _, _, _, _⟩ :: _)); refine j_conv rfl rfl ?_)) | refine j_nil ?_ | refine j_then ?_)
      rw [wrap64_id (x := (y : Int)) (by omega)]
      repeat' (first | (show J _ _ _ (runS _ _ _ _ (⟨_, _, _, _, _, none⟩ :: _)); first | (show J _ _ _ (runS _ _ _ _ (⟨_, .move _, _, _, _, _⟩ :: _)); refine j_move rfl rfl ?_) | (show J _ _ _ (runS _ _ _ _ (⟨_, .binOp _ _ _ _ _, _, _, _, _⟩ :: _)); (first | refine j_add rfl rfl (by omega) rfl ?_ | refine j_bin rfl rfl rfl rfl ?_)) | (show J _ _ _ (runS _ _ _ _ (⟨_, .assign _, _, _, _, _⟩ :: _)); refine j_assign rfl rfl ?_) | (show J _ _ _ (runS _ _ _ _ (⟨_, .pick _ _ _, _, _, _, _⟩ :: _)); (first | refine j_pick_t rfl rfl rfl ?_ | refine j_pick_f rfl rfl rfl ?_))) | refine j_nil ?_ | (show J _ _ _ (runS _ _ _ _ (⟨_, _, _, _, _, some _⟩ :: _)); first | refine j_gno_u rfl rfl rfl rfl ?_ | refine j_gyes rfl rfl rfl ?_ | refine j_gsplit_dec rfl rfl (fun h => ?_) (fun h => ?_)) | (show J _ _ _ (Code.wp _ _ _); first | refine j_seq ?_ | refine j_region ?_ | (show J _ _ _ (Code.wp _ (.cond _ _ _) _); first | refine j_true rfl ?_ | refine j_dec rfl (fun h => ?_) (fun h => ?_)) | refine j_ret ?_ | refine j_skip ?_) | refine j_then ?_ | refine j_then_ret ?_ | refine j_inb ?_ | refine j_inb_ret ?_)
      · exact j_ret3 (M := Lp) rfl rfl rfl rfl (by repeat ((exact .refl))) ⟨⟨_, 1, _, rfl, by omega, by omega⟩, rfl⟩
      · exact j_ret3 (M := Lp) rfl rfl rfl rfl (by repeat ((exact .refl))) ⟨⟨_, 1, _, rfl, by omega, by omega⟩, rfl⟩
      · rw [wrap64_id (x := c * 64) (by omega), wrap64_id (x := c * 64 + y) (by omega), wrap64_id (x := c * 64 + y - 128) (by omega)]
        exact j_round ⟨(k + 1, c * 64 + y - 128), by dsimp only; omega⟩ (by dsimp only; omega) ⟨rfl, rfl, rfl, rfl, rfl, trivial⟩ .refl
    all_goals first
      | exact j_ret3 (M := Lp) rfl rfl rfl rfl (by repeat ((exact .refl))) ⟨⟨_, 1, _, rfl, by omega, by omega⟩, rfl⟩
      | exact j_ret3 (M := Lp) rfl rfl rfl rfl (by repeat ((exact .refl))) ⟨⟨_, 2, _, rfl, by omega, by omega⟩, rfl⟩
  · exact j_ret3 (M := Lp) rfl rfl rfl rfl (by repeat ((exact .refl))) ⟨⟨_, 1, _, rfl, by omega, by omega⟩, rfl⟩
  · refine j_loop (X := { q : Nat × Int // 1 ≤ q.1 ∧ q.1 ≤ 3 ∧ 0 ≤ q.2 ∧ q.2 ≤ 100000000000 ∧ (q.1 = 1 → q.2 ≤ 255) ∧ (q.1 = 2 → q.2 ≤ 100000) ∧ (q.1 = 3 → q.2 ≤ 100000000) }) (fun q => [(0, .string s), (5, .int .i64 q.1.2), (6, .int .i64 3), (7, .int .i64 2048), (8, .int .i64 (q.1.1 : Nat))]) (fun _ => Lp ++ F) (fun q => 3 - q.1.1) ⟨(1, (x : Int) - 224), by dsimp only; omega⟩ ⟨rfl, rfl, rfl, rfl, rfl, trivial⟩ .refl (fun q => ?_)
    obtain ⟨⟨k, c⟩, hk1, hk2, hc0, hc1, hc2, hc3, hc4⟩ := q
    dsimp only at hk1 hk2 hc0 hc1 hc2 hc3 hc4 ⊢
    repeat' (first | (show J _ _ _ (runS _ _ _ _ (⟨_, _, _, _, _, none⟩ :: _)); first | (show J _ _ _ (runS _ _ _ _ (⟨_, .move _, _, _, _, _⟩ :: _)); refine j_move rfl rfl ?_) | (show J _ _ _ (runS _ _ _ _ (⟨_, .binOp _ _ _ _ _, _, _, _, _⟩ :: _)); ((refine j_bin rfl rfl rfl rfl ?_))) | (show J _ _ _ (runS _ _ _ _ (⟨_, .assign _, _, _, _, _⟩ :: _)); refine j_assign rfl rfl ?_) | (show J _ _ _ (runS _ _ _ _ (⟨_, .pick _ _ _, _, _, _, _⟩ :: _)); (first | refine j_pick_t rfl rfl rfl ?_ | refine j_pick_f rfl rfl rfl ?_))) | refine j_nil ?_ | (show J _ _ _ (runS _ _ _ _ (⟨_, _, _, _, _, some _⟩ :: _)); first | refine j_gno_u rfl rfl rfl rfl ?_ | refine j_gun_u rfl rfl rfl ?_ | refine j_gyes rfl rfl rfl ?_ | refine j_gsplit_dec rfl rfl (fun h => ?_) (fun h => ?_)) | (show J _ _ _ (Code.wp _ _ _); first | refine j_seq ?_ | refine j_region ?_ | refine j_block ?_ | (show J _ _ _ (Code.wp _ (.cond _ _ _) _); first | refine j_true rfl ?_ | refine j_false rfl ?_ | refine j_dec rfl (fun h => ?_) (fun h => ?_)) | refine j_ret ?_ | refine j_skip ?_ | refine j_exit ?_) | refine j_then ?_ | refine j_then_ret ?_ | refine j_then_exit ?_ | refine j_inb_here ?_)
    · refine j_idxStr rfl rfl k rfl (by omega) rfl ?_
      obtain ⟨y, hy⟩ : ∃ y : Nat, y = (s.get! k).toNat := ⟨_, rfl⟩
      have hy2 : y < 256 := by rw [hy]; exact UInt8.toNat_lt _
      rw [← hy]
      repeat' (first | (show J _ _ _ (runS _ _ _ _ (⟨_, _, _, _, _, none⟩ :: _)); first | (show J _ _ _ (runS _ _ _ _ (⟨_, .assign _, _, _, _, _⟩ :: _)); refine j_assign rfl rfl ?_) | (show J _ _ _ (runS _ _ _ _ (⟨_, .convert _ _ _, _, _, _, _⟩ :: _)); refine j_conv rfl rfl ?_)) | refine j_nil ?_ | refine j_then ?_)
      rw [wrap64_id (x := (y : Int)) (by omega)]
      repeat' (first | (show J _ _ _ (runS _ _ _ _ (⟨_, _, _, _, _, none⟩ :: _)); first | (show J _ _ _ (runS _ _ _ _ (⟨_, .move _, _, _, _, _⟩ :: _)); refine j_move rfl rfl ?_) | (show J _ _ _ (runS _ _ _ _ (⟨_, .binOp _ _ _ _ _, _, _, _, _⟩ :: _)); (first | refine j_add rfl rfl (by omega) rfl ?_ | refine j_bin rfl rfl rfl rfl ?_)) | (show J _ _ _ (runS _ _ _ _ (⟨_, .assign _, _, _, _, _⟩ :: _)); refine j_assign rfl rfl ?_) | (show J _ _ _ (runS _ _ _ _ (⟨_, .pick _ _ _, _, _, _, _⟩ :: _)); (first | refine j_pick_t rfl rfl rfl ?_ | refine j_pick_f rfl rfl rfl ?_))) | refine j_nil ?_ | (show J _ _ _ (runS _ _ _ _ (⟨_, _, _, _, _, some _⟩ :: _)); first | refine j_gno_u rfl rfl rfl rfl ?_ | refine j_gyes rfl rfl rfl ?_ | refine j_gsplit_dec rfl rfl (fun h => ?_) (fun h => ?_)) | (show J _ _ _ (Code.wp _ _ _); first | refine j_seq ?_ | refine j_region ?_ | (show J _ _ _ (Code.wp _ (.cond _ _ _) _); first | refine j_true rfl ?_ | refine j_dec rfl (fun h => ?_) (fun h => ?_)) | refine j_ret ?_ | refine j_skip ?_) | refine j_then ?_ | refine j_then_ret ?_ | refine j_inb ?_ | refine j_inb_ret ?_)
      · exact j_ret3 (M := Lp) rfl rfl rfl rfl (by repeat ((exact .refl))) ⟨⟨_, 1, _, rfl, by omega, by omega⟩, rfl⟩
      · exact j_ret3 (M := Lp) rfl rfl rfl rfl (by repeat ((exact .refl))) ⟨⟨_, 1, _, rfl, by omega, by omega⟩, rfl⟩
      · rw [wrap64_id (x := c * 64) (by omega), wrap64_id (x := c * 64 + y) (by omega), wrap64_id (x := c * 64 + y - 128) (by omega)]
        exact j_round ⟨(k + 1, c * 64 + y - 128), by dsimp only; omega⟩ (by dsimp only; omega) ⟨rfl, rfl, rfl, rfl, rfl, trivial⟩ .refl
    all_goals first
      | exact j_ret3 (M := Lp) rfl rfl rfl rfl (by repeat ((exact .refl))) ⟨⟨_, 1, _, rfl, by omega, by omega⟩, rfl⟩
      | exact j_ret3 (M := Lp) rfl rfl rfl rfl (by repeat ((exact .refl))) ⟨⟨_, 3, _, rfl, by omega, by omega⟩, rfl⟩
  · exact j_ret3 (M := Lp) rfl rfl rfl rfl (by repeat ((exact .refl))) ⟨⟨_, 1, _, rfl, by omega, by omega⟩, rfl⟩
  · refine j_loop (X := { q : Nat × Int // 1 ≤ q.1 ∧ q.1 ≤ 4 ∧ 0 ≤ q.2 ∧ q.2 ≤ 100000000000 ∧ (q.1 = 1 → q.2 ≤ 255) ∧ (q.1 = 2 → q.2 ≤ 100000) ∧ (q.1 = 3 → q.2 ≤ 100000000) }) (fun q => [(0, .string s), (5, .int .i64 q.1.2), (6, .int .i64 4), (7, .int .i64 65536), (8, .int .i64 (q.1.1 : Nat))]) (fun _ => Lp ++ F) (fun q => 4 - q.1.1) ⟨(1, (x : Int) - 240), by dsimp only; omega⟩ ⟨rfl, rfl, rfl, rfl, rfl, trivial⟩ .refl (fun q => ?_)
    obtain ⟨⟨k, c⟩, hk1, hk2, hc0, hc1, hc2, hc3, hc4⟩ := q
    dsimp only at hk1 hk2 hc0 hc1 hc2 hc3 hc4 ⊢
    repeat' (first | (show J _ _ _ (runS _ _ _ _ (⟨_, _, _, _, _, none⟩ :: _)); first | (show J _ _ _ (runS _ _ _ _ (⟨_, .move _, _, _, _, _⟩ :: _)); refine j_move rfl rfl ?_) | (show J _ _ _ (runS _ _ _ _ (⟨_, .binOp _ _ _ _ _, _, _, _, _⟩ :: _)); ((refine j_bin rfl rfl rfl rfl ?_))) | (show J _ _ _ (runS _ _ _ _ (⟨_, .assign _, _, _, _, _⟩ :: _)); refine j_assign rfl rfl ?_) | (show J _ _ _ (runS _ _ _ _ (⟨_, .pick _ _ _, _, _, _, _⟩ :: _)); (first | refine j_pick_t rfl rfl rfl ?_ | refine j_pick_f rfl rfl rfl ?_))) | refine j_nil ?_ | (show J _ _ _ (runS _ _ _ _ (⟨_, _, _, _, _, some _⟩ :: _)); first | refine j_gno_u rfl rfl rfl rfl ?_ | refine j_gun_u rfl rfl rfl ?_ | refine j_gyes rfl rfl rfl ?_ | refine j_gsplit_dec rfl rfl (fun h => ?_) (fun h => ?_)) | (show J _ _ _ (Code.wp _ _ _); first | refine j_seq ?_ | refine j_region ?_ | refine j_block ?_ | (show J _ _ _ (Code.wp _ (.cond _ _ _) _); first | refine j_true rfl ?_ | refine j_false rfl ?_ | refine j_dec rfl (fun h => ?_) (fun h => ?_)) | refine j_ret ?_ | refine j_skip ?_ | refine j_exit ?_) | refine j_then ?_ | refine j_then_ret ?_ | refine j_then_exit ?_ | refine j_inb_here ?_)
    · refine j_idxStr rfl rfl k rfl (by omega) rfl ?_
      obtain ⟨y, hy⟩ : ∃ y : Nat, y = (s.get! k).toNat := ⟨_, rfl⟩
      have hy2 : y < 256 := by rw [hy]; exact UInt8.toNat_lt _
      rw [← hy]
      repeat' (first | (show J _ _ _ (runS _ _ _ _ (⟨_, _, _, _, _, none⟩ :: _)); first | (show J _ _ _ (runS _ _ _ _ (⟨_, .assign _, _, _, _, _⟩ :: _)); refine j_assign rfl rfl ?_) | (show J _ _ _ (runS _ _ _ _ (⟨_, .convert _ _ _, _, _, _, _⟩ :: _)); refine j_conv rfl rfl ?_)) | refine j_nil ?_ | refine j_then ?_)
      rw [wrap64_id (x := (y : Int)) (by omega)]
      repeat' (first | (show J _ _ _ (runS _ _ _ _ (⟨_, _, _, _, _, none⟩ :: _)); first | (show J _ _ _ (runS _ _ _ _ (⟨_, .move _, _, _, _, _⟩ :: _)); refine j_move rfl rfl ?_) | (show J _ _ _ (runS _ _ _ _ (⟨_, .binOp _ _ _ _ _, _, _, _, _⟩ :: _)); (first | refine j_add rfl rfl (by omega) rfl ?_ | refine j_bin rfl rfl rfl rfl ?_)) | (show J _ _ _ (runS _ _ _ _ (⟨_, .assign _, _, _, _, _⟩ :: _)); refine j_assign rfl rfl ?_) | (show J _ _ _ (runS _ _ _ _ (⟨_, .pick _ _ _, _, _, _, _⟩ :: _)); (first | refine j_pick_t rfl rfl rfl ?_ | refine j_pick_f rfl rfl rfl ?_))) | refine j_nil ?_ | (show J _ _ _ (runS _ _ _ _ (⟨_, _, _, _, _, some _⟩ :: _)); first | refine j_gno_u rfl rfl rfl rfl ?_ | refine j_gyes rfl rfl rfl ?_ | refine j_gsplit_dec rfl rfl (fun h => ?_) (fun h => ?_)) | (show J _ _ _ (Code.wp _ _ _); first | refine j_seq ?_ | refine j_region ?_ | (show J _ _ _ (Code.wp _ (.cond _ _ _) _); first | refine j_true rfl ?_ | refine j_dec rfl (fun h => ?_) (fun h => ?_)) | refine j_ret ?_ | refine j_skip ?_) | refine j_then ?_ | refine j_then_ret ?_ | refine j_inb ?_ | refine j_inb_ret ?_)
      · exact j_ret3 (M := Lp) rfl rfl rfl rfl (by repeat ((exact .refl))) ⟨⟨_, 1, _, rfl, by omega, by omega⟩, rfl⟩
      · exact j_ret3 (M := Lp) rfl rfl rfl rfl (by repeat ((exact .refl))) ⟨⟨_, 1, _, rfl, by omega, by omega⟩, rfl⟩
      · rw [wrap64_id (x := c * 64) (by omega), wrap64_id (x := c * 64 + y) (by omega), wrap64_id (x := c * 64 + y - 128) (by omega)]
        exact j_round ⟨(k + 1, c * 64 + y - 128), by dsimp only; omega⟩ (by dsimp only; omega) ⟨rfl, rfl, rfl, rfl, rfl, trivial⟩ .refl
    all_goals first
      | exact j_ret3 (M := Lp) rfl rfl rfl rfl (by repeat ((exact .refl))) ⟨⟨_, 1, _, rfl, by omega, by omega⟩, rfl⟩
      | exact j_ret3 (M := Lp) rfl rfl rfl rfl (by repeat ((exact .refl))) ⟨⟨_, 4, _, rfl, by omega, by omega⟩, rfl⟩
  all_goals first
    | (exfalso; omega)
    | exact j_ret3 (M := Lp) rfl rfl rfl rfl (by repeat ((exact .refl))) ⟨⟨_, 1, _, rfl, by omega, by omega⟩, rfl⟩

theorem get_size {s : ByteArray} {n : Nat} (h : n ≤ s.size) : (s.extract n s.size).size = s.size - n := by
  simp
theorem brunes_spec (s : ByteArray) (hs : s.size ≤ 1000000) (Lp : List HP) : Tr Try.prog 105 [.string s] Lp (fun v M => (∃ (k : Nat) (b : Bool), v = .tuple #[.int .i64 (k : Nat), .bool b] ∧ (1 ≤ k → 1 ≤ s.size)) ∧ M = Lp) := by
  refine tr_enter Try.func105 rfl Try.ntmps105 rfl (fun F => ?_)
  repeat' (first | (show J _ _ _ (runS _ _ _ _ (⟨_, _, _, _, _, none⟩ :: _)); (show J _ _ _ (runS _ _ _ _ (⟨_, .assign _, _, _, _, _⟩ :: _)); refine j_assign rfl rfl ?_)) | refine j_nil ?_ | (show J _ _ _ (Code.wp _ _ _); first | refine j_seq ?_ | refine j_region ?_ | refine j_block ?_) | refine j_then ?_)
  refine j_loop (X := { q : Nat × ByteArray × Bool // q.1 + q.2.1.size ≤ s.size }) (fun q => [(0, .string q.1.2.1), (4, .int .i64 (q.1.1 : Nat)), (5, .bool q.1.2.2)]) (fun _ => Lp ++ F) (fun q => q.1.2.1.size) ⟨(0, s, true), by dsimp only; omega⟩ ⟨rfl, rfl, rfl, trivial⟩ .refl (fun q => ?_)
  obtain ⟨⟨k, u, rt⟩, hk⟩ := q
  dsimp only at hk ⊢
  repeat' (first | (show J _ _ _ (runS _ _ _ _ (⟨_, _, _, _, _, none⟩ :: _)); first | (show J _ _ _ (runS _ _ _ _ (⟨_, .move _, _, _, _, _⟩ :: _)); refine j_move rfl rfl ?_) | (show J _ _ _ (runS _ _ _ _ (⟨_, .binOp _ _ _ _ _, _, _, _, _⟩ :: _)); ((refine j_bin rfl rfl rfl rfl ?_))) | (show J _ _ _ (runS _ _ _ _ (⟨_, .assign _, _, _, _, _⟩ :: _)); refine j_assign rfl rfl ?_) | (show J _ _ _ (runS _ _ _ _ (⟨_, .call ⟨.builtin .len, _, _⟩, _, _, _, _⟩ :: _)); ((refine j_len_str rfl rfl ?_)))) | refine j_nil ?_ | (show J _ _ _ (Code.wp _ _ _); first | refine j_seq ?_ | refine j_region ?_ | refine j_block ?_ | (show J _ _ _ (Code.wp _ (.cond _ _ _) _); (refine j_dec rfl (fun h => ?_) (fun h => ?_))) | refine j_ret ?_ | refine j_skip ?_ | refine j_exit ?_) | refine j_then ?_ | refine j_then_exit ?_ | refine j_inb_here ?_)
  · (refine j_call rfl rfl (brune_spec u (by omega) []) (.refl) rfl (fun v M N h hN => ?_); obtain ⟨⟨c, n, b, rfl, hn1, hn2⟩, rfl⟩ := h; (try simp only [List.nil_append, List.cons_append, List.append_assoc] at hN); subst hN)
    repeat' (first | (show J _ _ _ (runS _ _ _ _ (⟨_, _, _, _, _, none⟩ :: _)); first | (show J _ _ _ (runS _ _ _ _ (⟨_, .move _, _, _, _, _⟩ :: _)); refine j_move rfl rfl ?_) | (show J _ _ _ (runS _ _ _ _ (⟨_, .assign _, _, _, _, _⟩ :: _)); refine j_assign rfl rfl ?_) | (show J _ _ _ (runS _ _ _ _ (⟨_, .extract _ _, _, _, _, _⟩ :: _)); refine j_extract rfl rfl rfl ?_)) | refine j_nil ?_ | (show J _ _ _ (Code.wp _ _ _); first | refine j_seq ?_ | refine j_region ?_) | refine j_then ?_)
    refine j_fromStr n rfl rfl rfl hn2 rfl ?_
    have hsz := get_size hn2
    cases rt <;> repeat' (first | (show J _ _ _ (runS _ _ _ _ (⟨_, _, _, _, _, none⟩ :: _)); first | (show J _ _ _ (runS _ _ _ _ (⟨_, .move _, _, _, _, _⟩ :: _)); refine j_move rfl rfl ?_) | (show J _ _ _ (runS _ _ _ _ (⟨_, .binOp _ _ _ _ _, _, _, _, _⟩ :: _)); ((refine j_add rfl rfl (by omega) rfl ?_))) | (show J _ _ _ (runS _ _ _ _ (⟨_, .assign _, _, _, _, _⟩ :: _)); refine j_assign rfl rfl ?_) | (show J _ _ _ (runS _ _ _ _ (⟨_, .pick _ _ _, _, _, _, _⟩ :: _)); (first | refine j_pick_t rfl rfl rfl ?_ | refine j_pick_f rfl rfl rfl ?_))) | refine j_nil ?_ | (show J _ _ _ (runS _ _ _ _ (⟨_, _, _, _, _, some _⟩ :: _)); first | refine j_gno_u rfl rfl rfl rfl ?_ | refine j_gyes rfl rfl rfl ?_) | (show J _ _ _ (Code.wp _ _ _); first | refine j_seq ?_ | refine j_region ?_) | refine j_then ?_ | refine j_inb ?_)
    all_goals exact j_round ⟨(k + 1, u.extract n u.size, _), by dsimp only; omega⟩ (by dsimp only; omega) ⟨rfl, rfl, rfl, trivial⟩ .refl
  · exact j_ret2 (M := Lp) rfl rfl rfl (by repeat ((exact .refl))) ⟨⟨k, rt, rfl, by omega⟩, rfl⟩
theorem bname_spec (s : ByteArray) (hs : s.size ≤ 1000000) (Lp : List HP) : Tr Try.prog 101 [.string s] Lp (anyB Lp) := by
  refine tr_enter Try.func101 rfl Try.ntmps101 rfl (fun F => ?_)
  repeat' (first | (show J _ _ _ (runS _ _ _ _ (⟨_, _, _, _, _, none⟩ :: _)); first | (show J _ _ _ (runS _ _ _ _ (⟨_, .move _, _, _, _, _⟩ :: _)); refine j_move rfl rfl ?_) | (show J _ _ _ (runS _ _ _ _ (⟨_, .assign _, _, _, _, _⟩ :: _)); refine j_assign rfl rfl ?_)) | refine j_nil ?_ | (show J _ _ _ (Code.wp _ _ _); first | refine j_seq ?_ | refine j_region ?_) | refine j_then ?_)
  (refine j_call rfl rfl (brunes_spec s hs []) (.refl) rfl (fun v M N h hN => ?_); obtain ⟨⟨k, rt, rfl, hk⟩, rfl⟩ := h; (try simp only [List.nil_append, List.cons_append, List.append_assoc] at hN); subst hN)
  cases rt <;> repeat' (first | (show J _ _ _ (runS _ _ _ _ (⟨_, _, _, _, _, none⟩ :: _)); first | (show J _ _ _ (runS _ _ _ _ (⟨_, .move _, _, _, _, _⟩ :: _)); refine j_move rfl rfl ?_) | (show J _ _ _ (runS _ _ _ _ (⟨_, .binOp _ _ _ _ _, _, _, _, _⟩ :: _)); ((refine j_bin rfl rfl rfl rfl ?_))) | (show J _ _ _ (runS _ _ _ _ (⟨_, .assign _, _, _, _, _⟩ :: _)); refine j_assign rfl rfl ?_) | (show J _ _ _ (runS _ _ _ _ (⟨_, .pick _ _ _, _, _, _, _⟩ :: _)); (first | refine j_pick_t rfl rfl rfl ?_ | refine j_pick_f rfl rfl rfl ?_)) | (show J _ _ _ (runS _ _ _ _ (⟨_, .unOp _ _ _, _, _, _, _⟩ :: _)); ((refine j_not_b rfl rfl ?_))) | (show J _ _ _ (runS _ _ _ _ (⟨_, .extract _ _, _, _, _, _⟩ :: _)); refine j_extract rfl rfl rfl ?_)) | refine j_nil ?_ | (show J _ _ _ (runS _ _ _ _ (⟨_, _, _, _, _, some _⟩ :: _)); first | refine j_gno_u rfl rfl rfl rfl ?_ | refine j_gyes rfl rfl rfl ?_ | refine j_gsplit_dec rfl rfl (fun h => ?_) (fun h => ?_)) | (show J _ _ _ (Code.wp _ _ _); first | refine j_seq ?_ | refine j_region ?_ | (show J _ _ _ (Code.wp _ (.cond _ _ _) _); (refine j_true rfl ?_)) | refine j_ret ?_) | refine j_then ?_ | refine j_then_ret ?_)
  all_goals first
    | exact j_ret1 (M := Lp) rfl rfl (by repeat ((exact .refl))) ⟨⟨_, rfl⟩, rfl⟩
    | skip
  repeat' (fail)
  refine j_idxStr rfl rfl 0 rfl (by omega) rfl ?_
  repeat' (first | (show J _ _ _ (runS _ _ _ _ (⟨_, _, _, _, _, none⟩ :: _)); first | (show J _ _ _ (runS _ _ _ _ (⟨_, .binOp _ _ _ _ _, _, _, _, _⟩ :: _)); ((refine j_bin rfl rfl rfl rfl ?_))) | (show J _ _ _ (runS _ _ _ _ (⟨_, .assign _, _, _, _, _⟩ :: _)); refine j_assign rfl rfl ?_) | (show J _ _ _ (runS _ _ _ _ (⟨_, .pick _ _ _, _, _, _, _⟩ :: _)); ((refine j_pick_f rfl rfl rfl ?_)))) | refine j_nil ?_ | (show J _ _ _ (runS _ _ _ _ (⟨_, _, _, _, _, some _⟩ :: _)); (refine j_gyes rfl rfl rfl ?_)) | (show J _ _ _ (Code.wp _ _ _); first | refine j_seq ?_ | refine j_region ?_ | refine j_block ?_ | (show J _ _ _ (Code.wp _ (.cond _ _ _) _); (refine j_dec rfl (fun h => ?_) (fun h => ?_))) | refine j_ret ?_ | refine j_skip ?_) | refine j_then ?_ | refine j_then_ret ?_)
  · exact j_ret1 (M := Lp) rfl rfl (by repeat ((exact .refl))) ⟨⟨_, rfl⟩, rfl⟩
  refine j_loop (X := { u : ByteArray // u.size ≤ s.size }) (fun u => [(0, .string u.1)]) (fun _ => Lp ++ F) (fun u => u.1.size) ⟨s, Nat.le_refl _⟩ ⟨rfl, trivial⟩ .refl (fun u => ?_)
  obtain ⟨u, hu⟩ := u
  dsimp only
  repeat' (first | (show J _ _ _ (runS _ _ _ _ (⟨_, _, _, _, _, none⟩ :: _)); first | (show J _ _ _ (runS _ _ _ _ (⟨_, .move _, _, _, _, _⟩ :: _)); refine j_move rfl rfl ?_) | (show J _ _ _ (runS _ _ _ _ (⟨_, .binOp _ _ _ _ _, _, _, _, _⟩ :: _)); ((refine j_bin rfl rfl rfl rfl ?_))) | (show J _ _ _ (runS _ _ _ _ (⟨_, .assign _, _, _, _, _⟩ :: _)); refine j_assign rfl rfl ?_) | (show J _ _ _ (runS _ _ _ _ (⟨_, .call ⟨.builtin .len, _, _⟩, _, _, _, _⟩ :: _)); ((refine j_len_str rfl rfl ?_)))) | refine j_nil ?_ | (show J _ _ _ (Code.wp _ _ _); first | refine j_seq ?_ | refine j_region ?_ | refine j_block ?_ | (show J _ _ _ (Code.wp _ (.cond _ _ _) _); (refine j_dec rfl (fun h => ?_) (fun h => ?_))) | refine j_ret ?_ | refine j_skip ?_ | refine j_exit ?_) | refine j_then ?_ | refine j_then_exit ?_ | refine j_inb_here ?_)
  · (refine j_call rfl rfl (brune_spec u (by omega) []) (.refl) rfl (fun v M N h hN => ?_); obtain ⟨⟨c, n, b, rfl, hn1, hn2⟩, rfl⟩ := h; (try simp only [List.nil_append, List.cons_append, List.append_assoc] at hN); subst hN)
    have hsz := get_size hn2
    repeat' (first | (show J _ _ _ (runS _ _ _ _ (⟨_, _, _, _, _, none⟩ :: _)); first | (show J _ _ _ (runS _ _ _ _ (⟨_, .move _, _, _, _, _⟩ :: _)); refine j_move rfl rfl ?_) | (show J _ _ _ (runS _ _ _ _ (⟨_, .binOp _ _ _ _ _, _, _, _, _⟩ :: _)); ((refine j_bin rfl rfl rfl rfl ?_))) | (show J _ _ _ (runS _ _ _ _ (⟨_, .assign _, _, _, _, _⟩ :: _)); refine j_assign rfl rfl ?_) | (show J _ _ _ (runS _ _ _ _ (⟨_, .pick _ _ _, _, _, _, _⟩ :: _)); (first | refine j_pick_t rfl rfl rfl ?_ | refine j_pick_f rfl rfl rfl ?_)) | (show J _ _ _ (runS _ _ _ _ (⟨_, .extract _ _, _, _, _, _⟩ :: _)); refine j_extract rfl rfl rfl ?_)) | refine j_nil ?_ | (show J _ _ _ (runS _ _ _ _ (⟨_, _, _, _, _, some _⟩ :: _)); first | refine j_gno_u rfl rfl rfl rfl ?_ | refine j_gun_u rfl rfl rfl ?_ | refine j_gyes rfl rfl rfl ?_ | refine j_gsplit_dec rfl rfl (fun h => ?_) (fun h => ?_)) | (show J _ _ _ (Code.wp _ _ _); first | refine j_seq ?_ | refine j_region ?_ | (show J _ _ _ (Code.wp _ (.cond _ _ _) _); first | refine j_true rfl ?_ | refine j_dec rfl (fun h => ?_) (fun h => ?_)) | refine j_ret ?_ | refine j_skip ?_) | refine j_then ?_ | refine j_then_ret ?_ | refine j_inb_ret ?_)
    all_goals first
      | exact j_ret1 (M := Lp) rfl rfl (by repeat ((exact .refl))) ⟨⟨_, rfl⟩, rfl⟩
      | (refine j_fromStr n rfl rfl rfl hn2 rfl ?_
         repeat' (first | (show J _ _ _ (runS _ _ _ _ (⟨_, _, _, _, _, none⟩ :: _)); (show J _ _ _ (runS _ _ _ _ (⟨_, .assign _, _, _, _, _⟩ :: _)); refine j_assign rfl rfl ?_)) | refine j_nil ?_ | refine j_then ?_ | refine j_inb ?_)
         exact j_round ⟨u.extract n u.size, by omega⟩ (by dsimp only; omega) ⟨rfl, trivial⟩ .refl)
  · exact j_ret1 (M := Lp) rfl rfl (by repeat ((exact .refl))) ⟨⟨_, rfl⟩, rfl⟩
theorem bvec_spec (a b c : Int) (Lp : List HP) : Tr Try.prog 102 [.agg #[.int .i64 a, .int .i64 b, .int .i64 c]] Lp (anyB Lp) := by
  refine tr_enter Try.func102 rfl Try.ntmps102 rfl (fun F => ?_)
  repeat' (first | (show J _ _ _ (runS _ _ _ _ (⟨_, _, _, _, _, none⟩ :: _)); first | (show J _ _ _ (runS _ _ _ _ (⟨_, .assign _, _, _, _, _⟩ :: _)); refine j_assign rfl rfl ?_) | (show J _ _ _ (runS _ _ _ _ (⟨_, .box _ _, _, _, _, _⟩ :: _)); refine j_box rfl rfl (fun b => ?_))) | refine j_nil ?_ | (show J _ _ _ (Code.wp _ _ _); first | refine j_seq ?_ | refine j_region ?_) | refine j_then ?_)
  refine j_indexArr rfl rfl 0 rfl (by decide) rfl ?_
  repeat' (first | (show J _ _ _ (runS _ _ _ _ (⟨_, _, _, _, _, none⟩ :: _)); first | (show J _ _ _ (runS _ _ _ _ (⟨_, .move _, _, _, _, _⟩ :: _)); refine j_move rfl rfl ?_) | (show J _ _ _ (runS _ _ _ _ (⟨_, .load _ _, _, _, _, _⟩ :: _)); ((refine j_load rfl rfl (by repeat constructor) rfl rfl ?_))) | (show J _ _ _ (runS _ _ _ _ (⟨_, .binOp _ _ _ _ _, _, _, _, _⟩ :: _)); ((refine j_bin rfl rfl rfl rfl ?_))) | (show J _ _ _ (runS _ _ _ _ (⟨_, .assign _, _, _, _, _⟩ :: _)); refine j_assign rfl rfl ?_) | (show J _ _ _ (runS _ _ _ _ (⟨_, .pick _ _ _, _, _, _, _⟩ :: _)); ((refine j_pick_f rfl rfl rfl ?_)))) | refine j_nil ?_ | (show J _ _ _ (runS _ _ _ _ (⟨_, _, _, _, _, some _⟩ :: _)); first | refine j_gno_u rfl rfl rfl rfl ?_ | refine j_gyes rfl rfl rfl ?_ | refine j_gsplit_dec rfl rfl (fun h => ?_) (fun h => ?_)) | (show J _ _ _ (Code.wp _ _ _); (refine j_ret ?_)) | refine j_then ?_)
  · refine j_indexArr rfl rfl 1 rfl (by decide) rfl ?_
    repeat' (first | (show J _ _ _ (runS _ _ _ _ (⟨_, _, _, _, _, none⟩ :: _)); first | (show J _ _ _ (runS _ _ _ _ (⟨_, .move _, _, _, _, _⟩ :: _)); refine j_move rfl rfl ?_) | (show J _ _ _ (runS _ _ _ _ (⟨_, .load _ _, _, _, _, _⟩ :: _)); ((refine j_load rfl rfl (by repeat constructor) rfl rfl ?_))) | (show J _ _ _ (runS _ _ _ _ (⟨_, .binOp _ _ _ _ _, _, _, _, _⟩ :: _)); ((refine j_bin rfl rfl rfl rfl ?_))) | (show J _ _ _ (runS _ _ _ _ (⟨_, .assign _, _, _, _, _⟩ :: _)); refine j_assign rfl rfl ?_) | (show J _ _ _ (runS _ _ _ _ (⟨_, .pick _ _ _, _, _, _, _⟩ :: _)); (first | refine j_pick_t rfl rfl rfl ?_ | refine j_pick_f rfl rfl rfl ?_))) | refine j_nil ?_ | (show J _ _ _ (runS _ _ _ _ (⟨_, _, _, _, _, some _⟩ :: _)); first | refine j_gno_u rfl rfl rfl rfl ?_ | refine j_gyes rfl rfl rfl ?_ | refine j_gsplit_dec rfl rfl (fun h => ?_) (fun h => ?_)) | (show J _ _ _ (Code.wp _ _ _); (refine j_ret ?_)) | refine j_then ?_)
    · refine j_indexArr rfl rfl 2 rfl (by decide) rfl ?_
      repeat' (first | (show J _ _ _ (runS _ _ _ _ (⟨_, _, _, _, _, none⟩ :: _)); first | (show J _ _ _ (runS _ _ _ _ (⟨_, .load _ _, _, _, _, _⟩ :: _)); ((refine j_load rfl rfl (by repeat constructor) rfl rfl ?_))) | (show J _ _ _ (runS _ _ _ _ (⟨_, .binOp _ _ _ _ _, _, _, _, _⟩ :: _)); ((refine j_bin rfl rfl rfl rfl ?_))) | (show J _ _ _ (runS _ _ _ _ (⟨_, .assign _, _, _, _, _⟩ :: _)); refine j_assign rfl rfl ?_) | (show J _ _ _ (runS _ _ _ _ (⟨_, .pick _ _ _, _, _, _, _⟩ :: _)); ((refine j_pick_t rfl rfl rfl ?_)))) | refine j_nil ?_ | (show J _ _ _ (runS _ _ _ _ (⟨_, _, _, _, _, some _⟩ :: _)); (refine j_gyes rfl rfl rfl ?_)) | (show J _ _ _ (Code.wp _ _ _); (refine j_ret ?_)) | refine j_then ?_)
      exact j_ret1 (M := Lp) rfl rfl (by repeat (first | exact .refl | refine .drop ?_)) ⟨⟨_, rfl⟩, rfl⟩
    · exact j_ret1 (M := Lp) rfl rfl (by repeat (first | exact .refl | refine .drop ?_)) ⟨⟨_, rfl⟩, rfl⟩
  · exact j_ret1 (M := Lp) rfl rfl (by repeat (first | exact .refl | refine .drop ?_)) ⟨⟨_, rfl⟩, rfl⟩
end Go.Proofs.Ytnmfpgfgjjmfhaa
end

section
set_option linter.unusedVariables false
set_option linter.unusedSimpArgs false
set_option maxRecDepth 100000
namespace Go.Proofs.Ytnmfpgfgjjmfhaa
open Go
attribute [local irreducible] Exit.then Exit.inBlock Code.wp runS bodyPost postF J runT cutQ cutR Tr Sat blk Sl Old Star Ex Pu
theorem bmay_spec (c : Cm) (hn : c.nm.size ≤ 1000000) (ho : c.oo.size ≤ 1000000) (Lp : List HP) : Tr Try.prog 92 [.agg (Enc.enc c).toArray] Lp (fun v M => (∃ b, v = .bool b ∧ (b = true → 1 ≤ c.op)) ∧ M = Lp) := by
  rw [show Enc.enc c = [.int .i64 c.op, .string c.nm, .string c.oo, .int .i64 c.v.a, .int .i64 c.v.b, .int .i64 c.v.c, .int .i64 c.n] from rfl]
  refine tr_enter Try.func92 rfl Try.ntmps92 rfl (fun F => ?_)
  refine j_seq ?_
  refine j_region ?_
  repeat' (first | (show J _ _ _ (runS _ _ _ _ (⟨_, _, _, _, _, none⟩ :: _)); first | (show J _ _ _ (runS _ _ _ _ (⟨_, .assign _, _, _, _, _⟩ :: _)); refine j_assign rfl rfl ?_) | (show J _ _ _ (runS _ _ _ _ (⟨_, .box _ _, _, _, _, _⟩ :: _)); refine j_box rfl rfl (fun b => ?_))) | refine j_nil ?_ | refine j_then ?_)
  obtain ⟨bc, hbc⟩ : ∃ b', b' = b := ⟨_, rfl⟩
  subst hbc
  refine j_seq ?_
  refine j_cutR (X := { _u : Unit // 1 ≤ c.op }) (fun _ => [(1, .pointer (some ⟨bc, 0, none⟩)), (2, .bool false)]) (fun _ => blk bc 44 [.int .i64 c.op, .string c.nm, .string c.oo, .int .i64 c.v.a, .int .i64 c.v.b, .int .i64 c.v.c, .int .i64 c.n] :: (Lp ++ F)) ?_ (fun q => ?_)
  · repeat' (first | (show J _ _ _ (runS _ _ _ _ (⟨_, _, _, _, _, none⟩ :: _)); first | (show J _ _ _ (runS _ _ _ _ (⟨_, .move _, _, _, _, _⟩ :: _)); refine j_move rfl rfl ?_) | (show J _ _ _ (runS _ _ _ _ (⟨_, .load _ _, _, _, _, _⟩ :: _)); ((refine j_load rfl rfl (by repeat constructor) rfl rfl ?_))) | (show J _ _ _ (runS _ _ _ _ (⟨_, .fieldAddr _ _ _, _, _, _, _⟩ :: _)); refine j_fieldAddr rfl rfl ?_) | (show J _ _ _ (runS _ _ _ _ (⟨_, .binOp _ _ _ _ _, _, _, _, _⟩ :: _)); ((refine j_bin rfl rfl rfl rfl ?_))) | (show J _ _ _ (runS _ _ _ _ (⟨_, .assign _, _, _, _, _⟩ :: _)); refine j_assign rfl rfl ?_) | (show J _ _ _ (runS _ _ _ _ (⟨_, .pick _ _ _, _, _, _, _⟩ :: _)); (first | refine j_pick_t rfl rfl rfl ?_ | refine j_pick_f rfl rfl rfl ?_)) | (show J _ _ _ (runS _ _ _ _ (⟨_, .unOp _ _ _, _, _, _, _⟩ :: _)); ((refine j_not_b rfl rfl ?_)))) | refine j_nil ?_ | (show J _ _ _ (runS _ _ _ _ (⟨_, _, _, _, _, some _⟩ :: _)); first | refine j_gno_u rfl rfl rfl rfl ?_ | refine j_gyes rfl rfl rfl ?_ | refine j_gsplit_dec rfl rfl (fun h => ?_) (fun h => ?_) | refine j_gsplit rfl rfl (fun h => ?_) (fun h => ?_)) | (show J _ _ _ (Code.wp _ _ _); first | refine j_seq ?_ | refine j_region ?_ | (show J _ _ _ (Code.wp _ (.cond _ _ _) _); first | refine j_true rfl ?_ | refine j_dec rfl (fun h => ?_) (fun h => ?_)) | refine j_ret ?_ | refine j_skip ?_) | refine j_cutRret ?_ | refine j_then ?_ | refine j_then_ret ?_ | (refine j_call rfl rfl (bname_spec c.nm hn []) (.refl) rfl (fun v M N h hN => ?_); obtain ⟨⟨b1, rfl⟩, rfl⟩ := h; (try simp only [List.nil_append, List.cons_append, List.append_assoc] at hN); subst hN))
    all_goals first
      | exact j_ret1 (M := Lp) rfl rfl (by repeat (first | exact .refl | refine .drop ?_)) ⟨⟨false, rfl, fun h => (by cases h)⟩, rfl⟩
      | exact j_cutRend (Y := { _u : Unit // 1 ≤ c.op }) ⟨(), by omega⟩ ⟨rfl, rfl, trivial⟩ .refl
  obtain ⟨_, hop⟩ := q
  repeat' ((refine j_then ?_))
  refine j_seq ?_
  refine j_region ?_
  repeat' (fail)
  refine j_buildA0 rfl ?_
  repeat' (first | (show J _ _ _ (runS _ _ _ _ (⟨_, _, _, _, _, none⟩ :: _)); first | (show J _ _ _ (runS _ _ _ _ (⟨_, .store _ _ _, _, _, _, _⟩ :: _)); ((refine j_sets rfl rfl rfl (by rfl) (by repeat constructor) (by repeat constructor) (by rfl) ?_))) | (show J _ _ _ (runS _ _ _ _ (⟨_, .alloc _, _, _, _, _⟩ :: _)); refine j_alloc rfl (fun b => ?_))) | refine j_nil ?_ | refine j_then ?_)
  obtain ⟨bz, hbz⟩ : ∃ b', b' = b := ⟨_, rfl⟩
  subst hbz
  refine j_seq ?_
  refine j_cutR (X := Bool) (fun q => [(1, .pointer (some ⟨bc, 0, none⟩)), (2, .bool false), (3, .pointer (some ⟨bz, 0, none⟩)), (4, .bool q)]) (fun _ => blk bz 42 [.int .i64 0, .int .i64 0, .int .i64 0] :: blk bc 44 [.int .i64 c.op, .string c.nm, .string c.oo, .int .i64 c.v.a, .int .i64 c.v.b, .int .i64 c.v.c, .int .i64 c.n] :: (Lp ++ F)) ?_ (fun q => ?_)
  · repeat' (first | (show J _ _ _ (runS _ _ _ _ (⟨_, _, _, _, _, none⟩ :: _)); first | (show J _ _ _ (runS _ _ _ _ (⟨_, .move _, _, _, _, _⟩ :: _)); refine j_move rfl rfl ?_) | (show J _ _ _ (runS _ _ _ _ (⟨_, .load _ _, _, _, _, _⟩ :: _)); ((refine j_load rfl rfl (by repeat constructor) rfl rfl ?_))) | (show J _ _ _ (runS _ _ _ _ (⟨_, .fieldAddr _ _ _, _, _, _, _⟩ :: _)); refine j_fieldAddr rfl rfl ?_) | (show J _ _ _ (runS _ _ _ _ (⟨_, .binOp _ _ _ _ _, _, _, _, _⟩ :: _)); ((refine j_bin rfl rfl rfl rfl ?_))) | (show J _ _ _ (runS _ _ _ _ (⟨_, .assign _, _, _, _, _⟩ :: _)); refine j_assign rfl rfl ?_) | (show J _ _ _ (runS _ _ _ _ (⟨_, .pick _ _ _, _, _, _, _⟩ :: _)); (first | refine j_pick_t rfl rfl rfl ?_ | refine j_pick_f rfl rfl rfl ?_))) | refine j_nil ?_ | (show J _ _ _ (runS _ _ _ _ (⟨_, _, _, _, _, some _⟩ :: _)); first | refine j_gno_u rfl rfl rfl rfl ?_ | refine j_gyes rfl rfl rfl ?_ | refine j_gsplit_dec rfl rfl (fun h => ?_) (fun h => ?_)) | (show J _ _ _ (Code.wp _ _ _); (refine j_region ?_)))
    all_goals exact j_cutRend (Y := Bool) _ ⟨rfl, rfl, rfl, rfl, trivial⟩ .refl
  repeat' ((refine j_then ?_))
  refine j_seq ?_
  refine j_cutR (X := Bool) (fun p => [(1, .pointer (some ⟨bc, 0, none⟩)), (2, .bool false), (3, .pointer (some ⟨bz, 0, none⟩)), (4, .bool q), (5, .bool p)]) (fun _ => blk bz 42 [.int .i64 0, .int .i64 0, .int .i64 0] :: blk bc 44 [.int .i64 c.op, .string c.nm, .string c.oo, .int .i64 c.v.a, .int .i64 c.v.b, .int .i64 c.v.c, .int .i64 c.n] :: (Lp ++ F)) ?_ (fun p => ?_)
  · repeat' (first | (show J _ _ _ (runS _ _ _ _ (⟨_, _, _, _, _, none⟩ :: _)); first | (show J _ _ _ (runS _ _ _ _ (⟨_, .move _, _, _, _, _⟩ :: _)); refine j_move rfl rfl ?_) | (show J _ _ _ (runS _ _ _ _ (⟨_, .load _ _, _, _, _, _⟩ :: _)); ((refine j_load rfl rfl (by repeat constructor) rfl rfl ?_))) | (show J _ _ _ (runS _ _ _ _ (⟨_, .fieldAddr _ _ _, _, _, _, _⟩ :: _)); refine j_fieldAddr rfl rfl ?_) | (show J _ _ _ (runS _ _ _ _ (⟨_, .binOp _ _ _ _ _, _, _, _, _⟩ :: _)); ((refine j_bin rfl rfl rfl rfl ?_))) | (show J _ _ _ (runS _ _ _ _ (⟨_, .assign _, _, _, _, _⟩ :: _)); refine j_assign rfl rfl ?_) | (show J _ _ _ (runS _ _ _ _ (⟨_, .pick _ _ _, _, _, _, _⟩ :: _)); (first | refine j_pick_t rfl rfl rfl ?_ | refine j_pick_f rfl rfl rfl ?_))) | refine j_nil ?_ | (show J _ _ _ (runS _ _ _ _ (⟨_, _, _, _, _, some _⟩ :: _)); first | refine j_gno_u rfl rfl rfl rfl ?_ | refine j_gyes rfl rfl rfl ?_ | refine j_gsplit_dec rfl rfl (fun h => ?_) (fun h => ?_)) | (show J _ _ _ (Code.wp _ _ _); (refine j_region ?_)))
    all_goals exact j_cutRend (Y := Bool) _ ⟨rfl, rfl, rfl, rfl, rfl, trivial⟩ .refl
  repeat' ((refine j_then ?_))
  refine j_seq ?_
  refine j_cutR (X := Unit) (fun _ => [(1, .pointer (some ⟨bc, 0, none⟩)), (2, .bool false), (3, .pointer (some ⟨bz, 0, none⟩)), (5, .bool p)]) (fun _ => blk bz 42 [.int .i64 0, .int .i64 0, .int .i64 0] :: blk bc 44 [.int .i64 c.op, .string c.nm, .string c.oo, .int .i64 c.v.a, .int .i64 c.v.b, .int .i64 c.v.c, .int .i64 c.n] :: (Lp ++ F)) ?_ (fun _ => ?_)
  · cases q <;> repeat' (first | (show J _ _ _ (runS _ _ _ _ (⟨_, _, _, _, _, none⟩ :: _)); first | (show J _ _ _ (runS _ _ _ _ (⟨_, .move _, _, _, _, _⟩ :: _)); refine j_move rfl rfl ?_) | (show J _ _ _ (runS _ _ _ _ (⟨_, .load _ _, _, _, _, _⟩ :: _)); ((refine j_load rfl rfl (by repeat constructor) rfl rfl ?_))) | (show J _ _ _ (runS _ _ _ _ (⟨_, .fieldAddr _ _ _, _, _, _, _⟩ :: _)); refine j_fieldAddr rfl rfl ?_) | (show J _ _ _ (runS _ _ _ _ (⟨_, .binOp _ _ _ _ _, _, _, _, _⟩ :: _)); ((refine j_nestr rfl rfl rfl ?_))) | (show J _ _ _ (runS _ _ _ _ (⟨_, .assign _, _, _, _, _⟩ :: _)); refine j_assign rfl rfl ?_) | (show J _ _ _ (runS _ _ _ _ (⟨_, .pick _ _ _, _, _, _, _⟩ :: _)); (first | refine j_pick_t rfl rfl rfl ?_ | refine j_pick_f rfl rfl rfl ?_)) | (show J _ _ _ (runS _ _ _ _ (⟨_, .unOp _ _ _, _, _, _, _⟩ :: _)); ((refine j_not_b rfl rfl ?_)))) | refine j_nil ?_ | (show J _ _ _ (runS _ _ _ _ (⟨_, _, _, _, _, some _⟩ :: _)); first | refine j_gno_u rfl rfl rfl rfl ?_ | refine j_gun_u rfl rfl rfl ?_ | refine j_gyes rfl rfl rfl ?_ | refine j_gsplit rfl rfl (fun h => ?_) (fun h => ?_)) | (show J _ _ _ (Code.wp _ _ _); first | refine j_seq ?_ | refine j_region ?_ | (show J _ _ _ (Code.wp _ (.cond _ _ _) _); first | refine j_true rfl ?_ | refine j_false rfl ?_ | refine j_dec rfl (fun h => ?_) (fun h => ?_)) | refine j_ret ?_ | refine j_skip ?_) | refine j_cutRret ?_ | refine j_then ?_ | refine j_then_ret ?_ | (refine j_call rfl rfl (bname_spec c.oo ho []) (.refl) rfl (fun v M N h hN => ?_); obtain ⟨⟨b1, rfl⟩, rfl⟩ := h; (try simp only [List.nil_append, List.cons_append, List.append_assoc] at hN); subst hN))
    all_goals first
      | exact j_ret1 (M := Lp) rfl rfl (by repeat (first | exact .refl | refine .drop ?_)) ⟨⟨false, rfl, fun h => (by cases h)⟩, rfl⟩
      | exact j_cutRend (Y := Unit) () ⟨rfl, rfl, rfl, rfl, trivial⟩ .refl
  repeat' ((refine j_then ?_))
  refine j_seq ?_
  refine j_cutR (X := Unit) (fun _ => [(1, .pointer (some ⟨bc, 0, none⟩)), (2, .bool false)]) (fun _ => blk bz 42 [.int .i64 0, .int .i64 0, .int .i64 0] :: blk bc 44 [.int .i64 c.op, .string c.nm, .string c.oo, .int .i64 c.v.a, .int .i64 c.v.b, .int .i64 c.v.c, .int .i64 c.n] :: (Lp ++ F)) ?_ (fun _ => ?_)
  · cases p <;> repeat' (first | (show J _ _ _ (runS _ _ _ _ (⟨_, _, _, _, _, none⟩ :: _)); first | (show J _ _ _ (runS _ _ _ _ (⟨_, .move _, _, _, _, _⟩ :: _)); refine j_move rfl rfl ?_) | (show J _ _ _ (runS _ _ _ _ (⟨_, .load _ _, _, _, _, _⟩ :: _)); ((refine j_loads [_, _, _] rfl rfl rfl (by repeat constructor) ⟨rfl, rfl, rfl, trivial⟩ rfl ?_))) | (show J _ _ _ (runS _ _ _ _ (⟨_, .fieldAddr _ _ _, _, _, _, _⟩ :: _)); refine j_fieldAddr rfl rfl ?_) | (show J _ _ _ (runS _ _ _ _ (⟨_, .assign _, _, _, _, _⟩ :: _)); refine j_assign rfl rfl ?_) | (show J _ _ _ (runS _ _ _ _ (⟨_, .pick _ _ _, _, _, _, _⟩ :: _)); (first | refine j_pick_t rfl rfl rfl ?_ | refine j_pick_f rfl rfl rfl ?_)) | (show J _ _ _ (runS _ _ _ _ (⟨_, .unOp _ _ _, _, _, _, _⟩ :: _)); ((refine j_not_b rfl rfl ?_)))) | refine j_nil ?_ | (show J _ _ _ (runS _ _ _ _ (⟨_, _, _, _, _, some _⟩ :: _)); first | refine j_gno_u rfl rfl rfl rfl ?_ | refine j_gun_u rfl rfl rfl ?_ | refine j_gyes rfl rfl rfl ?_ | refine j_gsplit rfl rfl (fun h => ?_) (fun h => ?_)) | (show J _ _ _ (Code.wp _ _ _); first | refine j_seq ?_ | refine j_region ?_ | (show J _ _ _ (Code.wp _ (.cond _ _ _) _); first | refine j_true rfl ?_ | refine j_false rfl ?_ | refine j_bool rfl (fun h => ?_) (fun h => ?_)) | refine j_ret ?_ | refine j_skip ?_) | refine j_cutRret ?_ | refine j_then ?_ | refine j_then_ret ?_ | (refine j_call rfl rfl (bvec_spec _ _ _ []) (.refl) rfl (fun v M N h hN => ?_); obtain ⟨⟨b1, rfl⟩, rfl⟩ := h; (try simp only [List.nil_append, List.cons_append, List.append_assoc] at hN); subst hN) | (show J _ _ _ (runS _ _ _ _ (⟨_, .binOp .neq 42 _ _ _, _, _, _, _⟩ :: _)); refine j_neS (α := V3) (p := c.v) (q := ⟨0, 0, 0⟩) rfl rfl rfl (fun b0 hb0 => ?_)))
    all_goals first
      | exact j_ret1 (M := Lp) rfl rfl (by repeat (first | exact .refl | refine .drop ?_)) ⟨⟨false, rfl, fun h => (by cases h)⟩, rfl⟩
      | exact j_cutRend (Y := Unit) () ⟨rfl, rfl, trivial⟩ .refl
  repeat' (first | (show J _ _ _ (runS _ _ _ _ (⟨_, _, _, _, _, none⟩ :: _)); first | (show J _ _ _ (runS _ _ _ _ (⟨_, .move _, _, _, _, _⟩ :: _)); refine j_move rfl rfl ?_) | (show J _ _ _ (runS _ _ _ _ (⟨_, .load _ _, _, _, _, _⟩ :: _)); ((refine j_load rfl rfl (by repeat constructor) rfl rfl ?_))) | (show J _ _ _ (runS _ _ _ _ (⟨_, .fieldAddr _ _ _, _, _, _, _⟩ :: _)); refine j_fieldAddr rfl rfl ?_) | (show J _ _ _ (runS _ _ _ _ (⟨_, .binOp _ _ _ _ _, _, _, _, _⟩ :: _)); ((refine j_bin rfl rfl rfl rfl ?_))) | (show J _ _ _ (runS _ _ _ _ (⟨_, .assign _, _, _, _, _⟩ :: _)); refine j_assign rfl rfl ?_) | (show J _ _ _ (runS _ _ _ _ (⟨_, .pick _ _ _, _, _, _, _⟩ :: _)); (first | refine j_pick_t rfl rfl rfl ?_ | refine j_pick_f rfl rfl rfl ?_))) | refine j_nil ?_ | (show J _ _ _ (runS _ _ _ _ (⟨_, _, _, _, _, some _⟩ :: _)); first | refine j_gno_u rfl rfl rfl rfl ?_ | refine j_gyes rfl rfl rfl ?_ | refine j_gsplit_dec rfl rfl (fun h => ?_) (fun h => ?_)) | (show J _ _ _ (Code.wp _ _ _); first | refine j_seq ?_ | refine j_region ?_ | refine j_block ?_ | (show J _ _ _ (Code.wp _ (.cond _ _ _) _); (refine j_dec rfl (fun h => ?_) (fun h => ?_))) | refine j_ret ?_ | refine j_skip ?_) | refine j_then ?_ | refine j_then_ret ?_ | refine j_inb ?_ | refine j_inb_ret ?_)
  all_goals exact j_ret1 (M := Lp) rfl rfl (by repeat (first | exact .refl | refine .drop ?_)) ⟨⟨_, rfl, fun _ => hop⟩, rfl⟩
end Go.Proofs.Ytnmfpgfgjjmfhaa
end

section
set_option linter.unusedVariables false
set_option linter.unusedSimpArgs false
set_option maxRecDepth 100000
namespace Go.Proofs.Ytnmfpgfgjjmfhaa
open Go
attribute [local irreducible] Exit.then Exit.inBlock Code.wp runS bodyPost postF J runT cutQ cutR Tr Sat blk Sl Old Star Ex Pu
def numA (n : Int) : Value := .agg (cellsI (.num n none 0)).toArray
def txtA (s : ByteArray) : Value := .agg (cellsI (.txt s none 0)).toArray
theorem bvector_spec (u : V3) (Lp : List HP) : Tr Try.prog 103 [.agg (Enc.enc u).toArray] Lp (fun v M => ∃ b, v = .agg (cellsI (.lst (some ⟨b, 0, none⟩) 3 [.num u.a none 0, .num u.b none 0, .num u.c none 0])).toArray ∧ M = Sl 64 (some ⟨b, 0, none⟩) 3 [IA.num u.a none 0, .num u.b none 0, .num u.c none 0] :: Lp) := by
  rw [show Enc.enc u = [.int .i64 u.a, .int .i64 u.b, .int .i64 u.c] from rfl]
  refine tr_enter Try.func103 rfl Try.ntmps103 rfl (fun F => ?_)
  repeat' (first | (show J _ _ _ (runS _ _ _ _ (⟨_, _, _, _, _, none⟩ :: _)); first | (show J _ _ _ (runS _ _ _ _ (⟨_, .box _ _, _, _, _, _⟩ :: _)); refine j_box rfl rfl (fun b => ?_)) | (show J _ _ _ (runS _ _ _ _ (⟨_, .alloc _, _, _, _, _⟩ :: _)); refine j_alloc rfl (fun b => ?_))) | refine j_nil ?_ | (show J _ _ _ (Code.wp _ _ _); first | refine j_seq ?_ | refine j_region ?_) | refine j_then ?_)
  rename_i bu
  refine j_inv [3, 4, 5, 6, 7, 8, 9, 10, 11] [[], [0], [1], [], [3], [4], [], [6], [7]] (.take 9 (.take 10 (.take 11 (.done)))) ([(1, .pointer (some ⟨bu, 0, none⟩)), (2, .pointer (some ⟨b, 0, none⟩))]) (fun i x v => match i with
    | 0 => v = .pointer (some ⟨bu, 0 + 0 * 1, none⟩)
    | 1 => v = .int .i64 u.a
    | 2 => v = numA u.a
    | 3 => v = .pointer (some ⟨bu, 0 + 1 * 1, none⟩)
    | 4 => v = .int .i64 u.b
    | 5 => v = numA u.b
    | 6 => v = .pointer (some ⟨bu, 0 + 2 * 1, none⟩)
    | 7 => v = .int .i64 u.c
    | _ => v = numA u.c) 0 (fun _ => []) (by decide +kernel) ⟨rfl, rfl, trivial⟩ rfl ?_ ?_
  · refine ⟨fun x G hG hf => ?_, fun x G hG hf => ?_, fun x G hG hf => ?_, fun x G hG hf => ?_, fun x G hG hf => ?_, fun x G hG hf => ?_, fun x G hG hf => ?_, fun x G hG hf => ?_, fun x G hG hf => ?_, trivial⟩
    all_goals (obtain rfl : G = [] := (by rcases hG with h | ⟨_, h⟩ <;> exact h))
    · refine j_indexArr rfl rfl 0 rfl (by decide) rfl ?_
      refine j_nil ?_
      exact j_endI _ rfl rfl (by repeat ((exact .refl)))
    · (obtain ⟨h0, -⟩ := hf; have h0 : x 0 = _ := h0; show J _ ((3, x 0) :: _) _ _; rw [h0])
      repeat' (first | (show J _ _ _ (runS _ _ _ _ (⟨_, _, _, _, _, none⟩ :: _)); (show J _ _ _ (runS _ _ _ _ (⟨_, .load _ _, _, _, _, _⟩ :: _)); ((refine j_load rfl rfl (by repeat constructor) rfl rfl ?_)))) | refine j_nil ?_)
      exact j_endI _ rfl rfl (by repeat ((exact .refl)))
    · (obtain ⟨h0, -⟩ := hf; have h0 : x 1 = _ := h0; show J _ ((4, x 1) :: _) _ _; rw [h0])
      ((refine j_call rfl rfl (anum_spec _ []) (.refl) rfl (fun v M N h hN => ?_); obtain ⟨rfl, rfl⟩ := h; (try simp only [List.nil_append, List.cons_append, List.append_assoc] at hN); subst hN); refine j_nil ?_; exact j_endI _ rfl rfl (by repeat ((exact .refl))))
    · refine j_indexArr rfl rfl 1 rfl (by decide) rfl ?_
      refine j_nil ?_
      exact j_endI _ rfl rfl (by repeat ((exact .refl)))
    · (obtain ⟨h0, -⟩ := hf; have h0 : x 3 = _ := h0; show J _ ((6, x 3) :: _) _ _; rw [h0])
      repeat' (first | (show J _ _ _ (runS _ _ _ _ (⟨_, _, _, _, _, none⟩ :: _)); (show J _ _ _ (runS _ _ _ _ (⟨_, .load _ _, _, _, _, _⟩ :: _)); ((refine j_load rfl rfl (by repeat constructor) rfl rfl ?_)))) | refine j_nil ?_)
      exact j_endI _ rfl rfl (by repeat ((exact .refl)))
    · (obtain ⟨h0, -⟩ := hf; have h0 : x 4 = _ := h0; show J _ ((7, x 4) :: _) _ _; rw [h0])
      ((refine j_call rfl rfl (anum_spec _ []) (.refl) rfl (fun v M N h hN => ?_); obtain ⟨rfl, rfl⟩ := h; (try simp only [List.nil_append, List.cons_append, List.append_assoc] at hN); subst hN); refine j_nil ?_; exact j_endI _ rfl rfl (by repeat ((exact .refl))))
    · refine j_indexArr rfl rfl 2 rfl (by decide) rfl ?_
      refine j_nil ?_
      exact j_endI _ rfl rfl (by repeat ((exact .refl)))
    · (obtain ⟨h0, -⟩ := hf; have h0 : x 6 = _ := h0; show J _ ((9, x 6) :: _) _ _; rw [h0])
      repeat' (first | (show J _ _ _ (runS _ _ _ _ (⟨_, _, _, _, _, none⟩ :: _)); (show J _ _ _ (runS _ _ _ _ (⟨_, .load _ _, _, _, _, _⟩ :: _)); ((refine j_load rfl rfl (by repeat constructor) rfl rfl ?_)))) | refine j_nil ?_)
      exact j_endI _ rfl rfl (by repeat ((exact .refl)))
    · (obtain ⟨h0, -⟩ := hf; have h0 : x 7 = _ := h0; show J _ ((10, x 7) :: _) _ _; rw [h0])
      ((refine j_call rfl rfl (anum_spec _ []) (.refl) rfl (fun v M N h hN => ?_); obtain ⟨rfl, rfl⟩ := h; (try simp only [List.nil_append, List.cons_append, List.append_assoc] at hN); subst hN); refine j_nil ?_; exact j_endI _ rfl rfl (by repeat ((exact .refl))))
  · intro x hf
    obtain ⟨-, -, h2, -, -, h5, -, -, h8, -⟩ := hf
    have h2 : x 2 = _ := h2
    have h5 : x 5 = _ := h5
    have h8 : x 8 = _ := h8
    show J _ ((3, x 0) :: (4, x 1) :: (5, x 2) :: (6, x 3) :: (7, x 4) :: (8, x 5) :: (9, x 6) :: (10, x 7) :: (11, x 8) :: _) _ _
    rw [h2, h5, h8]
    refine j_take rfl ?_
    refine j_lits (α := IA) rfl [_, _, _] [.num u.a none 0, .num u.b none 0, .num u.c none 0] ⟨rfl, rfl, rfl, rfl, rfl, rfl, trivial⟩ rfl rfl (by decide) (by decide) rfl (fun b0 => ?_)
    repeat' (first | refine j_nil ?_ | (show J _ _ _ (runT _ _ _ _ _); (refine j_take rfl ?_)))
    (refine j_call rfl rfl (arow_spec (some ⟨b0, 0, none⟩) 3 [.num u.a none 0, .num u.b none 0, .num u.c none 0] []) (.refl) rfl (fun v M N h hN => ?_); obtain ⟨rfl, rfl⟩ := h; (try simp only [List.nil_append, List.cons_append, List.append_assoc] at hN); subst hN)
    repeat' (first | (show J _ _ _ (runS _ _ _ _ (⟨_, _, _, _, _, none⟩ :: _)); (show J _ _ _ (runS _ _ _ _ (⟨_, .store _ _ _, _, _, _, _⟩ :: _)); ((refine j_sets rfl rfl rfl (by rfl) (by repeat constructor) (by repeat constructor) (by rfl) ?_)))) | refine j_nil ?_ | (show J _ _ _ (Code.wp _ _ _); (refine j_ret ?_)) | (show J _ _ _ (runT _ _ _ _ _); first | refine j_take rfl ?_ | refine j_done ?_) | refine j_then ?_)
    exact j_retc [.int .i64 3, .int .i64 0, .string ⟨#[]⟩, .slice (some ⟨b0, 0, none⟩) 3 3] rfl rfl rfl (by repeat constructor) rfl ⟨rfl, rfl, rfl, rfl, trivial⟩ (M := Sl 64 (some ⟨b0, 0, none⟩) 3 [IA.num u.a none 0, .num u.b none 0, .num u.c none 0] :: Lp) (by repeat (first | exact .refl | apply Pk.cons | refine .drop ?_ | constructor)) ⟨b0, rfl, rfl⟩

def adV : Value → Option Addr
  | .agg xs => match xs.toList with
    | [_, _, _, .slice a _ _] => a
    | _ => none
  | _ => none
def vecS (u : V3) (a : Option Addr) : HP := Sl 64 a 3 [IA.num u.a none 0, .num u.b none 0, .num u.c none 0]
instance (u : V3) (a : Option Addr) : Loc (vecS u a) := inferInstanceAs (Loc (Sl _ _ _ _))
theorem bitem_spec (op : Int) (nm oo : ByteArray) (u : V3) (cn : Int) (Lp : List HP) : Tr Try.prog 93 [.int .i64 op, .string nm, .string oo, .agg (Enc.enc u).toArray, .int .i64 cn] Lp (fun v M => ∃ b b2, v = .agg (cellsI (.lst (some ⟨b, 0, none⟩) 5 [.num op none 0, .txt nm none 0, .txt oo none 0, .lst (some ⟨b2, 0, none⟩) 3 [.num u.a none 0, .num u.b none 0, .num u.c none 0], .num cn none 0])).toArray ∧ M = Sl 64 (some ⟨b, 0, none⟩) 5 [IA.num op none 0, .txt nm none 0, .txt oo none 0, .lst (some ⟨b2, 0, none⟩) 3 [.num u.a none 0, .num u.b none 0, .num u.c none 0], .num cn none 0] :: vecS u (some ⟨b2, 0, none⟩) :: Lp) := by
  rw [show Enc.enc u = [.int .i64 u.a, .int .i64 u.b, .int .i64 u.c] from rfl]
  refine tr_enter Try.func93 rfl Try.ntmps93 rfl (fun F => ?_)
  repeat' (first | (show J _ _ _ (runS _ _ _ _ (⟨_, _, _, _, _, none⟩ :: _)); first | (show J _ _ _ (runS _ _ _ _ (⟨_, .box _ _, _, _, _, _⟩ :: _)); refine j_box rfl rfl (fun b => ?_)) | (show J _ _ _ (runS _ _ _ _ (⟨_, .alloc _, _, _, _, _⟩ :: _)); refine j_alloc rfl (fun b => ?_))) | refine j_nil ?_ | (show J _ _ _ (Code.wp _ _ _); first | refine j_seq ?_ | refine j_region ?_) | refine j_then ?_)
  rename_i bu
  refine j_inv [11, 12, 13, 14, 15, 16, 17, 18, 19, 20] [[], [0], [], [2], [], [4], [], [6], [], [8]] (.take 10 (.take 11 (.take 12 (.done)))) ([(0, .int .i64 op), (1, .string nm), (2, .string oo), (4, .int .i64 cn), (8, .pointer (some ⟨bu, 0, none⟩)), (10, .pointer (some ⟨b, 0, none⟩))]) (fun i x v => match i with
    | 0 => v = .int .i64 op
    | 1 => v = numA op
    | 2 => v = .string nm
    | 3 => v = txtA nm
    | 4 => v = .string oo
    | 5 => v = txtA oo
    | 6 => v = .agg #[.int .i64 u.a, .int .i64 u.b, .int .i64 u.c]
    | 7 => ∃ b, v = .agg (cellsI (.lst (some ⟨b, 0, none⟩) 3 [.num u.a none 0, .num u.b none 0, .num u.c none 0])).toArray
    | 8 => v = .int .i64 cn
    | _ => v = numA cn) 7 (fun v => [vecS u (adV v)]) (by decide +kernel) ⟨rfl, rfl, rfl, rfl, rfl, rfl, trivial⟩ rfl ?_ ?_
  · refine ⟨fun x G hG hf => ?_, fun x G hG hf => ?_, fun x G hG hf => ?_, fun x G hG hf => ?_, fun x G hG hf => ?_, fun x G hG hf => ?_, fun x G hG hf => ?_, fun x G hG hf => ?_, fun x G hG hf => ?_, fun x G hG hf => ?_, trivial⟩
    all_goals rcases hG with rfl | ⟨g, rfl⟩
    iterate 2 (· (repeat' (first | (show J _ _ _ (runS _ _ _ _ (⟨_, _, _, _, _, none⟩ :: _)); (show J _ _ _ (runS _ _ _ _ (⟨_, .move _, _, _, _, _⟩ :: _)); refine j_move rfl rfl ?_)) | refine j_nil ?_)); exact j_endI _ rfl rfl (by repeat ((exact .refl))))
    iterate 2 (· (obtain ⟨h0, -⟩ := hf; have h0 : x 0 = _ := h0; show J _ ((11, x 0) :: _) _ _; rw [h0]); ((refine j_call rfl rfl (anum_spec _ []) (.refl) rfl (fun v M N h hN => ?_); obtain ⟨rfl, rfl⟩ := h; (try simp only [List.nil_append, List.cons_append, List.append_assoc] at hN); subst hN); refine j_nil ?_; exact j_endI _ rfl rfl (by repeat ((exact .refl)))))
    iterate 2 (· (repeat' (first | (show J _ _ _ (runS _ _ _ _ (⟨_, _, _, _, _, none⟩ :: _)); (show J _ _ _ (runS _ _ _ _ (⟨_, .move _, _, _, _, _⟩ :: _)); refine j_move rfl rfl ?_)) | refine j_nil ?_)); exact j_endI _ rfl rfl (by repeat ((exact .refl))))
    iterate 2 (· (obtain ⟨h0, -⟩ := hf; have h0 : x 2 = _ := h0; show J _ ((13, x 2) :: _) _ _; rw [h0]); ((refine j_call rfl rfl (astr_spec _ []) (.refl) rfl (fun v M N h hN => ?_); obtain ⟨rfl, rfl⟩ := h; (try simp only [List.nil_append, List.cons_append, List.append_assoc] at hN); subst hN); refine j_nil ?_; exact j_endI _ rfl rfl (by repeat ((exact .refl)))))
    iterate 2 (· (repeat' (first | (show J _ _ _ (runS _ _ _ _ (⟨_, _, _, _, _, none⟩ :: _)); (show J _ _ _ (runS _ _ _ _ (⟨_, .move _, _, _, _, _⟩ :: _)); refine j_move rfl rfl ?_)) | refine j_nil ?_)); exact j_endI _ rfl rfl (by repeat ((exact .refl))))
    iterate 2 (· (obtain ⟨h0, -⟩ := hf; have h0 : x 4 = _ := h0; show J _ ((15, x 4) :: _) _ _; rw [h0]); ((refine j_call rfl rfl (astr_spec _ []) (.refl) rfl (fun v M N h hN => ?_); obtain ⟨rfl, rfl⟩ := h; (try simp only [List.nil_append, List.cons_append, List.append_assoc] at hN); subst hN); refine j_nil ?_; exact j_endI _ rfl rfl (by repeat ((exact .refl)))))
    iterate 2 (· (repeat' (first | (show J _ _ _ (runS _ _ _ _ (⟨_, _, _, _, _, none⟩ :: _)); (show J _ _ _ (runS _ _ _ _ (⟨_, .load _ _, _, _, _, _⟩ :: _)); ((refine j_loads [_, _, _] rfl rfl rfl (by repeat constructor) ⟨rfl, rfl, rfl, trivial⟩ rfl ?_)))) | refine j_nil ?_)); exact j_endI _ rfl rfl (by repeat ((exact .refl))))
    iterate 2 (· (obtain ⟨h0, -⟩ := hf; have h0 : x 6 = _ := h0; show J _ ((17, x 6) :: _) _ _; rw [h0]); (refine j_call rfl rfl (bvector_spec u []) (.refl) rfl (fun v M N h hN => ?_); obtain ⟨b9, rfl, rfl⟩ := h; (try simp only [List.nil_append, List.cons_append, List.append_assoc] at hN); subst hN); refine j_nil ?_; exact j_endI _ rfl ⟨b9, rfl⟩ (by repeat ((exact .refl))))
    iterate 2 (· (repeat' (first | (show J _ _ _ (runS _ _ _ _ (⟨_, _, _, _, _, none⟩ :: _)); (show J _ _ _ (runS _ _ _ _ (⟨_, .move _, _, _, _, _⟩ :: _)); refine j_move rfl rfl ?_)) | refine j_nil ?_)); exact j_endI _ rfl rfl (by repeat ((exact .refl))))
    iterate 2 (· (obtain ⟨h0, -⟩ := hf; have h0 : x 8 = _ := h0; show J _ ((19, x 8) :: _) _ _; rw [h0]); ((refine j_call rfl rfl (anum_spec _ []) (.refl) rfl (fun v M N h hN => ?_); obtain ⟨rfl, rfl⟩ := h; (try simp only [List.nil_append, List.cons_append, List.append_assoc] at hN); subst hN); refine j_nil ?_; exact j_endI _ rfl rfl (by repeat ((exact .refl)))))
  · intro x hf
    obtain ⟨-, h1, -, h3, -, h5, -, ⟨b2, h7⟩, -, h9, -⟩ := hf
    have h1 : x 1 = _ := h1
    have h3 : x 3 = _ := h3
    have h5 : x 5 = _ := h5
    have h9 : x 9 = _ := h9
    show J _ ((11, x 0) :: (12, x 1) :: (13, x 2) :: (14, x 3) :: (15, x 4) :: (16, x 5) :: (17, x 6) :: (18, x 7) :: (19, x 8) :: (20, x 9) :: _) (vecS u (adV (x 7)) :: _) _
    rw [h1, h3, h5, h7, h9]
    refine j_take rfl ?_
    refine j_lits (α := IA) rfl [_, _, _, _, _] [.num op none 0, .txt nm none 0, .txt oo none 0, .lst (some ⟨b2, 0, none⟩) 3 [.num u.a none 0, .num u.b none 0, .num u.c none 0], .num cn none 0] ⟨rfl, rfl, rfl, rfl, rfl, rfl, rfl, rfl, rfl, rfl, trivial⟩ rfl rfl (by decide) (by decide) rfl (fun b0 => ?_)
    repeat' (first | refine j_nil ?_ | (show J _ _ _ (runT _ _ _ _ _); (refine j_take rfl ?_)))
    (refine j_call rfl rfl (arow_spec (some ⟨b0, 0, none⟩) 5 [.num op none 0, .txt nm none 0, .txt oo none 0, .lst (some ⟨b2, 0, none⟩) 3 [.num u.a none 0, .num u.b none 0, .num u.c none 0], .num cn none 0] []) (.refl) rfl (fun v M N h hN => ?_); obtain ⟨rfl, rfl⟩ := h; (try simp only [List.nil_append, List.cons_append, List.append_assoc] at hN); subst hN)
    repeat' (first | (show J _ _ _ (runS _ _ _ _ (⟨_, _, _, _, _, none⟩ :: _)); (show J _ _ _ (runS _ _ _ _ (⟨_, .store _ _ _, _, _, _, _⟩ :: _)); ((refine j_sets rfl rfl rfl (by rfl) (by repeat constructor) (by repeat constructor) (by rfl) ?_)))) | refine j_nil ?_ | (show J _ _ _ (Code.wp _ _ _); (refine j_ret ?_)) | (show J _ _ _ (runT _ _ _ _ _); first | refine j_take rfl ?_ | refine j_done ?_) | refine j_then ?_)
    exact j_retc [.int .i64 3, .int .i64 0, .string ⟨#[]⟩, .slice (some ⟨b0, 0, none⟩) 5 5] rfl rfl rfl (by repeat constructor) rfl ⟨rfl, rfl, rfl, rfl, trivial⟩ (M := Sl 64 (some ⟨b0, 0, none⟩) 5 [IA.num op none 0, .txt nm none 0, .txt oo none 0, .lst (some ⟨b2, 0, none⟩) 3 [.num u.a none 0, .num u.b none 0, .num u.c none 0], .num cn none 0] :: vecS u (some ⟨b2, 0, none⟩) :: Lp) (by repeat (first | exact .refl | apply Pk.cons | refine .drop ?_ | constructor)) ⟨b0, b2, rfl, rfl⟩
end Go.Proofs.Ytnmfpgfgjjmfhaa
end

section
set_option linter.unusedVariables false
set_option linter.unusedSimpArgs false
set_option maxRecDepth 100000
namespace Go.Proofs.Ytnmfpgfgjjmfhaa
open Go
attribute [local irreducible] Exit.then Exit.inBlock Code.wp runS bodyPost postF J runT cutQ cutR Tr Sat blk Sl Old Star Ex Pu
attribute [local irreducible] ItH ItHL
def in64 (n : Int) : Prop := -9223372036854775808 ≤ n ∧ n ≤ 9223372036854775807
theorem ran_num {t : IA} (h : ranI t) : in64 (numI t) := by
  cases t with
  | num n a c => rw [ranI] at h; exact h
  | txt n a c => simp [numI, in64]
  | lst a c l => simp [numI, in64]
theorem ran_at {t t' : IA} {i : Nat} (h : ranI t) (ht : (lsI t)[i]? = some t') : ranI t' := by
  cases t with
  | num n a c => simp [lsI] at ht
  | txt n a c => simp [lsI] at ht
  | lst a c l => rw [ranI] at h; exact ranIL_at ht h
theorem bnumbers_spec (t : IA) (hr : ranI t) (Lp : List HP) (hv : Sees Lp (fun w => OkI w t)) : Tr Try.prog 71 [.agg (cellsI t).toArray] Lp (fun v M => (∃ u : V3, v = .agg #[.int .i64 u.a, .int .i64 u.b, .int .i64 u.c] ∧ in64 u.a ∧ in64 u.b ∧ in64 u.c) ∧ M = Lp) := by
  rw [cells_is t]
  refine tr_enter Try.func71 rfl Try.ntmps71 rfl (fun F => ?_)
  repeat' (first | (show J _ _ _ (runS _ _ _ _ (⟨_, _, _, _, _, none⟩ :: _)); first | (show J _ _ _ (runS _ _ _ _ (⟨_, .box _ _, _, _, _, _⟩ :: _)); refine j_box rfl rfl (fun b => ?_)) | (show J _ _ _ (runS _ _ _ _ (⟨_, .alloc _, _, _, _, _⟩ :: _)); refine j_alloc rfl (fun b => ?_))) | refine j_nil ?_ | (show J _ _ _ (Code.wp _ _ _); first | refine j_seq ?_ | refine j_region ?_) | refine j_then ?_)
  rename_i b1
  obtain ⟨b2, hb2⟩ : ∃ b', b' = b := ⟨_, rfl⟩
  subst hb2
  refine j_buildA0 rfl ?_
  repeat' (first | (show J _ _ _ (runS _ _ _ _ (⟨_, _, _, _, _, none⟩ :: _)); first | (show J _ _ _ (runS _ _ _ _ (⟨_, .assign _, _, _, _, _⟩ :: _)); refine j_assign rfl rfl ?_) | (show J _ _ _ (runS _ _ _ _ (⟨_, .store _ _ _, _, _, _, _⟩ :: _)); ((refine j_sets rfl rfl rfl (by rfl) (by repeat constructor) (by repeat constructor) (by rfl) ?_))) | (show J _ _ _ (runS _ _ _ _ (⟨_, .alloc _, _, _, _, _⟩ :: _)); refine j_alloc rfl (fun b => ?_))) | refine j_nil ?_ | (show J _ _ _ (Code.wp _ _ _); first | refine j_seq ?_ | refine j_region ?_ | refine j_block ?_) | refine j_then ?_)
  have hin : ∀ i, (h : i < (lsI t).length) → in64 (numI (lsI t)[i]) := fun i h => ran_num (ran_at hr (List.getElem?_eq_getElem h))
  refine j_loop (X := { q : Nat × V3 // q.1 ≤ 3 ∧ in64 q.2.a ∧ in64 q.2.b ∧ in64 q.2.c }) (fun q => [(1, .pointer (some ⟨b1, 0, none⟩)), (2, .pointer (some ⟨b2, 0, none⟩)), (3, .pointer (some ⟨b, 0, none⟩)), (4, .int .i64 (q.1.1 : Nat))]) (fun q => blk b 42 [.int .i64 q.1.2.a, .int .i64 q.1.2.b, .int .i64 q.1.2.c] :: blk b2 42 [.int .i64 0, .int .i64 0, .int .i64 0] :: blk b1 64 [.int .i64 (kindI t), .int .i64 (numI t), .string (strI t), .slice (adI t) (lsI t).length (cpI t)] :: (Lp ++ F)) (fun q => 3 - q.1.1) ⟨(0, ⟨0, 0, 0⟩), by omega, by simp [in64], by simp [in64], by simp [in64]⟩ ⟨rfl, rfl, rfl, rfl, trivial⟩ (by repeat ((exact .refl))) (fun q => ?_)
  obtain ⟨⟨i, u⟩, hi, ha, hb, hc⟩ := q
  dsimp only at hi ha hb hc ⊢
  match i, hi with
  | 0, _ =>
    repeat' (first | (show J _ _ _ (runS _ _ _ _ (⟨_, _, _, _, _, none⟩ :: _)); first | (show J _ _ _ (runS _ _ _ _ (⟨_, .move _, _, _, _, _⟩ :: _)); refine j_move rfl rfl ?_) | (show J _ _ _ (runS _ _ _ _ (⟨_, .load _ _, _, _, _, _⟩ :: _)); (first | refine j_load rfl rfl (by repeat constructor) rfl rfl ?_ | refine j_loads [_, _, _] rfl rfl rfl (by repeat constructor) ⟨rfl, rfl, rfl, trivial⟩ rfl ?_)) | (show J _ _ _ (runS _ _ _ _ (⟨_, .fieldAddr _ _ _, _, _, _, _⟩ :: _)); refine j_fieldAddr rfl rfl ?_) | (show J _ _ _ (runS _ _ _ _ (⟨_, .binOp _ _ _ _ _, _, _, _, _⟩ :: _)); ((refine j_bin rfl rfl rfl rfl ?_))) | (show J _ _ _ (runS _ _ _ _ (⟨_, .store _ _ _, _, _, _, _⟩ :: _)); ((refine j_sets rfl rfl rfl (by rfl) (by repeat constructor) (by repeat constructor) (by rfl) ?_))) | (show J _ _ _ (runS _ _ _ _ (⟨_, .pick _ _ _, _, _, _, _⟩ :: _)); ((refine j_pick_t rfl rfl rfl ?_))) | (show J _ _ _ (runS _ _ _ _ (⟨_, .call ⟨.builtin .len, _, _⟩, _, _, _, _⟩ :: _)); ((refine j_len rfl rfl ?_)))) | refine j_nil ?_ | (show J _ _ _ (runS _ _ _ _ (⟨_, _, _, _, _, some _⟩ :: _)); (refine j_gyes rfl rfl rfl ?_)) | (show J _ _ _ (Code.wp _ _ _); first | refine j_seq ?_ | refine j_region ?_ | refine j_block ?_ | (show J _ _ _ (Code.wp _ (.cond _ _ _) _); (refine j_dec rfl (fun h => ?_) (fun h => ?_))) | refine j_ret ?_ | refine j_skip ?_ | refine j_exit ?_) | refine j_then ?_ | refine j_then_exit ?_ | refine j_inb_here ?_)
    · refine j_idx (α := IA) (M := Lp) rfl rfl (by repeat (first | exact .refl | refine .drop ?_)) hv.ok_vw rfl 0 rfl (by omega) rfl (fun b3 o3 ha3 hc3 => ?_)
      repeat' ((show J _ _ _ (runS _ _ _ _ (⟨_, _, _, _, _, none⟩ :: _)); (show J _ _ _ (runS _ _ _ _ (⟨_, .fieldAddr _ _ _, _, _, _, _⟩ :: _)); refine j_fieldAddr rfl rfl ?_)))
      refine j_loadv (M := Lp) (v := .int .i64 (numI (lsI t)[0])) rfl rfl (by repeat (first | exact .refl | refine .drop ?_)) (hc3 1 _ (by show (cellsI _)[1]? = _; rw [cells_is]; rfl)) rfl ?_
      refine j_indexArr rfl rfl 0 rfl (by decide) rfl ?_
      repeat' (first | (show J _ _ _ (runS _ _ _ _ (⟨_, _, _, _, _, none⟩ :: _)); first | (show J _ _ _ (runS _ _ _ _ (⟨_, .move _, _, _, _, _⟩ :: _)); refine j_move rfl rfl ?_) | (show J _ _ _ (runS _ _ _ _ (⟨_, .binOp _ _ _ _ _, _, _, _, _⟩ :: _)); ((refine j_add rfl rfl (by omega) rfl ?_))) | (show J _ _ _ (runS _ _ _ _ (⟨_, .assign _, _, _, _, _⟩ :: _)); refine j_assign rfl rfl ?_) | (show J _ _ _ (runS _ _ _ _ (⟨_, .store _ _ _, _, _, _, _⟩ :: _)); ((refine j_set rfl rfl rfl (by rfl) (by repeat constructor) (by repeat constructor) ?_)))) | refine j_nil ?_ | (show J _ _ _ (Code.wp _ _ _); (refine j_region ?_)) | refine j_then ?_ | refine j_inb ?_)
      exact j_round ⟨(0 + 1, ⟨numI (lsI t)[0], u.b, u.c⟩), by dsimp only; omega, hin 0 (by omega), hb, hc⟩ (by dsimp only; omega) ⟨rfl, rfl, rfl, rfl, trivial⟩ .refl
    · (exact j_retc [.int .i64 u.a, .int .i64 u.b, .int .i64 u.c] rfl rfl rfl (by repeat constructor) rfl ⟨rfl, rfl, rfl, trivial⟩ (M := Lp) (by repeat (first | exact .refl | refine .drop ?_)) ⟨⟨u, rfl, ha, hb, hc⟩, rfl⟩)
  | 1, _ =>
    repeat' (first | (show J _ _ _ (runS _ _ _ _ (⟨_, _, _, _, _, none⟩ :: _)); first | (show J _ _ _ (runS _ _ _ _ (⟨_, .move _, _, _, _, _⟩ :: _)); refine j_move rfl rfl ?_) | (show J _ _ _ (runS _ _ _ _ (⟨_, .load _ _, _, _, _, _⟩ :: _)); (first | refine j_load rfl rfl (by repeat constructor) rfl rfl ?_ | refine j_loads [_, _, _] rfl rfl rfl (by repeat constructor) ⟨rfl, rfl, rfl, trivial⟩ rfl ?_)) | (show J _ _ _ (runS _ _ _ _ (⟨_, .fieldAddr _ _ _, _, _, _, _⟩ :: _)); refine j_fieldAddr rfl rfl ?_) | (show J _ _ _ (runS _ _ _ _ (⟨_, .binOp _ _ _ _ _, _, _, _, _⟩ :: _)); ((refine j_bin rfl rfl rfl rfl ?_))) | (show J _ _ _ (runS _ _ _ _ (⟨_, .store _ _ _, _, _, _, _⟩ :: _)); ((refine j_sets rfl rfl rfl (by rfl) (by repeat constructor) (by repeat constructor) (by rfl) ?_))) | (show J _ _ _ (runS _ _ _ _ (⟨_, .pick _ _ _, _, _, _, _⟩ :: _)); ((refine j_pick_t rfl rfl rfl ?_))) | (show J _ _ _ (runS _ _ _ _ (⟨_, .call ⟨.builtin .len, _, _⟩, _, _, _, _⟩ :: _)); ((refine j_len rfl rfl ?_)))) | refine j_nil ?_ | (show J _ _ _ (runS _ _ _ _ (⟨_, _, _, _, _, some _⟩ :: _)); (refine j_gyes rfl rfl rfl ?_)) | (show J _ _ _ (Code.wp _ _ _); first | refine j_seq ?_ | refine j_region ?_ | refine j_block ?_ | (show J _ _ _ (Code.wp _ (.cond _ _ _) _); (refine j_dec rfl (fun h => ?_) (fun h => ?_))) | refine j_ret ?_ | refine j_skip ?_ | refine j_exit ?_) | refine j_then ?_ | refine j_then_exit ?_ | refine j_inb_here ?_)
    · refine j_idx (α := IA) (M := Lp) rfl rfl (by repeat (first | exact .refl | refine .drop ?_)) hv.ok_vw rfl 1 rfl (by omega) rfl (fun b3 o3 ha3 hc3 => ?_)
      repeat' ((show J _ _ _ (runS _ _ _ _ (⟨_, _, _, _, _, none⟩ :: _)); (show J _ _ _ (runS _ _ _ _ (⟨_, .fieldAddr _ _ _, _, _, _, _⟩ :: _)); refine j_fieldAddr rfl rfl ?_)))
      refine j_loadv (M := Lp) (v := .int .i64 (numI (lsI t)[1])) rfl rfl (by repeat (first | exact .refl | refine .drop ?_)) (hc3 1 _ (by show (cellsI _)[1]? = _; rw [cells_is]; rfl)) rfl ?_
      refine j_indexArr rfl rfl 1 rfl (by decide) rfl ?_
      repeat' (first | (show J _ _ _ (runS _ _ _ _ (⟨_, _, _, _, _, none⟩ :: _)); first | (show J _ _ _ (runS _ _ _ _ (⟨_, .move _, _, _, _, _⟩ :: _)); refine j_move rfl rfl ?_) | (show J _ _ _ (runS _ _ _ _ (⟨_, .binOp _ _ _ _ _, _, _, _, _⟩ :: _)); ((refine j_add rfl rfl (by omega) rfl ?_))) | (show J _ _ _ (runS _ _ _ _ (⟨_, .assign _, _, _, _, _⟩ :: _)); refine j_assign rfl rfl ?_) | (show J _ _ _ (runS _ _ _ _ (⟨_, .store _ _ _, _, _, _, _⟩ :: _)); ((refine j_set rfl rfl rfl (by rfl) (by repeat constructor) (by repeat constructor) ?_)))) | refine j_nil ?_ | (show J _ _ _ (Code.wp _ _ _); (refine j_region ?_)) | refine j_then ?_ | refine j_inb ?_)
      exact j_round ⟨(1 + 1, ⟨u.a, numI (lsI t)[1], u.c⟩), by dsimp only; omega, ha, hin 1 (by omega), hc⟩ (by dsimp only; omega) ⟨rfl, rfl, rfl, rfl, trivial⟩ .refl
    · (exact j_retc [.int .i64 u.a, .int .i64 u.b, .int .i64 u.c] rfl rfl rfl (by repeat constructor) rfl ⟨rfl, rfl, rfl, trivial⟩ (M := Lp) (by repeat (first | exact .refl | refine .drop ?_)) ⟨⟨u, rfl, ha, hb, hc⟩, rfl⟩)
  | 2, _ =>
    repeat' (first | (show J _ _ _ (runS _ _ _ _ (⟨_, _, _, _, _, none⟩ :: _)); first | (show J _ _ _ (runS _ _ _ _ (⟨_, .move _, _, _, _, _⟩ :: _)); refine j_move rfl rfl ?_) | (show J _ _ _ (runS _ _ _ _ (⟨_, .load _ _, _, _, _, _⟩ :: _)); (first | refine j_load rfl rfl (by repeat constructor) rfl rfl ?_ | refine j_loads [_, _, _] rfl rfl rfl (by repeat constructor) ⟨rfl, rfl, rfl, trivial⟩ rfl ?_)) | (show J _ _ _ (runS _ _ _ _ (⟨_, .fieldAddr _ _ _, _, _, _, _⟩ :: _)); refine j_fieldAddr rfl rfl ?_) | (show J _ _ _ (runS _ _ _ _ (⟨_, .binOp _ _ _ _ _, _, _, _, _⟩ :: _)); ((refine j_bin rfl rfl rfl rfl ?_))) | (show J _ _ _ (runS _ _ _ _ (⟨_, .store _ _ _, _, _, _, _⟩ :: _)); ((refine j_sets rfl rfl rfl (by rfl) (by repeat constructor) (by repeat constructor) (by rfl) ?_))) | (show J _ _ _ (runS _ _ _ _ (⟨_, .pick _ _ _, _, _, _, _⟩ :: _)); ((refine j_pick_t rfl rfl rfl ?_))) | (show J _ _ _ (runS _ _ _ _ (⟨_, .call ⟨.builtin .len, _, _⟩, _, _, _, _⟩ :: _)); ((refine j_len rfl rfl ?_)))) | refine j_nil ?_ | (show J _ _ _ (runS _ _ _ _ (⟨_, _, _, _, _, some _⟩ :: _)); (refine j_gyes rfl rfl rfl ?_)) | (show J _ _ _ (Code.wp _ _ _); first | refine j_seq ?_ | refine j_region ?_ | refine j_block ?_ | (show J _ _ _ (Code.wp _ (.cond _ _ _) _); (refine j_dec rfl (fun h => ?_) (fun h => ?_))) | refine j_ret ?_ | refine j_skip ?_ | refine j_exit ?_) | refine j_then ?_ | refine j_then_exit ?_ | refine j_inb_here ?_)
    · refine j_idx (α := IA) (M := Lp) rfl rfl (by repeat (first | exact .refl | refine .drop ?_)) hv.ok_vw rfl 2 rfl (by omega) rfl (fun b3 o3 ha3 hc3 => ?_)
      repeat' ((show J _ _ _ (runS _ _ _ _ (⟨_, _, _, _, _, none⟩ :: _)); (show J _ _ _ (runS _ _ _ _ (⟨_, .fieldAddr _ _ _, _, _, _, _⟩ :: _)); refine j_fieldAddr rfl rfl ?_)))
      refine j_loadv (M := Lp) (v := .int .i64 (numI (lsI t)[2])) rfl rfl (by repeat (first | exact .refl | refine .drop ?_)) (hc3 1 _ (by show (cellsI _)[1]? = _; rw [cells_is]; rfl)) rfl ?_
      refine j_indexArr rfl rfl 2 rfl (by decide) rfl ?_
      repeat' (first | (show J _ _ _ (runS _ _ _ _ (⟨_, _, _, _, _, none⟩ :: _)); first | (show J _ _ _ (runS _ _ _ _ (⟨_, .move _, _, _, _, _⟩ :: _)); refine j_move rfl rfl ?_) | (show J _ _ _ (runS _ _ _ _ (⟨_, .binOp _ _ _ _ _, _, _, _, _⟩ :: _)); ((refine j_add rfl rfl (by omega) rfl ?_))) | (show J _ _ _ (runS _ _ _ _ (⟨_, .assign _, _, _, _, _⟩ :: _)); refine j_assign rfl rfl ?_) | (show J _ _ _ (runS _ _ _ _ (⟨_, .store _ _ _, _, _, _, _⟩ :: _)); ((refine j_set rfl rfl rfl (by rfl) (by repeat constructor) (by repeat constructor) ?_)))) | refine j_nil ?_ | (show J _ _ _ (Code.wp _ _ _); (refine j_region ?_)) | refine j_then ?_ | refine j_inb ?_)
      exact j_round ⟨(2 + 1, ⟨u.a, u.b, numI (lsI t)[2]⟩), by dsimp only; omega, ha, hb, hin 2 (by omega)⟩ (by dsimp only; omega) ⟨rfl, rfl, rfl, rfl, trivial⟩ .refl
    · (exact j_retc [.int .i64 u.a, .int .i64 u.b, .int .i64 u.c] rfl rfl rfl (by repeat constructor) rfl ⟨rfl, rfl, rfl, trivial⟩ (M := Lp) (by repeat (first | exact .refl | refine .drop ?_)) ⟨⟨u, rfl, ha, hb, hc⟩, rfl⟩)
  | 3, _ =>
    repeat' (first | (show J _ _ _ (runS _ _ _ _ (⟨_, _, _, _, _, none⟩ :: _)); first | (show J _ _ _ (runS _ _ _ _ (⟨_, .move _, _, _, _, _⟩ :: _)); refine j_move rfl rfl ?_) | (show J _ _ _ (runS _ _ _ _ (⟨_, .load _ _, _, _, _, _⟩ :: _)); ((refine j_loads [_, _, _] rfl rfl rfl (by repeat constructor) ⟨rfl, rfl, rfl, trivial⟩ rfl ?_))) | (show J _ _ _ (runS _ _ _ _ (⟨_, .binOp _ _ _ _ _, _, _, _, _⟩ :: _)); ((refine j_bin rfl rfl rfl rfl ?_))) | (show J _ _ _ (runS _ _ _ _ (⟨_, .store _ _ _, _, _, _, _⟩ :: _)); ((refine j_sets rfl rfl rfl (by rfl) (by repeat constructor) (by repeat constructor) (by rfl) ?_))) | (show J _ _ _ (runS _ _ _ _ (⟨_, .pick _ _ _, _, _, _, _⟩ :: _)); ((refine j_pick_f rfl rfl rfl ?_)))) | refine j_nil ?_ | (show J _ _ _ (runS _ _ _ _ (⟨_, _, _, _, _, some _⟩ :: _)); (refine j_gno_u rfl rfl rfl rfl ?_)) | (show J _ _ _ (Code.wp _ _ _); first | refine j_seq ?_ | refine j_region ?_ | (show J _ _ _ (Code.wp _ (.cond _ _ _) _); (refine j_false rfl ?_)) | refine j_ret ?_ | refine j_exit ?_) | refine j_then ?_ | refine j_then_exit ?_ | refine j_inb_here ?_)
    (exact j_retc [.int .i64 u.a, .int .i64 u.b, .int .i64 u.c] rfl rfl rfl (by repeat constructor) rfl ⟨rfl, rfl, rfl, trivial⟩ (M := Lp) (by repeat (first | exact .refl | refine .drop ?_)) ⟨⟨u, rfl, ha, hb, hc⟩, rfl⟩)
def itC (c : Cm) (b b2 : Nat) : IA := .lst (some ⟨b, 0, none⟩) 5 [.num c.op none 0, .txt c.nm none 0, .txt c.oo none 0, .lst (some ⟨b2, 0, none⟩) 3 [.num c.v.a none 0, .num c.v.b none 0, .num c.v.c none 0], .num c.n none 0]
def itM (c : Cm) (b b2 : Nat) : List HP := [Sl 64 (some ⟨b, 0, none⟩) 5 [IA.num c.op none 0, .txt c.nm none 0, .txt c.oo none 0, .lst (some ⟨b2, 0, none⟩) 3 [.num c.v.a none 0, .num c.v.b none 0, .num c.v.c none 0], .num c.n none 0], vecS c.v (some ⟨b2, 0, none⟩)]
theorem itC_cnt (c : Cm) (b b2 : Nat) : cntI (itC c b b2) ≤ 1000 := by simp [itC, cntI, cntIL]
theorem itC_dp (c : Cm) (b b2 : Nat) : dpI (itC c b b2) ≤ 11 := by simp [itC, dpI, dpIL]
theorem itC_ran (c : Cm) (b b2 : Nat) (h1 : in64 c.op) (h2 : in64 c.v.a) (h3 : in64 c.v.b) (h4 : in64 c.v.c) (h5 : in64 c.n) : ranI (itC c b b2) := by
  simp only [itC, ranI, ranIL, and_true, true_and]
  exact ⟨h1, ⟨h2, h3, h4⟩, h5⟩
theorem itC_sees (c : Cm) (b b2 : Nat) : Sees (itM c b b2) (fun w => OkI w (itC c b b2)) := fun w hw => by
  unfold itM vecS at hw
  simp only [itC, OkI, OkIL, true_and, and_true]
  exact ⟨sees_sl w (hw.pk (by repeat (first | exact .refl | apply Pk.cons | refine .drop ?_ | constructor))), sees_sl w (hw.pk (by repeat (first | exact .refl | apply Pk.cons | refine .drop ?_ | constructor)))⟩
theorem benc_spec (c : Cm) (hn : c.nm.size ≤ 4096) (ho : c.oo.size ≤ 4096) (h1 : in64 c.op) (h2 : in64 c.v.a) (h3 : in64 c.v.b) (h4 : in64 c.v.c) (h5 : in64 c.n) (Lp : List HP) : Tr Try.prog 72 [.agg (Enc.enc c).toArray] Lp (fun v M => (∃ (s : ByteArray) (e : Int), v = .tuple #[.string s, .int .i64 e] ∧ (e = 0 → 1 ≤ c.op)) ∧ M = Lp) := by
  rw [show Enc.enc c = [.int .i64 c.op, .string c.nm, .string c.oo, .int .i64 c.v.a, .int .i64 c.v.b, .int .i64 c.v.c, .int .i64 c.n] from rfl]
  refine tr_enter Try.func72 rfl Try.ntmps72 rfl (fun F => ?_)
  repeat' (first | (show J _ _ _ (runS _ _ _ _ (⟨_, _, _, _, _, none⟩ :: _)); first | (show J _ _ _ (runS _ _ _ _ (⟨_, .assign _, _, _, _, _⟩ :: _)); refine j_assign rfl rfl ?_) | (show J _ _ _ (runS _ _ _ _ (⟨_, .box _ _, _, _, _, _⟩ :: _)); refine j_box rfl rfl (fun b => ?_))) | refine j_nil ?_ | (show J _ _ _ (Code.wp _ _ _); first | refine j_seq ?_ | refine j_region ?_) | refine j_then ?_)
  refine j_loads [.int .i64 c.op, .string c.nm, .string c.oo, .int .i64 c.v.a, .int .i64 c.v.b, .int .i64 c.v.c, .int .i64 c.n] rfl rfl rfl (by repeat constructor) ⟨rfl, rfl, rfl, rfl, rfl, rfl, rfl, trivial⟩ rfl ?_
  (refine j_call rfl rfl (bmay_spec c (by omega) (by omega) []) (.refl) rfl (fun v M N h hN => ?_); obtain ⟨⟨q, rfl, hq⟩, rfl⟩ := h; (try simp only [List.nil_append, List.cons_append, List.append_assoc] at hN); subst hN)
  cases q with
  | false =>
    repeat' (first | (show J _ _ _ (runS _ _ _ _ (⟨_, _, _, _, _, none⟩ :: _)); first | (show J _ _ _ (runS _ _ _ _ (⟨_, .assign _, _, _, _, _⟩ :: _)); refine j_assign rfl rfl ?_) | (show J _ _ _ (runS _ _ _ _ (⟨_, .unOp _ _ _, _, _, _, _⟩ :: _)); ((refine j_not_b rfl rfl ?_)))) | refine j_nil ?_ | (show J _ _ _ (Code.wp _ _ _); first | refine j_seq ?_ | refine j_region ?_ | (show J _ _ _ (Code.wp _ (.cond _ _ _) _); (refine j_true rfl ?_)) | refine j_ret ?_) | refine j_then ?_ | refine j_then_ret ?_)
    exact j_ret2 (M := Lp) rfl rfl rfl (by repeat (first | exact .refl | refine .drop ?_)) ⟨⟨_, 4, rfl, fun h => absurd h (by decide)⟩, rfl⟩
  | true =>
    repeat' (first | (show J _ _ _ (runS _ _ _ _ (⟨_, _, _, _, _, none⟩ :: _)); first | (show J _ _ _ (runS _ _ _ _ (⟨_, .load _ _, _, _, _, _⟩ :: _)); (first | refine j_load rfl rfl (by repeat constructor) rfl rfl ?_ | refine j_loads [_, _, _] rfl rfl rfl (by repeat constructor) ⟨rfl, rfl, rfl, trivial⟩ rfl ?_)) | (show J _ _ _ (runS _ _ _ _ (⟨_, .fieldAddr _ _ _, _, _, _, _⟩ :: _)); refine j_fieldAddr rfl rfl ?_) | (show J _ _ _ (runS _ _ _ _ (⟨_, .unOp _ _ _, _, _, _, _⟩ :: _)); ((refine j_not_b rfl rfl ?_)))) | refine j_nil ?_ | (show J _ _ _ (Code.wp _ _ _); first | refine j_seq ?_ | refine j_region ?_ | (show J _ _ _ (Code.wp _ (.cond _ _ _) _); (refine j_false rfl ?_)) | refine j_skip ?_) | refine j_then ?_)
    (refine j_call rfl rfl (bitem_spec c.op c.nm c.oo c.v c.n []) (.refl) rfl (fun v M N h hN => ?_); obtain ⟨b4, b5, rfl, rfl⟩ := h; (try simp only [List.nil_append, List.cons_append, List.append_assoc] at hN); subst hN)
    (refine j_call rfl rfl (aenc_spec (itC c b4 b5) (itC_cnt c b4 b5) (itC_dp c b4 b5) (itC_ran c b4 b5 h1 h2 h3 h4 h5) (itM c b4 b5) (itC_sees c b4 b5)) ((by repeat ((exact .refl)))) rfl (fun v M N h hN => ?_); obtain (⟨hb, rfl, rfl⟩ | ⟨hb, a, cp, rfl, rfl⟩) := h; (try simp only [List.nil_append, List.cons_append, List.append_assoc] at hN); subst hN)
    · repeat' (first | (show J _ _ _ (runS _ _ _ _ (⟨_, _, _, _, _, none⟩ :: _)); first | (show J _ _ _ (runS _ _ _ _ (⟨_, .move _, _, _, _, _⟩ :: _)); refine j_move rfl rfl ?_) | (show J _ _ _ (runS _ _ _ _ (⟨_, .assign _, _, _, _, _⟩ :: _)); refine j_assign rfl rfl ?_) | (show J _ _ _ (runS _ _ _ _ (⟨_, .extract _ _, _, _, _, _⟩ :: _)); refine j_extract rfl rfl rfl ?_)) | refine j_nil ?_ | (show J _ _ _ (Code.wp _ _ _); first | refine j_seq ?_ | refine j_region ?_) | refine j_then ?_)
      refine j_sl0 (α := UInt8) 5 none ?_
      refine j_bytesV (M := [Sl 5 none 0 ([] : List UInt8)]) rfl (by repeat ((exact .refl))) sees_sl rfl rfl ?_
      repeat' (first | (show J _ _ _ (runS _ _ _ _ (⟨_, _, _, _, _, none⟩ :: _)); (show J _ _ _ (runS _ _ _ _ (⟨_, .assign _, _, _, _, _⟩ :: _)); refine j_assign rfl rfl ?_)) | refine j_nil ?_ | (show J _ _ _ (Code.wp _ _ _); (refine j_ret ?_)) | refine j_then ?_)
      exact j_ret2 (M := Lp) rfl rfl rfl (by repeat (first | exact .refl | refine .drop ?_)) ⟨⟨_, 0, rfl, fun _ => hq rfl⟩, rfl⟩
    · unfold itM at hN
      simp only [List.cons_append, List.nil_append] at hN
      subst hN
      repeat' (first | (show J _ _ _ (runS _ _ _ _ (⟨_, _, _, _, _, none⟩ :: _)); first | (show J _ _ _ (runS _ _ _ _ (⟨_, .move _, _, _, _, _⟩ :: _)); refine j_move rfl rfl ?_) | (show J _ _ _ (runS _ _ _ _ (⟨_, .assign _, _, _, _, _⟩ :: _)); refine j_assign rfl rfl ?_) | (show J _ _ _ (runS _ _ _ _ (⟨_, .extract _ _, _, _, _, _⟩ :: _)); refine j_extract rfl rfl rfl ?_)) | refine j_nil ?_ | (show J _ _ _ (Code.wp _ _ _); first | refine j_seq ?_ | refine j_region ?_) | refine j_then ?_)
      refine j_bytesV (M := [Sl 5 a cp (encV (plI (itC c b4 b5)))]) rfl (by repeat ((exact .refl))) sees_sl rfl rfl ?_
      repeat' (first | (show J _ _ _ (runS _ _ _ _ (⟨_, _, _, _, _, none⟩ :: _)); (show J _ _ _ (runS _ _ _ _ (⟨_, .assign _, _, _, _, _⟩ :: _)); refine j_assign rfl rfl ?_)) | refine j_nil ?_ | (show J _ _ _ (Code.wp _ _ _); (refine j_ret ?_)) | refine j_then ?_)
      exact j_ret2 (M := Lp) rfl rfl rfl (by repeat (first | exact .refl | refine .drop ?_)) ⟨⟨_, 0, rfl, fun _ => hq rfl⟩, rfl⟩
end Go.Proofs.Ytnmfpgfgjjmfhaa
end

