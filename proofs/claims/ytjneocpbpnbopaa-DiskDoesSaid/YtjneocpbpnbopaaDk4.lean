/- Names: barred, May; disks: ready, known. -/
import Derived.Test.YtjneocpbpnbopaaDk3
set_option linter.unusedVariables false
set_option linter.unusedSimpArgs false
set_option maxRecDepth 100000
namespace Go.Proofs.Ytjneocpbpnbopaa
open Go
attribute [local irreducible] Exit.then Exit.inBlock Code.wp runS bodyPost postF J runT cutQ cutR Tr Sat blk Sl Old Star Ex Pu
attribute [local irreducible] MapA MapB IterA IterS All
open Kv Vv

def barB (c : Int) : Bool := decide (c < 33) || (decide (127 ≤ c) && decide (c ≤ 160)) || decide (c = 8232) || decide (c = 8233) || decide (c = 65533)
theorem dbarred_spec (c : Int) : Tr Try.prog 71 [.int .i32 c] [] (fun v M => v = .bool (barB c) ∧ M = []) := by
  refine tr_enter Try.func71 rfl Try.ntmps71 rfl (fun F => ?_)
  repeat' (first | (show J _ _ _ (runS _ _ _ (⟨_, _, _, _, _, none⟩ :: _)); first | (show J _ _ _ (runS _ _ _ (⟨_, .move _, _, _, _, _⟩ :: _)); refine j_move rfl rfl ?_) | (show J _ _ _ (runS _ _ _ (⟨_, .binOp _ _ _ _ _, _, _, _, _⟩ :: _)); ((refine j_bin rfl rfl rfl rfl ?_))) | (show J _ _ _ (runS _ _ _ (⟨_, .assign _, _, _, _, _⟩ :: _)); refine j_assign rfl rfl ?_) | (show J _ _ _ (runS _ _ _ (⟨_, .pick _ _ _, _, _, _, _⟩ :: _)); (first | refine j_pick_t rfl rfl rfl ?_ | refine j_pick_f rfl rfl rfl ?_))) | refine j_nil ?_ | (show J _ _ _ (runS _ _ _ (⟨_, _, _, _, _, some _⟩ :: _)); first | refine j_gno_u rfl rfl rfl rfl ?_ | refine j_gun_u rfl rfl rfl ?_ | refine j_gyes rfl rfl rfl ?_ | refine j_gsplit_dec rfl rfl (fun h => ?_) (fun h => ?_)) | (show J _ _ _ (Code.wp _ _ _); first | refine j_seq ?_ | refine j_region ?_ | refine j_ret ?_) | refine j_then ?_)
  all_goals exact j_ret1 (M := []) rfl rfl .refl ⟨congrArg Value.bool (by unfold barB; simp; omega), rfl⟩

/-- is a text a name: from a place on, behind so many runes -/
def mayGo (s : ByteArray) : Nat → Nat → Nat → Bool
  | 0, _, _ => false
  | g + 1, n, p => if p < s.size then (if 24 < n + 1 then false else if barB (Utf8.decode s p).1 = true then false else if p = 0 ∧ (Utf8.decode s p).1 = 45 then false else mayGo s g (n + 1) (p + (Utf8.decode s p).2)) else decide (0 < n)
def mayB (s : ByteArray) : Bool := mayGo s 26 0 0

theorem dmay_spec (s : ByteArray) : Tr Try.prog 58 [.string s] [] (fun v M => v = .bool (mayB s) ∧ M = []) := by
  refine tr_enter Try.func58 rfl Try.ntmps58 rfl (fun F => ?_)
  repeat' (first | (show J _ _ _ (runS _ _ _ (⟨_, _, _, _, _, none⟩ :: _)); first | (show J _ _ _ (runS _ _ _ (⟨_, .move _, _, _, _, _⟩ :: _)); refine j_move rfl rfl ?_) | (show J _ _ _ (runS _ _ _ (⟨_, .assign _, _, _, _, _⟩ :: _)); refine j_assign rfl rfl ?_)) | refine j_nil ?_ | (show J _ _ _ (Code.wp _ _ _); first | refine j_seq ?_ | refine j_region ?_) | refine j_then ?_)
  refine j_rangeS rfl rfl (fun it => ?_)
  repeat' (first | refine j_nil ?_ | refine j_then ?_)
  refine j_block ?_
  refine j_loop (X := { q : Nat × Nat // q.1 ≤ 24 ∧ mayB s = mayGo s (26 - q.1) q.1 q.2 }) (fun q => [(3, .int .i64 (q.1.1 : Nat)), (7, .pointer (some ⟨it, 0, none⟩))]) (fun q => IterS it s q.1.2 :: F) (fun q => 26 - q.1.1) ⟨(0, 0), by omega, rfl⟩ ⟨rfl, rfl, trivial⟩ .refl (fun q => ?_)
  obtain ⟨⟨k, p⟩, hk, hm⟩ := q
  dsimp only at hk hm ⊢
  repeat' ((show J _ _ _ (Code.wp _ _ _); first | refine j_seq ?_ | refine j_region ?_))
  refine j_nextS rfl .z rfl (fun hp => ?_) (fun hp => ?_)
  · repeat' (first | (show J _ _ _ (runS _ _ _ (⟨_, _, _, _, _, none⟩ :: _)); first | (show J _ _ _ (runS _ _ _ (⟨_, .move _, _, _, _, _⟩ :: _)); refine j_move rfl rfl ?_) | (show J _ _ _ (runS _ _ _ (⟨_, .binOp _ _ _ _ _, _, _, _, _⟩ :: _)); ((refine j_bin rfl rfl rfl rfl ?_))) | (show J _ _ _ (runS _ _ _ (⟨_, .assign _, _, _, _, _⟩ :: _)); refine j_assign rfl rfl ?_) | (show J _ _ _ (runS _ _ _ (⟨_, .extract _ _, _, _, _, _⟩ :: _)); refine j_extract rfl rfl rfl ?_)) | refine j_nil ?_ | (show J _ _ _ (Code.wp _ _ _); first | refine j_seq ?_ | refine j_region ?_ | (show J _ _ _ (Code.wp _ (.cond _ _ _) _); (refine j_false rfl ?_)) | refine j_ret ?_ | refine j_exit ?_) | refine j_then ?_ | refine j_then_exit ?_ | refine j_inb_here ?_)
    exact j_ret1 (M := []) rfl rfl (by repeat (first | exact .refl | refine .drop ?_)) ⟨congrArg Value.bool (by rw [hm, show 26 - k = (25 - k) + 1 from by omega, mayGo, if_neg hp]; simp), rfl⟩
  · have hm1 : mayB s = (if 24 < k + 1 then false else if barB (Utf8.decode s p).1 = true then false else if p = 0 ∧ (Utf8.decode s p).1 = 45 then false else mayGo s (25 - k) (k + 1) (p + (Utf8.decode s p).2)) := by
      rw [hm, show 26 - k = (25 - k) + 1 from by omega, mayGo, if_pos hp]
    repeat' (first | (show J _ _ _ (runS _ _ _ (⟨_, _, _, _, _, none⟩ :: _)); first | (show J _ _ _ (runS _ _ _ (⟨_, .move _, _, _, _, _⟩ :: _)); refine j_move rfl rfl ?_) | (show J _ _ _ (runS _ _ _ (⟨_, .binOp _ _ _ _ _, _, _, _, _⟩ :: _)); (first | refine j_add rfl rfl (by omega) rfl ?_ | refine j_bin rfl rfl rfl rfl ?_)) | (show J _ _ _ (runS _ _ _ (⟨_, .assign _, _, _, _, _⟩ :: _)); refine j_assign rfl rfl ?_) | (show J _ _ _ (runS _ _ _ (⟨_, .pick _ _ _, _, _, _, _⟩ :: _)); ((refine j_pick_t rfl rfl rfl ?_))) | (show J _ _ _ (runS _ _ _ (⟨_, .extract _ _, _, _, _, _⟩ :: _)); refine j_extract rfl rfl rfl ?_)) | refine j_nil ?_ | (show J _ _ _ (runS _ _ _ (⟨_, _, _, _, _, some _⟩ :: _)); first | refine j_gno_u rfl rfl rfl rfl ?_ | refine j_gun_u rfl rfl rfl ?_ | refine j_gyes rfl rfl rfl ?_ | refine j_gsplit_dec rfl rfl (fun h => ?_) (fun h => ?_)) | (show J _ _ _ (Code.wp _ _ _); first | refine j_seq ?_ | refine j_region ?_ | refine j_block ?_ | (show J _ _ _ (Code.wp _ (.cond _ _ _) _); (refine j_true rfl ?_)) | refine j_ret ?_ | refine j_skip ?_) | refine j_then ?_ | refine j_then_ret ?_ | refine j_inb_ret ?_)
    · exact j_ret1 (M := []) rfl rfl (by repeat (first | exact .refl | refine .drop ?_)) ⟨congrArg Value.bool (by rw [hm1, if_pos (by omega)]), rfl⟩
    · rw [if_neg (by omega)] at hm1
      (refine j_call rfl rfl (dbarred_spec _) ((by repeat ((exact .refl)))) rfl (fun v M N h hN => ?_); obtain ⟨rfl, rfl⟩ := h; (try simp only [List.nil_append, List.cons_append, List.append_assoc] at hN); subst hN)
      repeat' (first | (show J _ _ _ (runS _ _ _ (⟨_, _, _, _, _, none⟩ :: _)); first | (show J _ _ _ (runS _ _ _ (⟨_, .move _, _, _, _, _⟩ :: _)); refine j_move rfl rfl ?_) | (show J _ _ _ (runS _ _ _ (⟨_, .binOp _ _ _ _ _, _, _, _, _⟩ :: _)); ((refine j_bin rfl rfl rfl rfl ?_))) | (show J _ _ _ (runS _ _ _ (⟨_, .assign _, _, _, _, _⟩ :: _)); refine j_assign rfl rfl ?_) | (show J _ _ _ (runS _ _ _ (⟨_, .pick _ _ _, _, _, _, _⟩ :: _)); (first | refine j_pick_t rfl rfl rfl ?_ | refine j_pick_f rfl rfl rfl ?_))) | refine j_nil ?_ | (show J _ _ _ (runS _ _ _ (⟨_, _, _, _, _, some _⟩ :: _)); first | refine j_gno_u rfl rfl rfl rfl ?_ | refine j_gun_u rfl rfl rfl ?_ | refine j_gyes rfl rfl rfl ?_ | refine j_gsplit_dec rfl rfl (fun h => ?_) (fun h => ?_) | refine j_gsplit rfl rfl (fun h => ?_) (fun h => ?_)) | (show J _ _ _ (Code.wp _ _ _); first | refine j_seq ?_ | refine j_region ?_ | (show J _ _ _ (Code.wp _ (.cond _ _ _) _); first | refine j_true rfl ?_ | refine j_false rfl ?_ | refine j_dec rfl (fun h => ?_) (fun h => ?_)) | refine j_ret ?_ | refine j_skip ?_) | refine j_then ?_ | refine j_then_ret ?_ | refine j_inb ?_ | refine j_inb_ret ?_)
      · rw [if_pos h] at hm1
        exact j_ret1 (M := []) rfl rfl (by repeat (first | exact .refl | refine .drop ?_)) ⟨congrArg Value.bool hm1.symm, rfl⟩
      · rename_i hb0 hp0
        rw [if_neg (by rw [hb0]; simp), if_pos ⟨by omega, by omega⟩] at hm1
        exact j_ret1 (M := []) rfl rfl (by repeat (first | exact .refl | refine .drop ?_)) ⟨congrArg Value.bool hm1.symm, rfl⟩
      · rename_i hb0 hp0
        rw [if_neg (by rw [hb0]; simp), if_neg (by omega)] at hm1
        exact j_round ⟨(k + 1, p + (Utf8.decode s p).2), by omega, by rw [hm1]; congr 1; omega⟩ (by dsimp only; omega) ⟨rfl, rfl, trivial⟩ .refl
      · rename_i hb0
        rw [if_neg (by rw [hb0]; simp), if_neg (by omega)] at hm1
        exact j_round ⟨(k + 1, p + (Utf8.decode s p).2), by omega, by rw [hm1]; congr 1; omega⟩ (by dsimp only; omega) ⟨rfl, rfl, trivial⟩ .refl

theorem drdy1_spec (s : ByteArray) : Tr Try.prog 57 [.string s] [] (fun v M => v = .bool (!mayB s) ∧ M = []) := by
  refine tr_enter Try.func57 rfl Try.ntmps57 rfl (fun F => ?_)
  repeat' (first | (show J _ _ _ (runS _ _ _ (⟨_, _, _, _, _, none⟩ :: _)); first | (show J _ _ _ (runS _ _ _ (⟨_, .move _, _, _, _, _⟩ :: _)); refine j_move rfl rfl ?_) | (show J _ _ _ (runS _ _ _ (⟨_, .assign _, _, _, _, _⟩ :: _)); refine j_assign rfl rfl ?_)) | refine j_nil ?_ | (show J _ _ _ (Code.wp _ _ _); first | refine j_seq ?_ | refine j_region ?_) | refine j_then ?_)
  (refine j_call rfl rfl (dmay_spec s) ((by repeat ((exact .refl)))) rfl (fun v M N h hN => ?_); obtain ⟨rfl, rfl⟩ := h; (try simp only [List.nil_append, List.cons_append, List.append_assoc] at hN); subst hN)
  repeat' (first | (show J _ _ _ (runS _ _ _ (⟨_, _, _, _, _, none⟩ :: _)); first | (show J _ _ _ (runS _ _ _ (⟨_, .assign _, _, _, _, _⟩ :: _)); refine j_assign rfl rfl ?_) | (show J _ _ _ (runS _ _ _ (⟨_, .unOp _ _ _, _, _, _, _⟩ :: _)); ((refine j_not_b rfl rfl ?_)))) | refine j_nil ?_ | (show J _ _ _ (Code.wp _ _ _); (refine j_ret ?_)) | refine j_then ?_)
  exact j_ret1 (M := []) rfl rfl (by repeat ((exact .refl))) ⟨rfl, rfl⟩

/-- is one of the names none -/
def badN (ks : List ByteArray) : Bool := ks.any fun k => !mayB k
theorem badN_snoc {ks : List ByteArray} {i : Nat} {k : ByteArray} (h : ks[i]? = some k) (h0 : badN (ks.take i) = false) : badN (ks.take (i + 1)) = !mayB k := by
  have : ks.take (i + 1) = ks.take i ++ [k] := by rw [List.take_add_one, h]; rfl
  rw [this]
  unfold badN at *
  rw [List.any_append, h0]
  simp
theorem badN_take {ks : List ByteArray} {i : Nat} (h : badN (ks.take i) = true) : badN ks = true := by
  unfold badN at *
  rw [← List.take_append_drop i ks, List.any_append, h]
  rfl

theorem dindex_spec (a : Option Addr) (c : Nat) (ks : List ByteArray) (Lp : List HP) (hv : Sees Lp (fun w => Vw w a ks)) (hkl : ks.length ≤ 1000000) : Tr Try.prog 70 [.slice a ks.length c, .func (.func 57) #[] #[]] Lp (fun v M => (∃ i : Int, v = .int .i64 i ∧ (badN ks = decide (0 ≤ i))) ∧ M = Lp) := by
  refine tr_enter Try.func70 rfl Try.ntmps70 rfl (fun F => ?_)
  repeat' (first | (show J _ _ _ (runS _ _ _ (⟨_, _, _, _, _, none⟩ :: _)); first | (show J _ _ _ (runS _ _ _ (⟨_, .move _, _, _, _, _⟩ :: _)); refine j_move rfl rfl ?_) | (show J _ _ _ (runS _ _ _ (⟨_, .assign _, _, _, _, _⟩ :: _)); refine j_assign rfl rfl ?_) | (show J _ _ _ (runS _ _ _ (⟨_, .call ⟨.builtin .len, _, _⟩, _, _, _, _⟩ :: _)); ((refine j_len rfl rfl ?_)))) | refine j_nil ?_ | (show J _ _ _ (Code.wp _ _ _); first | refine j_seq ?_ | refine j_region ?_) | refine j_then ?_)
  refine j_block ?_
  refine j_loop (X := { i : Nat // i ≤ ks.length ∧ badN (ks.take i) = false }) (fun i => [(0, .slice a ks.length c), (1, .func (.func 57) #[] #[]), (7, .int .i64 (ks.length : Nat)), (8, .int .i64 (i.1 : Nat))]) (fun i => Lp ++ F) (fun i => ks.length - i.1) ⟨0, by omega, rfl⟩ ⟨rfl, rfl, rfl, rfl, trivial⟩ .refl (fun i => ?_)
  obtain ⟨i, hi, hb⟩ := i
  dsimp only
  repeat' (first | (show J _ _ _ (runS _ _ _ (⟨_, _, _, _, _, none⟩ :: _)); first | (show J _ _ _ (runS _ _ _ (⟨_, .binOp _ _ _ _ _, _, _, _, _⟩ :: _)); ((refine j_bin rfl rfl rfl rfl ?_))) | (show J _ _ _ (runS _ _ _ (⟨_, .assign _, _, _, _, _⟩ :: _)); refine j_assign rfl rfl ?_)) | refine j_nil ?_ | (show J _ _ _ (Code.wp _ _ _); first | refine j_seq ?_ | refine j_region ?_ | (show J _ _ _ (Code.wp _ (.cond _ _ _) _); (refine j_dec rfl (fun h => ?_) (fun h => ?_))) | refine j_ret ?_ | refine j_skip ?_ | refine j_exit ?_) | refine j_then ?_ | refine j_then_exit ?_ | refine j_inb_here ?_)
  · have hi2 : i < ks.length := by omega
    repeat' (first | (show J _ _ _ (runS _ _ _ (⟨_, _, _, _, _, none⟩ :: _)); first | (show J _ _ _ (runS _ _ _ (⟨_, .move _, _, _, _, _⟩ :: _)); refine j_move rfl rfl ?_) | (show J _ _ _ (runS _ _ _ (⟨_, .assign _, _, _, _, _⟩ :: _)); refine j_assign rfl rfl ?_)) | refine j_nil ?_ | (show J _ _ _ (Code.wp _ _ _); first | refine j_seq ?_ | refine j_region ?_ | refine j_block ?_) | refine j_then ?_)
    refine j_idx (α := ByteArray) (M := Lp) rfl rfl .refl hv rfl i rfl hi2 rfl (fun b o ha hc => ?_)
    refine j_loadv (M := Lp) rfl rfl .refl (fun w hw => hc 0 _ rfl w hw) rfl ?_
    have hsn := badN_snoc (List.getElem?_eq_getElem hi2) hb
    (refine j_call rfl rfl (drdy1_spec ks[i]) ((by repeat ((exact .refl)))) rfl (fun v M N h hN => ?_); obtain ⟨rfl, rfl⟩ := h; (try simp only [List.nil_append, List.cons_append, List.append_assoc] at hN); subst hN)
    repeat' (first | (show J _ _ _ (runS _ _ _ (⟨_, _, _, _, _, none⟩ :: _)); first | (show J _ _ _ (runS _ _ _ (⟨_, .move _, _, _, _, _⟩ :: _)); refine j_move rfl rfl ?_) | (show J _ _ _ (runS _ _ _ (⟨_, .binOp _ _ _ _ _, _, _, _, _⟩ :: _)); ((refine j_add rfl rfl (by omega) rfl ?_))) | (show J _ _ _ (runS _ _ _ (⟨_, .assign _, _, _, _, _⟩ :: _)); refine j_assign rfl rfl ?_)) | refine j_nil ?_ | (show J _ _ _ (Code.wp _ _ _); first | refine j_seq ?_ | refine j_region ?_ | (show J _ _ _ (Code.wp _ (.cond _ _ _) _); (refine j_bool rfl (fun h => ?_) (fun h => ?_))) | refine j_ret ?_ | refine j_skip ?_) | refine j_then ?_ | refine j_then_ret ?_ | refine j_inb ?_ | refine j_inb_ret ?_)
    · exact j_ret1 (M := Lp) rfl rfl (by repeat ((exact .refl))) ⟨⟨_, rfl, by rw [badN_take (hsn.trans h)]; exact (decide_eq_true (by omega)).symm⟩, rfl⟩
    · exact j_round ⟨i + 1, by omega, hsn.trans h⟩ (by dsimp only; omega) ⟨rfl, rfl, rfl, rfl, trivial⟩ .refl
  · exact j_ret1 (M := Lp) rfl rfl (by repeat ((exact .refl))) ⟨⟨-1, rfl, by rw [List.take_of_length_le (by omega)] at hb; rw [hb]; rfl⟩, rfl⟩

theorem dcontains_spec (a : Option Addr) (c : Nat) (ks : List ByteArray) (Lp : List HP) (hv : Sees Lp (fun w => Vw w a ks)) (hkl : ks.length ≤ 1000000) : Tr Try.prog 56 [.slice a ks.length c, .func (.func 57) #[] #[]] Lp (fun v M => v = .bool (badN ks) ∧ M = Lp) := by
  refine tr_enter Try.func56 rfl Try.ntmps56 rfl (fun F => ?_)
  repeat' (first | (show J _ _ _ (runS _ _ _ (⟨_, _, _, _, _, none⟩ :: _)); first | (show J _ _ _ (runS _ _ _ (⟨_, .move _, _, _, _, _⟩ :: _)); refine j_move rfl rfl ?_) | (show J _ _ _ (runS _ _ _ (⟨_, .assign _, _, _, _, _⟩ :: _)); refine j_assign rfl rfl ?_)) | refine j_nil ?_ | (show J _ _ _ (Code.wp _ _ _); first | refine j_seq ?_ | refine j_region ?_) | refine j_then ?_)
  (refine j_call rfl rfl (dindex_spec a c ks Lp hv hkl) ((by repeat ((exact .refl)))) rfl (fun v M N h hN => ?_); obtain ⟨⟨i, rfl, hbi⟩, rfl⟩ := h; (try simp only [List.nil_append, List.cons_append, List.append_assoc] at hN); subst hN)
  repeat' (first | (show J _ _ _ (runS _ _ _ (⟨_, _, _, _, _, none⟩ :: _)); first | (show J _ _ _ (runS _ _ _ (⟨_, .binOp _ _ _ _ _, _, _, _, _⟩ :: _)); ((refine j_bin rfl rfl rfl rfl ?_))) | (show J _ _ _ (runS _ _ _ (⟨_, .assign _, _, _, _, _⟩ :: _)); refine j_assign rfl rfl ?_)) | refine j_nil ?_ | (show J _ _ _ (Code.wp _ _ _); (refine j_ret ?_)) | refine j_then ?_)
  exact j_ret1 (M := M) rfl rfl .refl ⟨congrArg Value.bool hbi.symm, rfl⟩

def readyE (s : DS) (ks : List ByteArray) : Int := if s.down = true then 41 else if badN ks = true then 5 else 0

theorem dready_spec (d m : Nat) (s : DS) (a : Option Addr) (c : Nat) (ks : List ByteArray) (Lp : List HP) (hv : Sees Lp (fun w => Vw w a ks)) (hkl : ks.length ≤ 1000000) : Tr Try.prog 47 [.pointer (some ⟨d, 0, none⟩), .slice a ks.length c] (blk d 65 [.int .i64 s.room, .map (some m), .bool s.down, .int .i64 s.arm] :: Lp) (fun v M => v = .int .i64 (readyE s ks) ∧ M = blk d 65 [.int .i64 s.room, .map (some m), .bool s.down, .int .i64 s.arm] :: Lp) := by
  refine tr_enter Try.func47 rfl Try.ntmps47 rfl (fun F => ?_)
  repeat' (first | (show J _ _ _ (runS _ _ _ (⟨_, _, _, _, _, none⟩ :: _)); first | (show J _ _ _ (runS _ _ _ (⟨_, .move _, _, _, _, _⟩ :: _)); refine j_move rfl rfl ?_) | (show J _ _ _ (runS _ _ _ (⟨_, .load _ _, _, _, _, _⟩ :: _)); ((refine j_load rfl rfl (by repeat constructor) rfl rfl ?_))) | (show J _ _ _ (runS _ _ _ (⟨_, .fieldAddr _ _ _, _, _, _, _⟩ :: _)); refine j_fieldAddr rfl rfl ?_) | (show J _ _ _ (runS _ _ _ (⟨_, .nilCheck _, _, _, _, _⟩ :: _)); ((refine j_nilCheck rfl rfl ?_))) | (show J _ _ _ (runS _ _ _ (⟨_, .assign _, _, _, _, _⟩ :: _)); refine j_assign rfl rfl ?_)) | refine j_nil ?_ | (show J _ _ _ (Code.wp _ _ _); first | refine j_seq ?_ | refine j_region ?_ | (show J _ _ _ (Code.wp _ (.cond _ _ _) _); (refine j_bool rfl (fun h => ?_) (fun h => ?_))) | refine j_ret ?_ | refine j_skip ?_) | refine j_then ?_ | refine j_then_ret ?_)
  · exact j_ret1 (M := blk d 65 [.int .i64 s.room, .map (some m), .bool s.down, .int .i64 s.arm] :: Lp) rfl rfl .refl ⟨congrArg (Value.int .i64) (by unfold readyE; rw [if_pos h]), rfl⟩
  · have hd0 := h
    clear h
    (refine j_call rfl rfl (dcontains_spec a c ks (blk d 65 [.int .i64 s.room, .map (some m), .bool s.down, .int .i64 s.arm] :: Lp) (fun w hw => hv w hw.tail) hkl) (.refl) rfl (fun v M N h hN => ?_); obtain ⟨rfl, hM⟩ := h; (try simp only [List.nil_append, List.cons_append, List.append_assoc] at hN); subst hN)
    rw [hM]
    repeat' (first | (show J _ _ _ (runS _ _ _ (⟨_, _, _, _, _, none⟩ :: _)); (show J _ _ _ (runS _ _ _ (⟨_, .assign _, _, _, _, _⟩ :: _)); refine j_assign rfl rfl ?_)) | refine j_nil ?_ | (show J _ _ _ (Code.wp _ _ _); first | refine j_seq ?_ | refine j_region ?_ | (show J _ _ _ (Code.wp _ (.cond _ _ _) _); (refine j_bool rfl (fun h => ?_) (fun h => ?_))) | refine j_ret ?_ | refine j_skip ?_) | refine j_then ?_ | refine j_then_ret ?_)
    · exact j_ret1 (M := blk d 65 [.int .i64 s.room, .map (some m), .bool s.down, .int .i64 s.arm] :: Lp) rfl rfl .refl ⟨congrArg (Value.int .i64) (by unfold readyE; rw [hd0, h]; rfl), rfl⟩
    · exact j_ret1 (M := blk d 65 [.int .i64 s.room, .map (some m), .bool s.down, .int .i64 s.arm] :: Lp) rfl rfl .refl ⟨congrArg (Value.int .i64) (by unfold readyE; rw [hd0, h]; rfl), rfl⟩

/-- what bars a write of a file -/
def knownE (s : DS) (ks : List ByteArray) (k : ByteArray) : Int := if readyE s ks ≠ 0 then readyE s ks else if getM s.fs k = none then 10 else 0

theorem dknown_spec (d : Nat) (s : DS) (a : Option Addr) (c : Nat) (k : ByteArray) (kt : List ByteArray) (Lp : List HP) (hv : Sees Lp (fun w => Vw w a (k :: kt))) (hkl : (k :: kt).length ≤ 1000000) : Tr Try.prog 49 [.pointer (some ⟨d, 0, none⟩), .slice a (k :: kt).length c] (DiskA d s :: Lp)
    (fun v M => (knownE s (k :: kt) k ≠ 0 ∧ v = .tuple #[.pointer none, .int .i64 (knownE s (k :: kt) k)] ∧ M = DiskA d s :: Lp) ∨
      (knownE s (k :: kt) k = 0 ∧ ∃ (m : Nat) (l : Lst) (i p : Nat) (f : FileS), fsOf l = s.fs ∧ (l.map Prod.fst).Nodup ∧ l[i]? = some (k, p, f) ∧ getM s.fs k = some f ∧ v = .tuple #[.pointer (some ⟨p, 0, none⟩), .int .i64 0] ∧ M = blk d 65 [.int .i64 s.room, .map (some m), .bool s.down, .int .i64 s.arm] :: MapA m (ptrs l) :: All (plcs l) :: Lp)) := by
  refine tr_enter Try.func49 rfl Try.ntmps49 rfl (fun F => ?_)
  refine j_disk (fun m l hf hn => ?_)
  repeat' (first | (show J _ _ _ (runS _ _ _ (⟨_, _, _, _, _, none⟩ :: _)); first | (show J _ _ _ (runS _ _ _ (⟨_, .move _, _, _, _, _⟩ :: _)); refine j_move rfl rfl ?_) | (show J _ _ _ (runS _ _ _ (⟨_, .assign _, _, _, _, _⟩ :: _)); refine j_assign rfl rfl ?_)) | refine j_nil ?_ | (show J _ _ _ (Code.wp _ _ _); first | refine j_seq ?_ | refine j_region ?_) | refine j_then ?_)
  (refine j_call rfl rfl (dready_spec d m s a c (k :: kt) (MapA m (ptrs l) :: All (plcs l) :: Lp) (fun w hw => hv w hw.tail.tail) hkl) (.refl) rfl (fun v M N h hN => ?_); obtain ⟨rfl, hM⟩ := h; (try simp only [List.nil_append, List.cons_append, List.append_assoc] at hN); subst hN)
  rw [hM]
  simp only [List.cons_append]
  repeat' (first | (show J _ _ _ (runS _ _ _ (⟨_, _, _, _, _, none⟩ :: _)); first | (show J _ _ _ (runS _ _ _ (⟨_, .move _, _, _, _, _⟩ :: _)); refine j_move rfl rfl ?_) | (show J _ _ _ (runS _ _ _ (⟨_, .load _ _, _, _, _, _⟩ :: _)); ((refine j_load rfl rfl (by repeat constructor) rfl rfl ?_))) | (show J _ _ _ (runS _ _ _ (⟨_, .fieldAddr _ _ _, _, _, _, _⟩ :: _)); refine j_fieldAddr rfl rfl ?_) | (show J _ _ _ (runS _ _ _ (⟨_, .nilCheck _, _, _, _, _⟩ :: _)); ((refine j_nilCheck rfl rfl ?_))) | (show J _ _ _ (runS _ _ _ (⟨_, .binOp _ _ _ _ _, _, _, _, _⟩ :: _)); ((refine j_bin rfl rfl rfl rfl ?_))) | (show J _ _ _ (runS _ _ _ (⟨_, .assign _, _, _, _, _⟩ :: _)); refine j_assign rfl rfl ?_)) | refine j_nil ?_ | (show J _ _ _ (Code.wp _ _ _); first | refine j_seq ?_ | refine j_region ?_ | (show J _ _ _ (Code.wp _ (.cond _ _ _) _); (refine j_dec rfl (fun h => ?_) (fun h => ?_))) | refine j_ret ?_ | refine j_skip ?_ | refine j_draw (by decide +kernel) ?_) | refine j_then ?_ | refine j_then_ret ?_)
  · have hk0 : knownE s (k :: kt) k = readyE s (k :: kt) := by unfold knownE; rw [if_pos h]
    refine j_undisk hn ?_
    rw [hf]
    exact j_ret2 (M := DiskA d s :: Lp) rfl rfl rfl .refl (.inl ⟨by rw [hk0]; exact h, by rw [hk0], rfl⟩)
  · refine j_idx (α := ByteArray) (ls := k :: kt) (M := blk d 65 [.int .i64 s.room, .map (some m), .bool s.down, .int .i64 s.arm] :: MapA m (ptrs l) :: All (plcs l) :: Lp) rfl rfl .refl (fun w hw => hv w hw.tail.tail.tail) rfl 0 rfl (by simp) rfl (fun b o ha hc => ?_)
    refine j_loadv (M := blk d 65 [.int .i64 s.room, .map (some m), .bool s.down, .int .i64 s.arm] :: MapA m (ptrs l) :: All (plcs l) :: Lp) (v := .string k) rfl rfl .refl (fun w hw => hc 0 _ rfl w hw) rfl ?_
    refine j_lookupN (α := ByteArray) (β := Nat) (k := k) rfl rfl (by repeat constructor) rfl (fun hg => ?_) (fun p hg => ?_)
    · have h2 := ptrs_none hg
      rw [hf] at h2
      have hk0 : knownE s (k :: kt) k = 10 := by unfold knownE; rw [if_neg h, if_pos h2]
      repeat' (first | (show J _ _ _ (runS _ _ _ (⟨_, _, _, _, _, none⟩ :: _)); first | (show J _ _ _ (runS _ _ _ (⟨_, .move _, _, _, _, _⟩ :: _)); refine j_move rfl rfl ?_) | (show J _ _ _ (runS _ _ _ (⟨_, .assign _, _, _, _, _⟩ :: _)); refine j_assign rfl rfl ?_) | (show J _ _ _ (runS _ _ _ (⟨_, .unOp _ _ _, _, _, _, _⟩ :: _)); ((refine j_not_b rfl rfl ?_))) | (show J _ _ _ (runS _ _ _ (⟨_, .extract _ _, _, _, _, _⟩ :: _)); refine j_extract rfl rfl rfl ?_)) | refine j_nil ?_ | (show J _ _ _ (Code.wp _ _ _); first | refine j_seq ?_ | refine j_region ?_ | (show J _ _ _ (Code.wp _ (.cond _ _ _) _); (refine j_true rfl ?_)) | refine j_ret ?_) | refine j_then ?_ | refine j_then_ret ?_)
      refine j_undisk hn ?_
      rw [hf]
      exact j_ret2 (M := DiskA d s :: Lp) rfl rfl rfl .refl (.inl ⟨by rw [hk0]; decide, by rw [hk0], rfl⟩)
    · obtain ⟨i, f, hi, h2⟩ := ptrs_some hg
      rw [hf] at h2
      have hk0 : knownE s (k :: kt) k = 0 := by unfold knownE; rw [if_neg h, if_neg (by rw [h2]; simp)]
      repeat' (first | (show J _ _ _ (runS _ _ _ (⟨_, _, _, _, _, none⟩ :: _)); first | (show J _ _ _ (runS _ _ _ (⟨_, .move _, _, _, _, _⟩ :: _)); refine j_move rfl rfl ?_) | (show J _ _ _ (runS _ _ _ (⟨_, .assign _, _, _, _, _⟩ :: _)); refine j_assign rfl rfl ?_) | (show J _ _ _ (runS _ _ _ (⟨_, .unOp _ _ _, _, _, _, _⟩ :: _)); ((refine j_not_b rfl rfl ?_))) | (show J _ _ _ (runS _ _ _ (⟨_, .extract _ _, _, _, _, _⟩ :: _)); refine j_extract rfl rfl rfl ?_)) | refine j_nil ?_ | (show J _ _ _ (Code.wp _ _ _); first | refine j_seq ?_ | refine j_region ?_ | (show J _ _ _ (Code.wp _ (.cond _ _ _) _); (refine j_false rfl ?_)) | refine j_ret ?_ | refine j_skip ?_) | refine j_then ?_)
      exact j_ret2 (M := blk d 65 [.int .i64 s.room, .map (some m), .bool s.down, .int .i64 s.arm] :: MapA m (ptrs l) :: All (plcs l) :: Lp) rfl rfl rfl .refl (.inr ⟨hk0, m, l, i, p, f, hf, hn, hi, h2, rfl, rfl⟩)

/-! what is written, dropped, moved in the list of places -/
theorem map_getM {β γ : Type} (g : β → γ) (l : List (ByteArray × β)) (k : ByteArray) : getM (l.map fun e => (e.1, g e.2)) k = (getM l k).map g := by
  induction l with
  | nil => rfl
  | cons e l ih =>
    unfold getM at *
    rw [List.map_cons, List.find?_cons, List.find?_cons]
    by_cases he : e.1 = k
    · simp [he]
    · simp only [he, decide_false]
      exact ih
theorem map_putM {β γ : Type} (g : β → γ) (l : List (ByteArray × β)) (k : ByteArray) (y : β) : (putM l k y).map (fun e => (e.1, g e.2)) = putM (l.map fun e => (e.1, g e.2)) k (g y) := by
  unfold putM
  have e1 : (l.map fun e => (e.1, g e.2)).map Prod.fst = l.map Prod.fst := by rw [List.map_map]; rfl
  rw [e1]
  by_cases h : k ∈ l.map Prod.fst
  · rw [if_pos h, if_pos h, List.map_map, List.map_map]
    refine List.map_congr_left fun e _ => ?_
    by_cases he : e.1 = k
    · simp [Function.comp, he]
    · simp [Function.comp, he]
  · rw [if_neg h, if_neg h, List.map_append]; rfl
theorem map_delM {β γ : Type} (g : β → γ) (l : List (ByteArray × β)) (k : ByteArray) : (delM l k).map (fun e => (e.1, g e.2)) = delM (l.map fun e => (e.1, g e.2)) k := by
  unfold delM
  rw [List.filter_map]
  rfl
theorem ptrs_putM (l : Lst) (k : ByteArray) (p : Nat) (f : FileS) : ptrs (putM l k (p, f)) = putM (ptrs l) k p := map_putM Prod.fst l k (p, f)
theorem fsOf_putM (l : Lst) (k : ByteArray) (p : Nat) (f : FileS) : fsOf (putM l k (p, f)) = putM (fsOf l) k f := map_putM Prod.snd l k (p, f)
theorem ptrs_delM (l : Lst) (k : ByteArray) : ptrs (delM l k) = delM (ptrs l) k := map_delM Prod.fst l k
theorem fsOf_delM (l : Lst) (k : ByteArray) : fsOf (delM l k) = delM (fsOf l) k := map_delM Prod.snd l k

theorem map_erase {α β : Type} (f : α → β) : ∀ (l : List α) (i : Nat), (l.eraseIdx i).map f = (l.map f).eraseIdx i
  | [], _ => rfl
  | _ :: _, 0 => rfl
  | x :: l, i + 1 => by simp only [List.eraseIdx_cons_succ, List.map_cons, map_erase f l i]
/-- the place of a file is taken out -/
theorem j_takeAll {n : Nat} {fm : Fm} {L : List HP} {X : Act → World → Prop} {l : Lst} (hn : (l.map Prod.fst).Nodup) {i p : Nat} {k : ByteArray} {f : FileS} (hi : l[i]? = some (k, p, f)) (h : J n fm (FileA p f :: All (plcs (delM l k)) :: L) X) : J n fm (All (plcs l) :: L) X := by
  have hlt : i < (plcs l).length := by rw [plcs_len]; exact (List.getElem?_eq_some_iff.1 hi).1
  refine j_focus (plcs_get hi) (j_tk (A := All _) (.s .z) (j_erase (i := i) (by simpa using hlt) (j_tk (.s .z) ?_)))
  have e : ((plcs l).set i Emp).eraseIdx i = plcs (delM l k) := by
    have hix : l.findIdx? (fun q => q.1 = k) = some i := by
      rw [List.findIdx?_eq_some_iff_getElem]
      obtain ⟨h1, h2⟩ := List.getElem?_eq_some_iff.1 hi
      refine ⟨h1, by rw [h2]; simp, fun j hj => ?_⟩
      simp only [decide_eq_true_eq]
      intro he
      have h3 := List.pairwise_iff_getElem.1 hn j i (by rw [List.length_map]; omega) (by simpa using h1) hj
      rw [List.getElem_map, List.getElem_map, h2] at h3
      exact h3 he
    rw [delM_idx hn hix]
    unfold plcs
    rw [map_erase, List.eraseIdx_set_eq]
  rw [e]
  exact h
/-- .. and put under a name -/
theorem j_putAll {n : Nat} {fm : Fm} {L : List HP} {X : Act → World → Prop} {l : Lst} (hn : (l.map Prod.fst).Nodup) {p : Nat} {k : ByteArray} {f : FileS} (h : J n fm (All (plcs (putM l k (p, f))) :: L) X) : J n fm (FileA p f :: All (plcs l) :: L) X := by
  by_cases hk : k ∈ l.map Prod.fst
  · obtain ⟨e, he, hek⟩ := List.mem_map.1 hk
    obtain ⟨i, hi⟩ := List.getElem?_of_mem he
    obtain ⟨k', p', f'⟩ := e
    subst hek
    have hlt : i < (plcs l).length := by rw [plcs_len]; exact (List.getElem?_eq_some_iff.1 hi).1
    refine j_tk (A := All _) (.s .z) (j_focus (plcs_get hi) (j_tail (j_tk (.s .z) (j_unfocus hlt ?_))))
    have := set_putM hn (z := (p', f')) (y := (p, f)) (j := i) (k := k') (v := (p', f')) (by unfold addM; rw [if_pos hk]; exact hi)
    unfold addM at this
    rw [if_pos hk] at this
    rw [← plcs_set, this]
    exact h
  · refine j_snoc ?_
    have e : plcs l ++ [FileA p f] = plcs (putM l k (p, f)) := by unfold putM; rw [if_neg hk]; unfold plcs; rw [List.map_append]; rfl
    rw [e]
    exact h

end Go.Proofs.Ytjneocpbpnbopaa
