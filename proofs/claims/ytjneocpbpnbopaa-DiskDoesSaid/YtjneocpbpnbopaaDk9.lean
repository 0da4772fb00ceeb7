/- Disks: an act on the disk; the calls whose answers the document fixes. -/
import Derived.Test.YtjneocpbpnbopaaDk8
set_option linter.unusedVariables false
set_option linter.unusedSimpArgs false
set_option maxRecDepth 100000
namespace Go.Proofs.Ytjneocpbpnbopaa
open Go
attribute [local irreducible] Exit.then Exit.inBlock Code.wp runS bodyPost postF J runT cutQ cutR Tr Sat blk Sl Old Star Ex Pu
attribute [local irreducible] MapA MapB IterA IterS All
open Kv Vv

theorem dreal_spec (d : Nat) (s : DS) (x : DAct) (ms : List UInt8) (l : List LeftS) (Lq : List HP) (hI : DInv s) (hb : x.bn = ms.length) (hbc : ms.length ≤ x.bc) (hvb : Sees Lq (fun w => Vw w x.bA ms)) (hl : x.ln = l.length) (hvl : Sees Lq (fun w => Vw w x.lA l)) :
    Tr Try.prog 13 [.pointer (some ⟨d, 0, none⟩), .agg (Enc.enc x).toArray] (DiskA d s :: Lq) (fun v M => v = .int .i64 (realN s x ms l).1 ∧ M = DiskA d (realN s x ms l).2 :: Lq) := by
  obtain ⟨rv, hrv⟩ : ∃ rv, realN s x ms l = rv := ⟨_, rfl⟩
  rw [hrv]
  obtain ⟨k, A, T, bA, bn, bc, N, lA, ln, lc⟩ := x
  dsimp only at hb hbc hvb hl hvl
  subst hb hl
  unfold realN at hrv
  dsimp only at hrv
  change Tr Try.prog 13 [.pointer (some ⟨d, 0, none⟩), .agg #[.int .i64 k, .string A, .string T, .slice bA ms.length bc, .int .i64 N, .slice lA l.length lc]] _ _
  refine tr_enter Try.func13 rfl Try.ntmps13 rfl (fun F => ?_)
  repeat' (first | (show J _ _ _ (runS _ _ _ (⟨_, _, _, _, _, none⟩ :: _)); first | (show J _ _ _ (runS _ _ _ (⟨_, .move _, _, _, _, _⟩ :: _)); refine j_move rfl rfl ?_) | (show J _ _ _ (runS _ _ _ (⟨_, .load _ _, _, _, _, _⟩ :: _)); ((refine j_load rfl rfl (by repeat constructor) rfl rfl ?_))) | (show J _ _ _ (runS _ _ _ (⟨_, .fieldAddr _ _ _, _, _, _, _⟩ :: _)); refine j_fieldAddr rfl rfl ?_) | (show J _ _ _ (runS _ _ _ (⟨_, .binOp _ _ _ _ _, _, _, _, _⟩ :: _)); ((refine j_bin rfl rfl rfl rfl ?_))) | (show J _ _ _ (runS _ _ _ (⟨_, .assign _, _, _, _, _⟩ :: _)); refine j_assign rfl rfl ?_) | (show J _ _ _ (runS _ _ _ (⟨_, .box _ _, _, _, _, _⟩ :: _)); refine j_box rfl rfl (fun b => ?_))) | refine j_nil ?_ | (show J _ _ _ (Code.wp _ _ _); first | refine j_seq ?_ | refine j_region ?_ | refine j_block ?_ | (show J _ _ _ (Code.wp _ (.cond _ _ _) _); (refine j_dec rfl (fun h => ?_) (fun h => ?_))) | refine j_ret ?_ | refine j_skip ?_) | refine j_then ?_ | refine j_inb ?_)
  · rw [if_pos h] at hrv
    (refine j_call rfl rfl (dappend_spec d s A bA bc ms Lq hvb hI hbc) ((.drop .refl)) rfl (fun v M N h hN => ?_); obtain ⟨rfl, rfl⟩ := h; (try simp only [List.nil_append, List.cons_append, List.append_assoc] at hN); subst hN)
    repeat' (first | (show J _ _ _ (runS _ _ _ (⟨_, _, _, _, _, none⟩ :: _)); (show J _ _ _ (runS _ _ _ (⟨_, .assign _, _, _, _, _⟩ :: _)); refine j_assign rfl rfl ?_)) | refine j_nil ?_ | (show J _ _ _ (Code.wp _ _ _); (refine j_ret ?_)) | refine j_then ?_ | refine j_then_ret ?_ | refine j_inb_ret ?_)
    rw [hrv]
    exact j_ret1 (M := DiskA d rv.2 :: Lq) rfl rfl .refl ⟨rfl, rfl⟩
  · rename_i h0
    rw [if_neg h0, if_pos h] at hrv
    (refine j_call rfl rfl (dsync_spec d s A hI) ((.drop .refl)) rfl (fun v M N h hN => ?_); obtain ⟨rfl, rfl⟩ := h; (try simp only [List.nil_append, List.cons_append, List.append_assoc] at hN); subst hN)
    repeat' (first | (show J _ _ _ (runS _ _ _ (⟨_, _, _, _, _, none⟩ :: _)); (show J _ _ _ (runS _ _ _ (⟨_, .assign _, _, _, _, _⟩ :: _)); refine j_assign rfl rfl ?_)) | refine j_nil ?_ | (show J _ _ _ (Code.wp _ _ _); (refine j_ret ?_)) | refine j_then ?_ | refine j_then_ret ?_ | refine j_inb_ret ?_)
    rw [hrv]
    exact j_ret1 (M := DiskA d rv.2 :: Lq) rfl rfl .refl ⟨rfl, rfl⟩
  · rename_i h0 h1
    rw [if_neg h0, if_neg h1, if_pos h] at hrv
    (refine j_call rfl rfl (dcut_spec d s A N hI) ((.drop .refl)) rfl (fun v M N h hN => ?_); obtain ⟨rfl, rfl⟩ := h; (try simp only [List.nil_append, List.cons_append, List.append_assoc] at hN); subst hN)
    repeat' (first | (show J _ _ _ (runS _ _ _ (⟨_, _, _, _, _, none⟩ :: _)); (show J _ _ _ (runS _ _ _ (⟨_, .assign _, _, _, _, _⟩ :: _)); refine j_assign rfl rfl ?_)) | refine j_nil ?_ | (show J _ _ _ (Code.wp _ _ _); (refine j_ret ?_)) | refine j_then ?_ | refine j_then_ret ?_ | refine j_inb_ret ?_)
    rw [hrv]
    exact j_ret1 (M := DiskA d rv.2 :: Lq) rfl rfl .refl ⟨rfl, rfl⟩
  · rename_i h0 h1 h2
    rw [if_neg h0, if_neg h1, if_neg h2, if_pos h] at hrv
    (refine j_call rfl rfl (dmove_spec d s A T hI) ((.drop .refl)) rfl (fun v M N h hN => ?_); obtain ⟨rfl, rfl⟩ := h; (try simp only [List.nil_append, List.cons_append, List.append_assoc] at hN); subst hN)
    repeat' (first | (show J _ _ _ (runS _ _ _ (⟨_, _, _, _, _, none⟩ :: _)); (show J _ _ _ (runS _ _ _ (⟨_, .assign _, _, _, _, _⟩ :: _)); refine j_assign rfl rfl ?_)) | refine j_nil ?_ | (show J _ _ _ (Code.wp _ _ _); (refine j_ret ?_)) | refine j_then ?_ | refine j_then_ret ?_ | refine j_inb_ret ?_)
    rw [hrv]
    exact j_ret1 (M := DiskA d rv.2 :: Lq) rfl rfl .refl ⟨rfl, rfl⟩
  · rename_i h0 h1 h2 h3
    rw [if_neg h0, if_neg h1, if_neg h2, if_neg h3, if_pos h] at hrv
    (refine j_call rfl rfl (ddrop_spec d s A hI) ((.drop .refl)) rfl (fun v M N h hN => ?_); obtain ⟨rfl, rfl⟩ := h; (try simp only [List.nil_append, List.cons_append, List.append_assoc] at hN); subst hN)
    repeat' (first | (show J _ _ _ (runS _ _ _ (⟨_, _, _, _, _, none⟩ :: _)); (show J _ _ _ (runS _ _ _ (⟨_, .assign _, _, _, _, _⟩ :: _)); refine j_assign rfl rfl ?_)) | refine j_nil ?_ | (show J _ _ _ (Code.wp _ _ _); (refine j_ret ?_)) | refine j_then ?_ | refine j_then_ret ?_ | refine j_inb_ret ?_)
    rw [hrv]
    exact j_ret1 (M := DiskA d rv.2 :: Lq) rfl rfl .refl ⟨rfl, rfl⟩
  · rename_i h0 h1 h2 h3 h4
    rw [if_neg h0, if_neg h1, if_neg h2, if_neg h3, if_neg h4, if_pos h] at hrv
    subst hrv
    (refine j_call rfl rfl (darm_spec d s N) ((.drop .refl)) rfl (fun v M N h hN => ?_); obtain ⟨rfl, rfl⟩ := h; (try simp only [List.nil_append, List.cons_append, List.append_assoc] at hN); subst hN)
    repeat' (first | (show J _ _ _ (runS _ _ _ (⟨_, _, _, _, _, none⟩ :: _)); (show J _ _ _ (runS _ _ _ (⟨_, .assign _, _, _, _, _⟩ :: _)); refine j_assign rfl rfl ?_)) | refine j_nil ?_ | (show J _ _ _ (Code.wp _ _ _); first | refine j_seq ?_ | refine j_region ?_ | refine j_ret ?_) | refine j_then ?_ | refine j_inb ?_)
    exact j_ret1 (M := DiskA d ⟨s.room, s.down, armN N, s.fs⟩ :: Lq) rfl rfl .refl ⟨rfl, rfl⟩
  · rename_i h0 h1 h2 h3 h4 h5
    rw [if_neg h0, if_neg h1, if_neg h2, if_neg h3, if_neg h4, if_neg h5, if_pos h] at hrv
    subst hrv
    (refine j_call rfl rfl (dcrash_spec d s lA lc l Lq hvl hI) ((.drop .refl)) rfl (fun v M N h hN => ?_); obtain ⟨rfl, rfl⟩ := h; (try simp only [List.nil_append, List.cons_append, List.append_assoc] at hN); subst hN)
    repeat' (first | (show J _ _ _ (runS _ _ _ (⟨_, _, _, _, _, none⟩ :: _)); (show J _ _ _ (runS _ _ _ (⟨_, .assign _, _, _, _, _⟩ :: _)); refine j_assign rfl rfl ?_)) | refine j_nil ?_ | (show J _ _ _ (Code.wp _ _ _); first | refine j_seq ?_ | refine j_region ?_ | refine j_ret ?_) | refine j_then ?_ | refine j_inb ?_)
    exact j_ret1 (M := DiskA d (crashS s l) :: Lq) rfl rfl .refl ⟨rfl, rfl⟩
  · rename_i h0 h1 h2 h3 h4 h5
    rw [if_neg h0, if_neg h1, if_neg h2, if_neg h3, if_neg h4, if_neg h5, if_neg h] at hrv
    subst hrv
    exact j_ret1 (M := DiskA d s :: Lq) rfl rfl (.drop .refl) ⟨rfl, rfl⟩

theorem dnew_ok (room : Int) (h : 0 ≤ room ∧ room ≤ 1048576) : Tr Try.prog 11 [.int .i64 room] [] (fun v M => ∃ d, v = .pointer (some ⟨d, 0, none⟩) ∧ M = [DiskA d ⟨room, false, -1, []⟩]) :=
  (dnew_spec room).mono fun v M hh => by
    rcases hh with ⟨h1, _⟩ | ⟨_, h2⟩
    · exact absurd h h1
    · exact h2
theorem dnew_no (room : Int) (h : ¬ (0 ≤ room ∧ room ≤ 1048576)) : Tr Try.prog 11 [.int .i64 room] [] (fun v M => v = .pointer none ∧ M = []) :=
  (dnew_spec room).mono fun v M hh => by
    rcases hh with ⟨_, h2⟩ | ⟨h1, _⟩
    · exact h2
    · exact absurd h1 h
theorem dnew_inv {room : Int} (h : 0 ≤ room ∧ room ≤ 1048576) : DInv ⟨room, false, -1, []⟩ := ⟨h, by show ((0 : Nat) : Int) ≤ room; omega, by simp, by simp, by simp, ⟨by show (-1 : Int) ≤ -1; omega, by show (-1 : Int) ≤ _; omega⟩, by simp⟩

def nA : ByteArray := ⟨#[97]⟩
def nB : ByteArray := ⟨#[98]⟩
def s0 : DS := ⟨10, false, -1, []⟩
def s1 : DS := ⟨10, false, -1, [(nA, ⟨[97, 98, 99, 100, 101, 102], 0⟩)]⟩
def s2 : DS := ⟨10, false, -1, [(nA, ⟨[97, 98, 99, 100, 101, 102], 6⟩)]⟩
def s3 : DS := ⟨10, false, -1, [(nA, ⟨[97, 98, 99, 100, 101, 102, 103, 104, 105, 106], 6⟩)]⟩
def s4 : DS := ⟨10, false, -1, [(nA, ⟨[97, 98, 99, 100, 101, 102, 103, 0, 0, 0], 10⟩)]⟩
theorem e1 : appN s0 nA [97, 98, 99, 100, 101, 102] = (0, s1) := by decide +kernel
theorem e2 : appN s1 nB [97, 98, 99, 100, 101] = (40, s1) := by decide +kernel
theorem e3 : syncN s1 nA = (0, s2) := by decide +kernel
theorem e4 : appN s2 nA [103, 104, 105, 106] = (0, s3) := by decide +kernel

theorem f3 : filesL s3 = [nA] := List.perm_singleton.1 (filesL_perm s3)
theorem f4 : filesL s4 = [nA] := List.perm_singleton.1 (filesL_perm s4)
theorem e5 : crashS s3 [⟨1, true⟩] = s4 := by
  unfold crashS
  rw [f3]
  decide +kernel
theorem s1_inv : DInv s1 := by have := app_inv (dnew_inv (room := 10) (by omega)) nA [97, 98, 99, 100, 101, 102]; rw [show appN ⟨10, false, -1, []⟩ nA [97, 98, 99, 100, 101, 102] = (0, s1) from e1] at this; exact this
theorem s2_inv : DInv s2 := by have := sync_inv s1_inv nA; rw [e3] at this; exact this
theorem s3_inv : DInv s3 := by have := app_inv s2_inv nA [103, 104, 105, 106]; rw [e4] at this; exact this
theorem s4_inv : DInv s4 := by have := crash_inv s3_inv [⟨1, true⟩]; rw [e5] at this; exact this

theorem dawake_spec : Tr Try.prog 10 [] [] (fun v M => v = .bool true ∧ M = []) := by
  refine tr_enter Try.func10 rfl Try.ntmps10 rfl (fun F => ?_)
  repeat' (first | (show J _ _ _ (runS _ _ _ (⟨_, _, _, _, _, none⟩ :: _)); (show J _ _ _ (runS _ _ _ (⟨_, .assign _, _, _, _, _⟩ :: _)); refine j_assign rfl rfl ?_)) | refine j_nil ?_ | (show J _ _ _ (Code.wp _ _ _); first | refine j_seq ?_ | refine j_region ?_) | refine j_then ?_)
  (refine j_call rfl rfl (dnew_ok 10 (by omega)) (.refl) rfl (fun v M N h hN => ?_); obtain ⟨d, rfl, rfl⟩ := h; (try simp only [List.nil_append, List.cons_append, List.append_assoc] at hN); subst hN)
  repeat' (first | (show J _ _ _ (runS _ _ _ (⟨_, _, _, _, _, none⟩ :: _)); first | (show J _ _ _ (runS _ _ _ (⟨_, .move _, _, _, _, _⟩ :: _)); refine j_move rfl rfl ?_) | (show J _ _ _ (runS _ _ _ (⟨_, .binOp _ _ _ _ _, _, _, _, _⟩ :: _)); ((refine j_eqptrnil rfl rfl rfl ?_))) | (show J _ _ _ (runS _ _ _ (⟨_, .assign _, _, _, _, _⟩ :: _)); refine j_assign rfl rfl ?_)) | refine j_nil ?_ | (show J _ _ _ (runS _ _ _ (⟨_, _, _, _, _, some _⟩ :: _)); (refine j_gyes rfl rfl rfl ?_)) | (show J _ _ _ (Code.wp _ _ _); first | refine j_seq ?_ | refine j_region ?_) | refine j_then ?_)
  (refine j_call rfl rfl (dnew_no (-1) (by omega)) (.refl) rfl (fun v M N h hN => ?_); obtain ⟨rfl, rfl⟩ := h; (try simp only [List.nil_append, List.cons_append, List.append_assoc] at hN); subst hN)
  repeat' (first | (show J _ _ _ (runS _ _ _ (⟨_, _, _, _, _, none⟩ :: _)); first | (show J _ _ _ (runS _ _ _ (⟨_, .move _, _, _, _, _⟩ :: _)); refine j_move rfl rfl ?_) | (show J _ _ _ (runS _ _ _ (⟨_, .binOp _ _ _ _ _, _, _, _, _⟩ :: _)); ((refine j_neptrnil rfl rfl rfl ?_))) | (show J _ _ _ (runS _ _ _ (⟨_, .pick _ _ _, _, _, _, _⟩ :: _)); ((refine j_pick_f rfl rfl rfl ?_)))) | refine j_nil ?_ | (show J _ _ _ (runS _ _ _ (⟨_, _, _, _, _, some _⟩ :: _)); (refine j_gyes rfl rfl rfl ?_)) | (show J _ _ _ (Code.wp _ _ _); first | refine j_seq ?_ | refine j_region ?_ | (show J _ _ _ (Code.wp _ (.cond _ _ _) _); (refine j_false rfl ?_)) | refine j_skip ?_) | refine j_then ?_)
  refine j_lits (α := UInt8) rfl [_, _, _, _, _, _] [97, 98, 99, 100, 101, 102] ⟨rfl, rfl, rfl, rfl, rfl, rfl, rfl, rfl, rfl, rfl, rfl, rfl, trivial⟩ rfl rfl (by decide) (by decide) rfl (fun b0 => ?_)
  refine j_ro (by simp) ?_
  refine j_convMark (α := UInt8) (ls := [97, 98, 99, 100, 101, 102]) rfl .z rfl ?_
  (refine j_call rfl rfl (dappend_spec d s0 nA (some ⟨b0, 0, none⟩) 6 [97, 98, 99, 100, 101, 102] [Ro 5 b0 ([97, 98, 99, 100, 101, 102] : List UInt8)] (sees_ro .z) (dnew_inv (room := 10) (by omega)) (by decide)) ((by repeat (first | exact .refl | apply Pk.cons | constructor))) rfl (fun v M N h hN => ?_); obtain ⟨rfl, rfl⟩ := h; (try simp only [List.nil_append, List.cons_append, List.append_assoc] at hN); subst hN)
  rw [e1]
  repeat' (first | (show J _ _ _ (runS _ _ _ (⟨_, _, _, _, _, none⟩ :: _)); first | (show J _ _ _ (runS _ _ _ (⟨_, .move _, _, _, _, _⟩ :: _)); refine j_move rfl rfl ?_) | (show J _ _ _ (runS _ _ _ (⟨_, .assign _, _, _, _, _⟩ :: _)); refine j_assign rfl rfl ?_)) | refine j_nil ?_ | (show J _ _ _ (Code.wp _ _ _); first | refine j_seq ?_ | refine j_region ?_) | refine j_then ?_)
  refine j_lits (α := UInt8) rfl [_, _, _, _, _] [97, 98, 99, 100, 101] ⟨rfl, rfl, rfl, rfl, rfl, rfl, rfl, rfl, rfl, rfl, trivial⟩ rfl rfl (by decide) (by decide) rfl (fun b0 => ?_)
  refine j_ro (by simp) ?_
  refine j_convMark (α := UInt8) (ls := [97, 98, 99, 100, 101]) rfl .z rfl ?_
  (refine j_call rfl rfl (dappend_spec d s1 nB (some ⟨b0, 0, none⟩) 5 [97, 98, 99, 100, 101] [Ro 5 b0 ([97, 98, 99, 100, 101] : List UInt8)] (sees_ro .z) s1_inv (by decide)) ((by repeat (first | exact .refl | apply Pk.cons | constructor))) rfl (fun v M N h hN => ?_); obtain ⟨rfl, rfl⟩ := h; (try simp only [List.nil_append, List.cons_append, List.append_assoc] at hN); subst hN)
  rw [e2]
  repeat' (first | (show J _ _ _ (runS _ _ _ (⟨_, _, _, _, _, none⟩ :: _)); first | (show J _ _ _ (runS _ _ _ (⟨_, .move _, _, _, _, _⟩ :: _)); refine j_move rfl rfl ?_) | (show J _ _ _ (runS _ _ _ (⟨_, .assign _, _, _, _, _⟩ :: _)); refine j_assign rfl rfl ?_)) | refine j_nil ?_ | (show J _ _ _ (Code.wp _ _ _); first | refine j_seq ?_ | refine j_region ?_) | refine j_then ?_)
  (refine j_call rfl rfl (dsync_spec d s1 nA s1_inv) ((by repeat ((exact .refl)))) rfl (fun v M N h hN => ?_); obtain ⟨rfl, rfl⟩ := h; (try simp only [List.nil_append, List.cons_append, List.append_assoc] at hN); subst hN)
  rw [e3]
  repeat' (first | (show J _ _ _ (runS _ _ _ (⟨_, _, _, _, _, none⟩ :: _)); first | (show J _ _ _ (runS _ _ _ (⟨_, .move _, _, _, _, _⟩ :: _)); refine j_move rfl rfl ?_) | (show J _ _ _ (runS _ _ _ (⟨_, .assign _, _, _, _, _⟩ :: _)); refine j_assign rfl rfl ?_)) | refine j_nil ?_ | (show J _ _ _ (Code.wp _ _ _); first | refine j_seq ?_ | refine j_region ?_) | refine j_then ?_)
  refine j_lits (α := UInt8) rfl [_, _, _, _] [103, 104, 105, 106] ⟨rfl, rfl, rfl, rfl, rfl, rfl, rfl, rfl, trivial⟩ rfl rfl (by decide) (by decide) rfl (fun b0 => ?_)
  refine j_ro (by simp) ?_
  refine j_convMark (α := UInt8) (ls := [103, 104, 105, 106]) rfl .z rfl ?_
  (refine j_call rfl rfl (dappend_spec d s2 nA (some ⟨b0, 0, none⟩) 4 [103, 104, 105, 106] [Ro 5 b0 ([103, 104, 105, 106] : List UInt8)] (sees_ro .z) s2_inv (by decide)) ((by repeat (first | exact .refl | apply Pk.cons | constructor))) rfl (fun v M N h hN => ?_); obtain ⟨rfl, rfl⟩ := h; (try simp only [List.nil_append, List.cons_append, List.append_assoc] at hN); subst hN)
  rw [e4]
  repeat' (first | (show J _ _ _ (runS _ _ _ (⟨_, _, _, _, _, none⟩ :: _)); first | (show J _ _ _ (runS _ _ _ (⟨_, .move _, _, _, _, _⟩ :: _)); refine j_move rfl rfl ?_) | (show J _ _ _ (runS _ _ _ (⟨_, .assign _, _, _, _, _⟩ :: _)); refine j_assign rfl rfl ?_) | (show J _ _ _ (runS _ _ _ (⟨_, .build _ _, _, _, _, _⟩ :: _)); refine j_build rfl (by repeat constructor) rfl ?_)) | refine j_nil ?_ | (show J _ _ _ (Code.wp _ _ _); first | refine j_seq ?_ | refine j_region ?_) | refine j_then ?_)
  refine j_lits (α := LeftS) rfl [_] [⟨1, true⟩] ⟨rfl, rfl, trivial⟩ rfl rfl (by decide) (by decide) rfl (fun b1 => ?_)
  (refine j_call rfl rfl (dcrash_spec d s3 (some ⟨b1, 0, none⟩) 1 [⟨1, true⟩] [Sl 62 (some ⟨b1, 0, none⟩) 1 [(⟨1, true⟩ : LeftS)]] sees_sl s3_inv) ((by repeat (first | exact .refl | apply Pk.cons | constructor))) rfl (fun v M N h hN => ?_); obtain ⟨rfl, rfl⟩ := h; (try simp only [List.nil_append, List.cons_append, List.append_assoc] at hN); subst hN)
  rw [e5]
  repeat' (first | (show J _ _ _ (runS _ _ _ (⟨_, _, _, _, _, none⟩ :: _)); (show J _ _ _ (runS _ _ _ (⟨_, .move _, _, _, _, _⟩ :: _)); refine j_move rfl rfl ?_)) | refine j_nil ?_ | (show J _ _ _ (Code.wp _ _ _); first | refine j_seq ?_ | refine j_region ?_) | refine j_then ?_)
  (refine j_call rfl rfl (dread_spec d s4 nA (by decide)) ((by repeat ((exact .refl)))) rfl (fun v M N h hN => ?_); obtain ⟨a', c', rfl, rfl⟩ := h; (try simp only [List.nil_append, List.cons_append, List.append_assoc] at hN); subst hN)
  rw [show readB s4 nA = [97, 98, 99, 100, 101, 102, 103, 0, 0, 0] from by decide, show readE s4 nA = 0 from by decide]
  refine j_sl_none (α := UInt8) (ls := [97, 98, 99, 100, 101, 102, 103, 0, 0, 0]) (by repeat constructor) (fun hnn => ?_)
  repeat' (first | (show J _ _ _ (runS _ _ _ (⟨_, _, _, _, _, none⟩ :: _)); first | (show J _ _ _ (runS _ _ _ (⟨_, .move _, _, _, _, _⟩ :: _)); refine j_move rfl rfl ?_) | (show J _ _ _ (runS _ _ _ (⟨_, .binOp _ _ _ _ _, _, _, _, _⟩ :: _)); ((refine j_bin rfl rfl rfl rfl ?_))) | (show J _ _ _ (runS _ _ _ (⟨_, .assign _, _, _, _, _⟩ :: _)); refine j_assign rfl rfl ?_) | (show J _ _ _ (runS _ _ _ (⟨_, .pick _ _ _, _, _, _, _⟩ :: _)); ((refine j_pick_t rfl rfl rfl ?_))) | (show J _ _ _ (runS _ _ _ (⟨_, .extract _ _, _, _, _, _⟩ :: _)); refine j_extract rfl rfl rfl ?_)) | refine j_nil ?_ | (show J _ _ _ (runS _ _ _ (⟨_, _, _, _, _, some _⟩ :: _)); (refine j_gyes rfl rfl rfl ?_)) | (show J _ _ _ (Code.wp _ _ _); first | refine j_seq ?_ | refine j_region ?_) | refine j_then ?_)
  refine j_bytesU (ls := [97, 98, 99, 100, 101, 102, 103, 0, 0, 0]) (M := [Sl 5 a' c' ([97, 98, 99, 100, 101, 102, 103, 0, 0, 0] : List UInt8)]) rfl (by repeat ((exact .refl))) sees_sl rfl hnn rfl ?_
  repeat' (first | (show J _ _ _ (runS _ _ _ (⟨_, _, _, _, _, none⟩ :: _)); first | (show J _ _ _ (runS _ _ _ (⟨_, .move _, _, _, _, _⟩ :: _)); refine j_move rfl rfl ?_) | (show J _ _ _ (runS _ _ _ (⟨_, .binOp _ _ _ _ _, _, _, _, _⟩ :: _)); (first | refine j_bin rfl rfl rfl rfl ?_ | refine j_eqstr rfl rfl rfl ?_)) | (show J _ _ _ (runS _ _ _ (⟨_, .pick _ _ _, _, _, _, _⟩ :: _)); ((refine j_pick_t rfl rfl rfl ?_)))) | (show J _ _ _ (runS _ _ _ (⟨_, _, _, _, _, some _⟩ :: _)); (refine j_gyes rfl rfl rfl ?_)))
  (refine j_call rfl rfl (dsure_spec d s4 nA) ((by repeat (first | exact .refl | apply Pk.cons | constructor))) rfl (fun v M N h hN => ?_); obtain ⟨rfl, rfl⟩ := h; (try simp only [List.nil_append, List.cons_append, List.append_assoc] at hN); subst hN)
  rw [show sureN s4 nA = 10 from by decide]
  repeat' (first | (show J _ _ _ (runS _ _ _ (⟨_, _, _, _, _, none⟩ :: _)); first | (show J _ _ _ (runS _ _ _ (⟨_, .move _, _, _, _, _⟩ :: _)); refine j_move rfl rfl ?_) | (show J _ _ _ (runS _ _ _ (⟨_, .binOp _ _ _ _ _, _, _, _, _⟩ :: _)); ((refine j_bin rfl rfl rfl rfl ?_))) | (show J _ _ _ (runS _ _ _ (⟨_, .pick _ _ _, _, _, _, _⟩ :: _)); ((refine j_pick_t rfl rfl rfl ?_)))) | (show J _ _ _ (runS _ _ _ (⟨_, _, _, _, _, some _⟩ :: _)); (refine j_gyes rfl rfl rfl ?_)))
  (refine j_call rfl rfl (dused_spec d s4 (by decide)) ((by repeat ((exact .refl)))) rfl (fun v M N h hN => ?_); obtain ⟨rfl, rfl⟩ := h; (try simp only [List.nil_append, List.cons_append, List.append_assoc] at hN); subst hN)
  repeat' (first | (show J _ _ _ (runS _ _ _ (⟨_, _, _, _, _, none⟩ :: _)); first | (show J _ _ _ (runS _ _ _ (⟨_, .move _, _, _, _, _⟩ :: _)); refine j_move rfl rfl ?_) | (show J _ _ _ (runS _ _ _ (⟨_, .binOp _ _ _ _ _, _, _, _, _⟩ :: _)); ((refine j_bin rfl rfl rfl rfl ?_))) | (show J _ _ _ (runS _ _ _ (⟨_, .pick _ _ _, _, _, _, _⟩ :: _)); ((refine j_pick_t rfl rfl rfl ?_)))) | (show J _ _ _ (runS _ _ _ (⟨_, _, _, _, _, some _⟩ :: _)); (refine j_gyes rfl rfl rfl ?_)))
  (refine j_call rfl rfl (dfiles_spec d s4 (by decide)) ((by repeat ((exact .refl)))) rfl (fun v M N h hN => ?_); obtain ⟨a2', c2', rfl, rfl⟩ := h; (try simp only [List.nil_append, List.cons_append, List.append_assoc] at hN); subst hN)
  rw [f4]
  repeat' (first | (show J _ _ _ (runS _ _ _ (⟨_, _, _, _, _, none⟩ :: _)); first | (show J _ _ _ (runS _ _ _ (⟨_, .move _, _, _, _, _⟩ :: _)); refine j_move rfl rfl ?_) | (show J _ _ _ (runS _ _ _ (⟨_, .binOp _ _ _ _ _, _, _, _, _⟩ :: _)); ((refine j_bin rfl rfl rfl rfl ?_))) | (show J _ _ _ (runS _ _ _ (⟨_, .pick _ _ _, _, _, _, _⟩ :: _)); ((refine j_pick_t rfl rfl rfl ?_))) | (show J _ _ _ (runS _ _ _ (⟨_, .call ⟨.builtin .len, _, _⟩, _, _, _, _⟩ :: _)); ((refine j_len rfl rfl ?_)))) | (show J _ _ _ (runS _ _ _ (⟨_, _, _, _, _, some _⟩ :: _)); (refine j_gyes rfl rfl rfl ?_)))
  (refine j_call rfl rfl (ddown_spec d s4) ((by repeat (first | exact .refl | apply Pk.cons | constructor))) rfl (fun v M N h hN => ?_); obtain ⟨rfl, rfl⟩ := h; (try simp only [List.nil_append, List.cons_append, List.append_assoc] at hN); subst hN)
  repeat' (first | (show J _ _ _ (runS _ _ _ (⟨_, _, _, _, _, none⟩ :: _)); first | (show J _ _ _ (runS _ _ _ (⟨_, .assign _, _, _, _, _⟩ :: _)); refine j_assign rfl rfl ?_) | (show J _ _ _ (runS _ _ _ (⟨_, .pick _ _ _, _, _, _, _⟩ :: _)); ((refine j_pick_t rfl rfl rfl ?_))) | (show J _ _ _ (runS _ _ _ (⟨_, .unOp _ _ _, _, _, _, _⟩ :: _)); ((refine j_not_b rfl rfl ?_)))) | refine j_nil ?_ | (show J _ _ _ (runS _ _ _ (⟨_, _, _, _, _, some _⟩ :: _)); (refine j_gyes rfl rfl rfl ?_)) | (show J _ _ _ (Code.wp _ _ _); (refine j_ret ?_)) | refine j_then ?_)
  exact j_ret1 (M := []) rfl rfl (by repeat (first | exact .refl | refine .drop ?_)) ⟨rfl, rfl⟩

end Go.Proofs.Ytjneocpbpnbopaa
