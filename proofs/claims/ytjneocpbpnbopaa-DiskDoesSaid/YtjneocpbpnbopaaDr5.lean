/- The document's disk: Drop, Move, Cut. -/
import Derived.Test.YtjneocpbpnbopaaDr4
set_option linter.unusedVariables false
set_option linter.unusedSimpArgs false
set_option maxRecDepth 100000
namespace Go.Proofs.Ytjneocpbpnbopaa
open Go
attribute [local irreducible] Exit.then Exit.inBlock Code.wp runS bodyPost postF J runT cutQ cutR Tr Sat blk Sl Old Star Ex Pu
attribute [local irreducible] MapA MapB IterA IterS All
attribute [local irreducible] cutK plApp

theorem filt_erase {fs : List RF} {s : DS} (hI : DInv s) (hf : fs.map kvR = refL s) {i : Nat} {f : RF} {k : ByteArray} (hfi : fs[i]? = some f) (hn : f.n = k) : fs.filter (othN k) = fs.eraseIdx i := by
  have hnd : (fs.map RF.n).Nodup := by rw [kv_names hf]; exact files_nodup hI
  clear hf
  induction fs generalizing i with
  | nil => simp at hfi
  | cons g l ih =>
    rw [List.map_cons, List.nodup_cons] at hnd
    match i with
    | 0 =>
      simp at hfi
      subst hfi
      rw [List.filter_cons, if_neg (by simp [othN, hn]), List.eraseIdx_zero, List.tail_cons, List.filter_eq_self]
      intro q hq
      have : q.n ≠ k := fun e => hnd.1 (by rw [hn, ← e]; exact List.mem_map_of_mem hq)
      simp [othN, this]
    | i + 1 =>
      rw [List.getElem?_cons_succ] at hfi
      have hg : g.n ≠ k := fun e => hnd.1 (by rw [e, ← hn]; exact List.mem_map_of_mem (List.mem_of_getElem? hfi))
      rw [List.filter_cons, if_pos (by simp [othN, hg]), List.eraseIdx_cons_succ, ih hfi hnd.2]
theorem kv_filter (fs : List RF) (k : ByteArray) : (fs.filter (othN k)).map kvR = (fs.map kvR).filter fun e => decide (e.1 ≠ k) := by
  rw [List.filter_map]; rfl
theorem all_filt (p : RF → Bool) : ∀ (l : List RF) (pre : List HP) (w : World) (S : Nat → Prop), All (pre ++ l.map pcR) w S → All (pre ++ (l.filter p).map pcR) w S
  | [], _, _, _, h => h
  | g :: l, pre, w, S, h => by
    rw [List.filter_cons]
    split
    · have := all_filt p l (pre ++ [pcR g]) w S (by rw [List.append_assoc]; exact h)
      rw [List.append_assoc] at this
      exact this
    · have h1 := all_erase (Ls := pre ++ (g :: l).map pcR) (i := pre.length) (by simp) w S h
      rw [List.eraseIdx_append_of_length_le (Nat.le_refl _), Nat.sub_self, List.map_cons, List.eraseIdx_zero, List.tail_cons] at h1
      exact all_filt p l pre w S h1
theorem j_filt {n : Nat} {fm : Fm} {L : List HP} {X : Go.Act → World → Prop} (p : RF → Bool) {fs : List RF} (h : J n fm (All ((fs.filter p).map pcR) :: L) X) : J n fm (All (fs.map pcR) :: L) X :=
  j_imp (fun w S hS => by simpa using all_filt p fs [] w S (by simpa using hS)) h

theorem rdropS_spec (d : Nat) (s : DS) (k : ByteArray) (hI : DInv s) (hk : k.size ≤ 9223372036854775807) : Tr Try.prog 37 [.pointer (some ⟨d, 0, none⟩), .string k] [RefA d s] (fun v M => v = .int .i64 (dropN s k).1 ∧ M = [RefA d (dropN s k).2]) := by
  refine tr_enter Try.func37 rfl Try.ntmps37 rfl (fun F => ?_)
  refine j_ref (fun fs a c hf => ?_)
  have hl := kv_len hI hf
  repeat' (first | (show J _ _ _ (runS _ _ _ (⟨_, _, _, _, _, none⟩ :: _)); first | (show J _ _ _ (runS _ _ _ (⟨_, .move _, _, _, _, _⟩ :: _)); refine j_move rfl rfl ?_) | (show J _ _ _ (runS _ _ _ (⟨_, .assign _, _, _, _, _⟩ :: _)); refine j_assign rfl rfl ?_)) | refine j_nil ?_ | (show J _ _ _ (Code.wp _ _ _); first | refine j_seq ?_ | refine j_region ?_) | refine j_then ?_)
  (refine j_call rfl rfl (rbarred_spec d (.slice a fs.length c) s.room s.arm s.down k k hk hk) ((by repeat ((exact .refl)))) rfl (fun v M N h hN => ?_); obtain ⟨rfl, rfl⟩ := h; (try simp only [List.nil_append, List.cons_append, List.append_assoc] at hN); subst hN)
  rw [bar_one]
  rcases ready_cases s [k] with hr | hr | ⟨hr, hdn⟩
  · have hS : dropN s k = (41, s) := by unfold dropN; rw [known_bad hr (by decide), if_pos (by decide)]
    rw [hr, hS]
    repeat' (first | (show J _ _ _ (runS _ _ _ (⟨_, _, _, _, _, none⟩ :: _)); first | (show J _ _ _ (runS _ _ _ (⟨_, .move _, _, _, _, _⟩ :: _)); refine j_move rfl rfl ?_) | (show J _ _ _ (runS _ _ _ (⟨_, .binOp _ _ _ _ _, _, _, _, _⟩ :: _)); ((refine j_bin rfl rfl rfl rfl ?_))) | (show J _ _ _ (runS _ _ _ (⟨_, .assign _, _, _, _, _⟩ :: _)); refine j_assign rfl rfl ?_) | (show J _ _ _ (runS _ _ _ (⟨_, .pick _ _ _, _, _, _, _⟩ :: _)); ((refine j_pick_f rfl rfl rfl ?_)))) | refine j_nil ?_ | (show J _ _ _ (runS _ _ _ (⟨_, _, _, _, _, some _⟩ :: _)); (refine j_gno_u rfl rfl rfl rfl ?_)) | (show J _ _ _ (Code.wp _ _ _); first | refine j_seq ?_ | refine j_region ?_ | (show J _ _ _ (Code.wp _ (.cond _ _ _) _); (refine j_false rfl ?_)) | refine j_ret ?_ | refine j_skip ?_) | refine j_then ?_)
    (refine j_tk (A := All _) (by repeat constructor) (j_tk (A := Sl 76 _ _ _) (by repeat constructor) (j_tk (A := blk d _ _) (by repeat constructor) (j_unref (s := s) hf rfl rfl rfl rfl ?_))))
    exact j_ret1 (M := [RefA d s]) rfl rfl (by repeat ((exact .refl))) ⟨rfl, rfl⟩
  · have hS : dropN s k = (5, s) := by unfold dropN; rw [known_bad hr (by decide), if_pos (by decide)]
    rw [hr, hS]
    repeat' (first | (show J _ _ _ (runS _ _ _ (⟨_, _, _, _, _, none⟩ :: _)); first | (show J _ _ _ (runS _ _ _ (⟨_, .move _, _, _, _, _⟩ :: _)); refine j_move rfl rfl ?_) | (show J _ _ _ (runS _ _ _ (⟨_, .binOp _ _ _ _ _, _, _, _, _⟩ :: _)); ((refine j_bin rfl rfl rfl rfl ?_))) | (show J _ _ _ (runS _ _ _ (⟨_, .assign _, _, _, _, _⟩ :: _)); refine j_assign rfl rfl ?_) | (show J _ _ _ (runS _ _ _ (⟨_, .pick _ _ _, _, _, _, _⟩ :: _)); ((refine j_pick_f rfl rfl rfl ?_)))) | refine j_nil ?_ | (show J _ _ _ (runS _ _ _ (⟨_, _, _, _, _, some _⟩ :: _)); (refine j_gno_u rfl rfl rfl rfl ?_)) | (show J _ _ _ (Code.wp _ _ _); first | refine j_seq ?_ | refine j_region ?_ | (show J _ _ _ (Code.wp _ (.cond _ _ _) _); (refine j_false rfl ?_)) | refine j_ret ?_ | refine j_skip ?_) | refine j_then ?_)
    (refine j_tk (A := All _) (by repeat constructor) (j_tk (A := Sl 76 _ _ _) (by repeat constructor) (j_tk (A := blk d _ _) (by repeat constructor) (j_unref (s := s) hf rfl rfl rfl rfl ?_))))
    exact j_ret1 (M := [RefA d s]) rfl rfl (by repeat ((exact .refl))) ⟨rfl, rfl⟩
  rw [hr]
  repeat' (first | (show J _ _ _ (runS _ _ _ (⟨_, _, _, _, _, none⟩ :: _)); first | (show J _ _ _ (runS _ _ _ (⟨_, .move _, _, _, _, _⟩ :: _)); refine j_move rfl rfl ?_) | (show J _ _ _ (runS _ _ _ (⟨_, .binOp _ _ _ _ _, _, _, _, _⟩ :: _)); ((refine j_bin rfl rfl rfl rfl ?_))) | (show J _ _ _ (runS _ _ _ (⟨_, .assign _, _, _, _, _⟩ :: _)); refine j_assign rfl rfl ?_)) | refine j_nil ?_ | (show J _ _ _ (runS _ _ _ (⟨_, _, _, _, _, some _⟩ :: _)); (refine j_gyes rfl rfl rfl ?_)) | (show J _ _ _ (Code.wp _ _ _); first | refine j_seq ?_ | refine j_region ?_) | refine j_then ?_)
  (refine j_call rfl rfl (rfind_spec d fs a c s.room s.arm s.down k (by omega)) ((by repeat ((exact .refl)))) rfl (fun v M N h hN => ?_); obtain ⟨rfl, rfl⟩ := h; (try simp only [List.nil_append, List.cons_append, List.append_assoc] at hN); subst hN)
  cases hg : getM s.fs k with
  | none =>
    have hS : dropN s k = (10, s) := by unfold dropN; rw [known_none hr hg, if_pos (by decide)]
    rw [ridx_none hf hg, hS]
    repeat' (first | (show J _ _ _ (runS _ _ _ (⟨_, _, _, _, _, none⟩ :: _)); first | (show J _ _ _ (runS _ _ _ (⟨_, .move _, _, _, _, _⟩ :: _)); refine j_move rfl rfl ?_) | (show J _ _ _ (runS _ _ _ (⟨_, .binOp _ _ _ _ _, _, _, _, _⟩ :: _)); ((refine j_bin rfl rfl rfl rfl ?_))) | (show J _ _ _ (runS _ _ _ (⟨_, .assign _, _, _, _, _⟩ :: _)); refine j_assign rfl rfl ?_) | (show J _ _ _ (runS _ _ _ (⟨_, .pick _ _ _, _, _, _, _⟩ :: _)); (first | refine j_pick_t rfl rfl rfl ?_ | refine j_pick_f rfl rfl rfl ?_))) | refine j_nil ?_ | (show J _ _ _ (runS _ _ _ (⟨_, _, _, _, _, some _⟩ :: _)); first | refine j_gno_u rfl rfl rfl rfl ?_ | refine j_gyes rfl rfl rfl ?_) | (show J _ _ _ (Code.wp _ _ _); first | refine j_seq ?_ | refine j_region ?_ | (show J _ _ _ (Code.wp _ (.cond _ _ _) _); first | refine j_true rfl ?_ | refine j_false rfl ?_) | refine j_ret ?_ | refine j_skip ?_) | refine j_then ?_)
    (refine j_tk (A := All _) (by repeat constructor) (j_tk (A := Sl 76 _ _ _) (by repeat constructor) (j_tk (A := blk d _ _) (by repeat constructor) (j_unref (s := s) hf rfl rfl rfl rfl ?_))))
    exact j_ret1 (M := [RefA d s]) rfl rfl (by repeat ((exact .refl))) ⟨rfl, rfl⟩
  | some g =>
    obtain ⟨i, f, hi, hix, hfi, hfn, hfb, hfs, hri⟩ := ridx_some hI hf hg
    rw [hix]
    repeat' (first | (show J _ _ _ (runS _ _ _ (⟨_, _, _, _, _, none⟩ :: _)); first | (show J _ _ _ (runS _ _ _ (⟨_, .move _, _, _, _, _⟩ :: _)); refine j_move rfl rfl ?_) | (show J _ _ _ (runS _ _ _ (⟨_, .binOp _ _ _ _ _, _, _, _, _⟩ :: _)); ((refine j_bin rfl rfl rfl rfl ?_))) | (show J _ _ _ (runS _ _ _ (⟨_, .pick _ _ _, _, _, _, _⟩ :: _)); ((refine j_pick_t rfl rfl rfl ?_)))) | refine j_nil ?_ | (show J _ _ _ (runS _ _ _ (⟨_, _, _, _, _, some _⟩ :: _)); (refine j_gyes rfl rfl rfl ?_)) | (show J _ _ _ (Code.wp _ _ _); first | refine j_seq ?_ | refine j_region ?_ | (show J _ _ _ (Code.wp _ (.cond _ _ _) _); (refine j_false rfl ?_)) | refine j_skip ?_) | refine j_then ?_)
    (refine j_call rfl rfl (rfails_spec d (.slice a fs.length c) s hdn hI.arm) ((by repeat ((exact .refl)))) rfl (fun v M N h hN => ?_); obtain ⟨rfl, rfl⟩ := h; (try simp only [List.nil_append, List.cons_append, List.append_assoc] at hN); subst hN)
    repeat' (first | (show J _ _ _ (runS _ _ _ (⟨_, _, _, _, _, none⟩ :: _)); first | (show J _ _ _ (runS _ _ _ (⟨_, .move _, _, _, _, _⟩ :: _)); refine j_move rfl rfl ?_) | (show J _ _ _ (runS _ _ _ (⟨_, .binOp _ _ _ _ _, _, _, _, _⟩ :: _)); ((refine j_bin rfl rfl rfl rfl ?_))) | (show J _ _ _ (runS _ _ _ (⟨_, .assign _, _, _, _, _⟩ :: _)); refine j_assign rfl rfl ?_) | (show J _ _ _ (runS _ _ _ (⟨_, .pick _ _ _, _, _, _, _⟩ :: _)); ((refine j_pick_t rfl rfl rfl ?_)))) | refine j_nil ?_ | (show J _ _ _ (Code.wp _ _ _); first | refine j_seq ?_ | refine j_region ?_ | (show J _ _ _ (Code.wp _ (.cond _ _ _) _); first | refine j_true rfl ?_ | refine j_false rfl ?_ | refine j_dec rfl (fun h => ?_) (fun h => ?_)) | refine j_ret ?_ | refine j_skip ?_) | refine j_then ?_)
    · have hS : dropN s k = (41, failS s) := by unfold dropN; rw [known_some hr hg, if_neg (by decide), if_pos h]
      rw [hS]
      (refine j_tk (A := All _) (by repeat constructor) (j_tk (A := Sl 76 _ _ _) (by repeat constructor) (j_tk (A := blk d _ _) (by repeat constructor) (j_unref (s := failS s) (show fs.map kvR = refL (failS s) from hf) rfl rfl rfl rfl ?_))))
      exact j_ret1 (M := [RefA d (failS s)]) rfl rfl (by repeat ((exact .refl))) ⟨rfl, rfl⟩
    have hS : dropN s k = (0, withFs (failS s) (delM s.fs k)) := by unfold dropN; rw [known_some hr hg, if_neg (by decide), if_neg h]
    rw [hS]
    (refine j_call rfl rfl (rdrop_spec d fs a c (failS s).room (failS s).arm (failS s).down k (by omega)) ((by repeat ((exact .refl)))) rfl (fun v M N h hN => ?_); obtain ⟨a2, c2, fs2, rfl, hfs2, rfl⟩ := h; (try simp only [List.nil_append, List.cons_append, List.append_assoc] at hN); subst hN)
    repeat' (first | (show J _ _ _ (runS _ _ _ (⟨_, _, _, _, _, none⟩ :: _)); first | (show J _ _ _ (runS _ _ _ (⟨_, .move _, _, _, _, _⟩ :: _)); refine j_move rfl rfl ?_) | (show J _ _ _ (runS _ _ _ (⟨_, .assign _, _, _, _, _⟩ :: _)); refine j_assign rfl rfl ?_)) | refine j_nil ?_ | (show J _ _ _ (Code.wp _ _ _); first | refine j_seq ?_ | refine j_region ?_ | refine j_ret ?_) | refine j_then ?_)
    refine j_tk (A := All _) (by repeat constructor) (j_filt (othN k) ?_)
    rw [← hfs2]
    have hkv : fs2.map kvR = refL (withFs (failS s) (delM s.fs k)) := by rw [hfs2, kv_filter, hf]; exact (refL_del s k).symm
    (refine j_tk (A := All _) (by repeat constructor) (j_tk (A := Sl 76 _ _ _) (by repeat constructor) (j_tk (A := blk d _ _) (by repeat constructor) (j_unref (s := withFs (failS s) (delM s.fs k)) hkv rfl rfl rfl rfl ?_))))
    exact j_ret1 (M := [RefA d _]) rfl rfl (by repeat ((exact .refl))) ⟨rfl, rfl⟩

theorem rmove_spec (d : Nat) (s : DS) (k t : ByteArray) (hI : DInv s) (hk : k.size ≤ 9223372036854775807) (ht : t.size ≤ 9223372036854775807) : Tr Try.prog 36 [.pointer (some ⟨d, 0, none⟩), .string k, .string t] [RefA d s] (fun v M => v = .int .i64 (moveN s k t).1 ∧ M = [RefA d (moveN s k t).2]) := by
  refine tr_enter Try.func36 rfl Try.ntmps36 rfl (fun F => ?_)
  refine j_ref (fun fs a c hf => ?_)
  have hl := kv_len hI hf
  repeat' (first | (show J _ _ _ (runS _ _ _ (⟨_, _, _, _, _, none⟩ :: _)); first | (show J _ _ _ (runS _ _ _ (⟨_, .move _, _, _, _, _⟩ :: _)); refine j_move rfl rfl ?_) | (show J _ _ _ (runS _ _ _ (⟨_, .assign _, _, _, _, _⟩ :: _)); refine j_assign rfl rfl ?_)) | refine j_nil ?_ | (show J _ _ _ (Code.wp _ _ _); first | refine j_seq ?_ | refine j_region ?_) | refine j_then ?_)
  (refine j_call rfl rfl (rbarred_spec d (.slice a fs.length c) s.room s.arm s.down k t hk ht) ((by repeat ((exact .refl)))) rfl (fun v M N h hN => ?_); obtain ⟨rfl, rfl⟩ := h; (try simp only [List.nil_append, List.cons_append, List.append_assoc] at hN); subst hN)
  rw [bar_two]
  repeat' (first | (show J _ _ _ (runS _ _ _ (⟨_, _, _, _, _, none⟩ :: _)); first | (show J _ _ _ (runS _ _ _ (⟨_, .move _, _, _, _, _⟩ :: _)); refine j_move rfl rfl ?_) | (show J _ _ _ (runS _ _ _ (⟨_, .assign _, _, _, _, _⟩ :: _)); refine j_assign rfl rfl ?_)) | refine j_nil ?_ | (show J _ _ _ (Code.wp _ _ _); first | refine j_seq ?_ | refine j_region ?_) | refine j_then ?_)
  (refine j_call rfl rfl (rfind_spec d fs a c s.room s.arm s.down k (by omega)) ((by repeat ((exact .refl)))) rfl (fun v M N h hN => ?_); obtain ⟨rfl, rfl⟩ := h; (try simp only [List.nil_append, List.cons_append, List.append_assoc] at hN); subst hN)
  rcases ready_cases s [k, t] with hr | hr | ⟨hr, hdn⟩
  · have hS : moveN s k t = (41, s) := by unfold moveN; rw [known_bad hr (by decide), if_pos (by decide)]
    rw [hr, hS]
    repeat' (first | (show J _ _ _ (runS _ _ _ (⟨_, _, _, _, _, none⟩ :: _)); first | (show J _ _ _ (runS _ _ _ (⟨_, .move _, _, _, _, _⟩ :: _)); refine j_move rfl rfl ?_) | (show J _ _ _ (runS _ _ _ (⟨_, .binOp _ _ _ _ _, _, _, _, _⟩ :: _)); ((refine j_bin rfl rfl rfl rfl ?_))) | (show J _ _ _ (runS _ _ _ (⟨_, .assign _, _, _, _, _⟩ :: _)); refine j_assign rfl rfl ?_) | (show J _ _ _ (runS _ _ _ (⟨_, .pick _ _ _, _, _, _, _⟩ :: _)); ((refine j_pick_f rfl rfl rfl ?_)))) | refine j_nil ?_ | (show J _ _ _ (runS _ _ _ (⟨_, _, _, _, _, some _⟩ :: _)); (refine j_gno_u rfl rfl rfl rfl ?_)) | (show J _ _ _ (Code.wp _ _ _); first | refine j_seq ?_ | refine j_region ?_ | (show J _ _ _ (Code.wp _ (.cond _ _ _) _); (refine j_false rfl ?_)) | refine j_ret ?_ | refine j_skip ?_) | refine j_then ?_)
    (refine j_tk (A := All _) (by repeat constructor) (j_tk (A := Sl 76 _ _ _) (by repeat constructor) (j_tk (A := blk d _ _) (by repeat constructor) (j_unref (s := s) hf rfl rfl rfl rfl ?_))))
    exact j_ret1 (M := [RefA d s]) rfl rfl (by repeat ((exact .refl))) ⟨rfl, rfl⟩
  · have hS : moveN s k t = (5, s) := by unfold moveN; rw [known_bad hr (by decide), if_pos (by decide)]
    rw [hr, hS]
    repeat' (first | (show J _ _ _ (runS _ _ _ (⟨_, _, _, _, _, none⟩ :: _)); first | (show J _ _ _ (runS _ _ _ (⟨_, .move _, _, _, _, _⟩ :: _)); refine j_move rfl rfl ?_) | (show J _ _ _ (runS _ _ _ (⟨_, .binOp _ _ _ _ _, _, _, _, _⟩ :: _)); ((refine j_bin rfl rfl rfl rfl ?_))) | (show J _ _ _ (runS _ _ _ (⟨_, .assign _, _, _, _, _⟩ :: _)); refine j_assign rfl rfl ?_) | (show J _ _ _ (runS _ _ _ (⟨_, .pick _ _ _, _, _, _, _⟩ :: _)); ((refine j_pick_f rfl rfl rfl ?_)))) | refine j_nil ?_ | (show J _ _ _ (runS _ _ _ (⟨_, _, _, _, _, some _⟩ :: _)); (refine j_gno_u rfl rfl rfl rfl ?_)) | (show J _ _ _ (Code.wp _ _ _); first | refine j_seq ?_ | refine j_region ?_ | (show J _ _ _ (Code.wp _ (.cond _ _ _) _); (refine j_false rfl ?_)) | refine j_ret ?_ | refine j_skip ?_) | refine j_then ?_)
    (refine j_tk (A := All _) (by repeat constructor) (j_tk (A := Sl 76 _ _ _) (by repeat constructor) (j_tk (A := blk d _ _) (by repeat constructor) (j_unref (s := s) hf rfl rfl rfl rfl ?_))))
    exact j_ret1 (M := [RefA d s]) rfl rfl (by repeat ((exact .refl))) ⟨rfl, rfl⟩
  rw [hr]
  cases hg : getM s.fs k with
  | none =>
    have hS : moveN s k t = (10, s) := by unfold moveN; rw [known_none hr hg, if_pos (by decide)]
    rw [ridx_none hf hg, hS]
    repeat' (first | (show J _ _ _ (runS _ _ _ (⟨_, _, _, _, _, none⟩ :: _)); first | (show J _ _ _ (runS _ _ _ (⟨_, .move _, _, _, _, _⟩ :: _)); refine j_move rfl rfl ?_) | (show J _ _ _ (runS _ _ _ (⟨_, .binOp _ _ _ _ _, _, _, _, _⟩ :: _)); ((refine j_bin rfl rfl rfl rfl ?_))) | (show J _ _ _ (runS _ _ _ (⟨_, .assign _, _, _, _, _⟩ :: _)); refine j_assign rfl rfl ?_) | (show J _ _ _ (runS _ _ _ (⟨_, .pick _ _ _, _, _, _, _⟩ :: _)); (first | refine j_pick_t rfl rfl rfl ?_ | refine j_pick_f rfl rfl rfl ?_))) | refine j_nil ?_ | (show J _ _ _ (runS _ _ _ (⟨_, _, _, _, _, some _⟩ :: _)); first | refine j_gno_u rfl rfl rfl rfl ?_ | refine j_gyes rfl rfl rfl ?_) | (show J _ _ _ (Code.wp _ _ _); first | refine j_seq ?_ | refine j_region ?_ | (show J _ _ _ (Code.wp _ (.cond _ _ _) _); first | refine j_true rfl ?_ | refine j_false rfl ?_) | refine j_ret ?_ | refine j_skip ?_) | refine j_then ?_)
    (refine j_tk (A := All _) (by repeat constructor) (j_tk (A := Sl 76 _ _ _) (by repeat constructor) (j_tk (A := blk d _ _) (by repeat constructor) (j_unref (s := s) hf rfl rfl rfl rfl ?_))))
    exact j_ret1 (M := [RefA d s]) rfl rfl (by repeat ((exact .refl))) ⟨rfl, rfl⟩
  | some g =>
    obtain ⟨i, f, hi, hix, hfi, hfn, hfb, hfs, hri⟩ := ridx_some hI hf hg
    have hfo : fileOf s k = g := by unfold fileOf; rw [hg]; rfl
    rw [hix]
    (refine j_sl_some (α := RF) (ls := fs) (by repeat constructor) (by omega) (fun bf hbf => ?_); subst hbf)
    repeat' (first | (show J _ _ _ (runS _ _ _ (⟨_, _, _, _, _, none⟩ :: _)); first | (show J _ _ _ (runS _ _ _ (⟨_, .move _, _, _, _, _⟩ :: _)); refine j_move rfl rfl ?_) | (show J _ _ _ (runS _ _ _ (⟨_, .binOp _ _ _ _ _, _, _, _, _⟩ :: _)); ((refine j_bin rfl rfl rfl rfl ?_))) | (show J _ _ _ (runS _ _ _ (⟨_, .assign _, _, _, _, _⟩ :: _)); refine j_assign rfl rfl ?_) | (show J _ _ _ (runS _ _ _ (⟨_, .pick _ _ _, _, _, _, _⟩ :: _)); ((refine j_pick_t rfl rfl rfl ?_)))) | refine j_nil ?_ | (show J _ _ _ (runS _ _ _ (⟨_, _, _, _, _, some _⟩ :: _)); (refine j_gyes rfl rfl rfl ?_)) | (show J _ _ _ (Code.wp _ _ _); first | refine j_seq ?_ | refine j_region ?_ | (show J _ _ _ (Code.wp _ (.cond _ _ _) _); (refine j_false rfl ?_)) | refine j_skip ?_) | refine j_then ?_)
    (refine j_call rfl rfl (rfails_spec d (.slice (some ⟨bf, 0, none⟩) fs.length c) s hdn hI.arm) ((by repeat ((exact .refl)))) rfl (fun v M N h hN => ?_); obtain ⟨rfl, rfl⟩ := h; (try simp only [List.nil_append, List.cons_append, List.append_assoc] at hN); subst hN)
    repeat' (first | (show J _ _ _ (runS _ _ _ (⟨_, _, _, _, _, none⟩ :: _)); first | (show J _ _ _ (runS _ _ _ (⟨_, .move _, _, _, _, _⟩ :: _)); refine j_move rfl rfl ?_) | (show J _ _ _ (runS _ _ _ (⟨_, .load _ _, _, _, _, _⟩ :: _)); ((refine j_load rfl rfl (by repeat constructor) rfl rfl ?_))) | (show J _ _ _ (runS _ _ _ (⟨_, .fieldAddr _ _ _, _, _, _, _⟩ :: _)); refine j_fieldAddr rfl rfl ?_) | (show J _ _ _ (runS _ _ _ (⟨_, .nilCheck _, _, _, _, _⟩ :: _)); ((refine j_nilCheck rfl rfl ?_))) | (show J _ _ _ (runS _ _ _ (⟨_, .binOp _ _ _ _ _, _, _, _, _⟩ :: _)); ((refine j_bin rfl rfl rfl rfl ?_))) | (show J _ _ _ (runS _ _ _ (⟨_, .assign _, _, _, _, _⟩ :: _)); refine j_assign rfl rfl ?_) | (show J _ _ _ (runS _ _ _ (⟨_, .pick _ _ _, _, _, _, _⟩ :: _)); ((refine j_pick_t rfl rfl rfl ?_)))) | refine j_nil ?_ | (show J _ _ _ (Code.wp _ _ _); first | refine j_seq ?_ | refine j_region ?_ | (show J _ _ _ (Code.wp _ (.cond _ _ _) _); first | refine j_true rfl ?_ | refine j_false rfl ?_ | refine j_dec rfl (fun h => ?_) (fun h => ?_)) | refine j_ret ?_ | refine j_skip ?_) | refine j_then ?_)
    · have hS : moveN s k t = (41, failS s) := by unfold moveN; rw [known_some hr hg, if_neg (by decide), if_pos h]
      rw [hS]
      (refine j_tk (A := All _) (by repeat constructor) (j_tk (A := Sl 76 _ _ _) (by repeat constructor) (j_tk (A := blk d _ _) (by repeat constructor) (j_unref (s := failS s) (show fs.map kvR = refL (failS s) from hf) rfl rfl rfl rfl ?_))))
      exact j_ret1 (M := [RefA d (failS s)]) rfl rfl (by repeat ((exact .refl))) ⟨rfl, rfl⟩
    have hS : moveN s k t = (0, withFs (failS s) (putM (delM s.fs k) t g)) := by unfold moveN; rw [known_some hr hg, if_neg (by decide), if_neg h, hfo]
    rw [hS]
    (refine j_idxS (α := RF) (ls := fs) rfl rfl (by repeat constructor) rfl i rfl hi rfl ?_; (repeat' (fail)))
    refine j_loadsv (M := [Sl 76 (some ⟨bf, 0, none⟩) c fs]) [.string f.n, .slice f.a f.b.length f.c, .int .i64 f.s] rfl rfl rfl (by repeat (first | exact .refl | apply Pk.cons | constructor)) (fun w hw q v hq => vw_cell (sees_sl w hw) hfi hq) rfl ?_
    repeat' (first | (show J _ _ _ (runS _ _ _ (⟨_, _, _, _, _, none⟩ :: _)); first | (show J _ _ _ (runS _ _ _ (⟨_, .move _, _, _, _, _⟩ :: _)); refine j_move rfl rfl ?_) | (show J _ _ _ (runS _ _ _ (⟨_, .fieldAddr _ _ _, _, _, _, _⟩ :: _)); refine j_fieldAddr rfl rfl ?_) | (show J _ _ _ (runS _ _ _ (⟨_, .store _ _ _, _, _, _, _⟩ :: _)); (first | refine j_set rfl rfl rfl (by rfl) (by repeat constructor) (by repeat constructor) ?_ | refine j_sets rfl rfl rfl (by rfl) (by repeat constructor) (by repeat constructor) (by rfl) ?_)) | (show J _ _ _ (runS _ _ _ (⟨_, .alloc _, _, _, _, _⟩ :: _)); refine j_alloc rfl (fun b => ?_))) | refine j_nil ?_ | (show J _ _ _ (Code.wp _ _ _); first | refine j_seq ?_ | refine j_region ?_) | refine j_then ?_)
    (refine j_call rfl rfl (rdrop_spec d fs (some ⟨bf, 0, none⟩) c (failS s).room (failS s).arm (failS s).down k (by omega)) ((by repeat (first | exact .refl | apply Pk.cons | constructor))) rfl (fun v M N h hN => ?_); obtain ⟨a2, c2, fs2, rfl, hfs2, rfl⟩ := h; (try simp only [List.nil_append, List.cons_append, List.append_assoc] at hN); subst hN)
    have hl2 : fs2.length ≤ fs.length := by rw [hfs2]; exact List.length_filter_le ..
    repeat' (first | (show J _ _ _ (runS _ _ _ (⟨_, _, _, _, _, none⟩ :: _)); (show J _ _ _ (runS _ _ _ (⟨_, .move _, _, _, _, _⟩ :: _)); refine j_move rfl rfl ?_)) | refine j_nil ?_ | (show J _ _ _ (Code.wp _ _ _); first | refine j_seq ?_ | refine j_region ?_) | refine j_then ?_)
    (refine j_call rfl rfl (rdrop_spec d fs2 a2 c2 (failS s).room (failS s).arm (failS s).down t (by omega)) ((by repeat ((exact .refl)))) rfl (fun v M N h hN => ?_); obtain ⟨a3, c3, fs3, rfl, hfs3, rfl⟩ := h; (try simp only [List.nil_append, List.cons_append, List.append_assoc] at hN); subst hN)
    have hl3 : fs3.length ≤ fs2.length := by rw [hfs3]; exact List.length_filter_le ..
    repeat' (first | (show J _ _ _ (runS _ _ _ (⟨_, _, _, _, _, none⟩ :: _)); first | (show J _ _ _ (runS _ _ _ (⟨_, .move _, _, _, _, _⟩ :: _)); refine j_move rfl rfl ?_) | (show J _ _ _ (runS _ _ _ (⟨_, .load _ _, _, _, _, _⟩ :: _)); ((refine j_loads [_, _, _] rfl rfl rfl (by repeat constructor) ⟨rfl, rfl, rfl, trivial⟩ rfl ?_)))) | refine j_nil ?_ | (show J _ _ _ (Code.wp _ _ _); (refine j_region ?_)) | refine j_then ?_)
    (refine j_call rfl rfl (rput_spec d fs3 a3 c3 (failS s).room (failS s).arm (failS s).down ⟨t, f.a, f.c, f.b, f.s⟩ (by omega)) ((by repeat ((exact .refl)))) rfl (fun v M N h hN => ?_); obtain ⟨a4, c4, fs4, rfl, hfs4, rfl⟩ := h; (try simp only [List.nil_append, List.cons_append, List.append_assoc] at hN); subst hN)
    repeat' (first | (show J _ _ _ (runS _ _ _ (⟨_, _, _, _, _, none⟩ :: _)); first | (show J _ _ _ (runS _ _ _ (⟨_, .move _, _, _, _, _⟩ :: _)); refine j_move rfl rfl ?_) | (show J _ _ _ (runS _ _ _ (⟨_, .assign _, _, _, _, _⟩ :: _)); refine j_assign rfl rfl ?_)) | refine j_nil ?_ | (show J _ _ _ (Code.wp _ _ _); first | refine j_seq ?_ | refine j_region ?_ | refine j_ret ?_) | refine j_then ?_)
    refine j_tk (A := All _) (by repeat constructor) (j_focus (A := Sl 5 f.a f.c f.b) (pcR_get hfi) (j_tk (A := All _) (by repeat constructor) (j_erase (i := i) (by simpa using hi) ?_)))
    have e1 : ((fs.map pcR).set i Emp).eraseIdx i = fs2.map pcR := by
      rw [List.eraseIdx_set_eq, ← map_erase, hfs2, filt_erase hI hf hfi hfn]
    rw [e1]
    refine j_filt (othN t) ?_
    rw [← hfs3]
    refine j_tk (A := Sl 5 f.a f.c f.b) (by repeat constructor) (j_ins (posG RF.n fs3 ⟨t, f.a, f.c, f.b, f.s⟩) (by rw [List.length_map]; exact posG_le ..) ?_)
    have e2 : (fs3.map pcR).insertIdx (posG RF.n fs3 ⟨t, f.a, f.c, f.b, f.s⟩) (Sl 5 f.a f.c f.b) = fs4.map pcR := by
      rw [hfs4, insG_idx, map_ins]; rfl
    rw [e2]
    have hkv : fs4.map kvR = refL (withFs (failS s) (putM (delM s.fs k) t g)) := by
      rw [hfs4, insG_map RF.n Prod.fst kvR (fun _ => rfl), hfs3, kv_filter, hfs2, kv_filter, hf, ← refL_del]
      have := refL_put (s := withFs s (delM s.fs k)) (delM_nodup hI.nd k) t g
      rw [show kvR ⟨t, f.a, f.c, f.b, f.s⟩ = (t, g) from by unfold kvR; rw [hfb, hfs]]
      exact this.symm
    (refine j_tk (A := All _) (by repeat constructor) (j_tk (A := Sl 76 _ _ _) (by repeat constructor) (j_tk (A := blk d _ _) (by repeat constructor) (j_unref (s := withFs (failS s) (putM (delM s.fs k) t g)) hkv rfl rfl rfl rfl ?_))))
    exact j_ret1 (M := [RefA d _]) rfl rfl (by repeat (first | exact .refl | apply Pk.cons | refine .drop ?_ | constructor)) ⟨rfl, rfl⟩
end Go.Proofs.Ytjneocpbpnbopaa
