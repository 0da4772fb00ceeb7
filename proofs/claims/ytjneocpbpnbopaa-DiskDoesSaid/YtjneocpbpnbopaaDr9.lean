/- The document's disk: an act. -/
import Derived.Test.YtjneocpbpnbopaaDr8
set_option linter.unusedVariables false
set_option linter.unusedSimpArgs false
set_option maxRecDepth 100000
namespace Go.Proofs.Ytjneocpbpnbopaa
open Go
attribute [local irreducible] Exit.then Exit.inBlock Code.wp runS bodyPost postF J runT cutQ cutR Tr Sat blk Sl Old Star Ex Pu
attribute [local irreducible] MapA MapB IterA IterS All

theorem crashL_take : ∀ (ks : List ByteArray) (ls : List LeftS) (m : Nat) (fs : List (ByteArray × FileS)), ks.length ≤ m → crashL ks (ls.take m) fs = crashL ks ls fs
  | [], _, _, _, _ => rfl
  | k :: ks, ls, 0, fs, h => by simp at h
  | k :: ks, [], m + 1, fs, h => rfl
  | k :: ks, x :: ls, m + 1, fs, h => by
    rw [crashL, crashL]
    exact crashL_take ks ls m _ (by simpa using h)
theorem crash_take {s : DS} (hI : DInv s) (l : List LeftS) : crashS s (l.take 100) = crashS s l := by
  unfold crashS
  rw [crashL_take]
  have := (filesL_perm s).length_eq
  have := hI.many
  simp at *
  omega
theorem take_left (l : List LeftS) {i : Nat} (h : i < l.length) : l.take (i + 1) = l.take i ++ [l[i]] := by
  rw [List.take_add_one, List.getElem?_eq_getElem h]; rfl

theorem rplain_spec (d : Nat) (s : DS) (x : DAct) (ms : List UInt8) (l : List LeftS) (Lq : List HP) (hI : DInv s) (hb : x.bn = ms.length) (hbc : ms.length ≤ x.bc) (hvb : Sees Lq (fun w => Vw w x.bA ms)) (hl : x.ln = l.length) (hvl : Sees Lq (fun w => Vw w x.lA l)) (ha : x.a.size ≤ 9223372036854775807) (ht : x.t.size ≤ 9223372036854775807) :
    Tr Try.prog 14 [.pointer (some ⟨d, 0, none⟩), .agg (Enc.enc x).toArray] (RefA d s :: Lq) (fun v M => v = .int .i64 (realN s x ms l).1 ∧ M = RefA d (realN s x ms l).2 :: Lq) := by
  obtain ⟨rv, hrv⟩ : ∃ rv, realN s x ms l = rv := ⟨_, rfl⟩
  rw [hrv]
  obtain ⟨k, A, T, bA, bn, bc, N, lA, ln, lc⟩ := x
  dsimp only at hb hbc hvb hl hvl ha ht
  subst hb hl
  unfold realN at hrv
  dsimp only at hrv
  change Tr Try.prog 14 [.pointer (some ⟨d, 0, none⟩), .agg #[.int .i64 k, .string A, .string T, .slice bA ms.length bc, .int .i64 N, .slice lA l.length lc]] _ _
  refine tr_enter Try.func14 rfl Try.ntmps14 rfl (fun F => ?_)
  repeat' (first | (show J _ _ _ (runS _ _ _ (⟨_, _, _, _, _, none⟩ :: _)); first | (show J _ _ _ (runS _ _ _ (⟨_, .move _, _, _, _, _⟩ :: _)); refine j_move rfl rfl ?_) | (show J _ _ _ (runS _ _ _ (⟨_, .load _ _, _, _, _, _⟩ :: _)); ((refine j_load rfl rfl (by repeat constructor) rfl rfl ?_))) | (show J _ _ _ (runS _ _ _ (⟨_, .fieldAddr _ _ _, _, _, _, _⟩ :: _)); refine j_fieldAddr rfl rfl ?_) | (show J _ _ _ (runS _ _ _ (⟨_, .binOp _ _ _ _ _, _, _, _, _⟩ :: _)); ((refine j_bin rfl rfl rfl rfl ?_))) | (show J _ _ _ (runS _ _ _ (⟨_, .assign _, _, _, _, _⟩ :: _)); refine j_assign rfl rfl ?_) | (show J _ _ _ (runS _ _ _ (⟨_, .box _ _, _, _, _, _⟩ :: _)); refine j_box rfl rfl (fun b => ?_))) | refine j_nil ?_ | (show J _ _ _ (Code.wp _ _ _); first | refine j_seq ?_ | refine j_region ?_ | refine j_block ?_ | (show J _ _ _ (Code.wp _ (.cond _ _ _) _); (refine j_dec rfl (fun h => ?_) (fun h => ?_))) | refine j_ret ?_ | refine j_skip ?_) | refine j_then ?_ | refine j_inb ?_)
  · rw [if_pos h] at hrv
    (refine j_call rfl rfl (rappend_spec d s A bA bc ms Lq hvb hI hbc ha) ((.drop .refl)) rfl (fun v M N h hN => ?_); obtain ⟨rfl, rfl⟩ := h; (try simp only [List.nil_append, List.cons_append, List.append_assoc] at hN); subst hN)
    repeat' (first | (show J _ _ _ (runS _ _ _ (⟨_, _, _, _, _, none⟩ :: _)); (show J _ _ _ (runS _ _ _ (⟨_, .assign _, _, _, _, _⟩ :: _)); refine j_assign rfl rfl ?_)) | refine j_nil ?_ | (show J _ _ _ (Code.wp _ _ _); (refine j_ret ?_)) | refine j_then ?_ | refine j_then_ret ?_ | refine j_inb_ret ?_)
    rw [hrv]
    exact j_ret1 (M := RefA d rv.2 :: Lq) rfl rfl .refl ⟨rfl, rfl⟩
  · rename_i h0
    rw [if_neg h0, if_pos h] at hrv
    (refine j_call rfl rfl (rsync_spec d s A hI ha) ((.drop .refl)) rfl (fun v M N h hN => ?_); obtain ⟨rfl, rfl⟩ := h; (try simp only [List.nil_append, List.cons_append, List.append_assoc] at hN); subst hN)
    repeat' (first | (show J _ _ _ (runS _ _ _ (⟨_, _, _, _, _, none⟩ :: _)); (show J _ _ _ (runS _ _ _ (⟨_, .assign _, _, _, _, _⟩ :: _)); refine j_assign rfl rfl ?_)) | refine j_nil ?_ | (show J _ _ _ (Code.wp _ _ _); (refine j_ret ?_)) | refine j_then ?_ | refine j_then_ret ?_ | refine j_inb_ret ?_)
    rw [hrv]
    exact j_ret1 (M := RefA d rv.2 :: Lq) rfl rfl .refl ⟨rfl, rfl⟩
  · rename_i h0 h1
    rw [if_neg h0, if_neg h1, if_pos h] at hrv
    (refine j_call rfl rfl (rcut_spec d s A N hI ha) ((.drop .refl)) rfl (fun v M N h hN => ?_); obtain ⟨rfl, rfl⟩ := h; (try simp only [List.nil_append, List.cons_append, List.append_assoc] at hN); subst hN)
    repeat' (first | (show J _ _ _ (runS _ _ _ (⟨_, _, _, _, _, none⟩ :: _)); (show J _ _ _ (runS _ _ _ (⟨_, .assign _, _, _, _, _⟩ :: _)); refine j_assign rfl rfl ?_)) | refine j_nil ?_ | (show J _ _ _ (Code.wp _ _ _); (refine j_ret ?_)) | refine j_then ?_ | refine j_then_ret ?_ | refine j_inb_ret ?_)
    rw [hrv]
    exact j_ret1 (M := RefA d rv.2 :: Lq) rfl rfl .refl ⟨rfl, rfl⟩
  · rename_i h0 h1 h2
    rw [if_neg h0, if_neg h1, if_neg h2, if_pos h] at hrv
    (refine j_call rfl rfl (rmove_spec d s A T hI ha ht) ((.drop .refl)) rfl (fun v M N h hN => ?_); obtain ⟨rfl, rfl⟩ := h; (try simp only [List.nil_append, List.cons_append, List.append_assoc] at hN); subst hN)
    repeat' (first | (show J _ _ _ (runS _ _ _ (⟨_, _, _, _, _, none⟩ :: _)); (show J _ _ _ (runS _ _ _ (⟨_, .assign _, _, _, _, _⟩ :: _)); refine j_assign rfl rfl ?_)) | refine j_nil ?_ | (show J _ _ _ (Code.wp _ _ _); (refine j_ret ?_)) | refine j_then ?_ | refine j_then_ret ?_ | refine j_inb_ret ?_)
    rw [hrv]
    exact j_ret1 (M := RefA d rv.2 :: Lq) rfl rfl .refl ⟨rfl, rfl⟩
  · rename_i h0 h1 h2 h3
    rw [if_neg h0, if_neg h1, if_neg h2, if_neg h3, if_pos h] at hrv
    (refine j_call rfl rfl (rdropS_spec d s A hI ha) ((.drop .refl)) rfl (fun v M N h hN => ?_); obtain ⟨rfl, rfl⟩ := h; (try simp only [List.nil_append, List.cons_append, List.append_assoc] at hN); subst hN)
    repeat' (first | (show J _ _ _ (runS _ _ _ (⟨_, _, _, _, _, none⟩ :: _)); (show J _ _ _ (runS _ _ _ (⟨_, .assign _, _, _, _, _⟩ :: _)); refine j_assign rfl rfl ?_)) | refine j_nil ?_ | (show J _ _ _ (Code.wp _ _ _); (refine j_ret ?_)) | refine j_then ?_ | refine j_then_ret ?_ | refine j_inb_ret ?_)
    rw [hrv]
    exact j_ret1 (M := RefA d rv.2 :: Lq) rfl rfl .refl ⟨rfl, rfl⟩
  · rename_i h0 h1 h2 h3 h4
    rw [if_neg h0, if_neg h1, if_neg h2, if_neg h3, if_neg h4, if_pos h] at hrv
    subst hrv
    (refine j_call rfl rfl (rarm_spec d s N) ((.drop .refl)) rfl (fun v M N h hN => ?_); obtain ⟨rfl, rfl⟩ := h; (try simp only [List.nil_append, List.cons_append, List.append_assoc] at hN); subst hN)
    repeat' (first | (show J _ _ _ (runS _ _ _ (⟨_, _, _, _, _, none⟩ :: _)); (show J _ _ _ (runS _ _ _ (⟨_, .assign _, _, _, _, _⟩ :: _)); refine j_assign rfl rfl ?_)) | refine j_nil ?_ | (show J _ _ _ (Code.wp _ _ _); first | refine j_seq ?_ | refine j_region ?_ | refine j_ret ?_) | refine j_then ?_ | refine j_inb ?_)
    exact j_ret1 (M := RefA d ⟨s.room, s.down, armN N, s.fs⟩ :: Lq) rfl rfl .refl ⟨rfl, rfl⟩
  · rename_i h0 h1 h2 h3 h4 h5
    rw [if_neg h0, if_neg h1, if_neg h2, if_neg h3, if_neg h4, if_neg h5, if_pos h] at hrv
    subst hrv
    refine j_lit0 (α := LeftS) rfl (fun b0 => ?_)
    repeat' (first | (show J _ _ _ (runS _ _ _ (⟨_, _, _, _, _, none⟩ :: _)); (show J _ _ _ (runS _ _ _ (⟨_, .assign _, _, _, _, _⟩ :: _)); refine j_assign rfl rfl ?_)) | refine j_nil ?_ | (show J _ _ _ (Code.wp _ _ _); first | refine j_seq ?_ | refine j_region ?_ | refine j_block ?_) | refine j_then ?_)
    refine j_loop (X := { q : Nat × Option Addr × Nat // q.1 ≤ l.length ∧ q.1 ≤ 100 }) (fun q => [(0, .pointer (some ⟨d, 0, none⟩)), (3, .pointer (some ⟨b, 0, none⟩)), (5, .slice q.1.2.1 (l.take q.1.1).length q.1.2.2), (6, .int .i64 (q.1.1 : Nat))]) (fun q => Sl 68 q.1.2.1 q.1.2.2 (l.take q.1.1) :: blk b 31 [.int .i64 k, .string A, .string T, .slice bA ms.length bc, .int .i64 N, .slice lA l.length lc] :: RefA d s :: Lq ++ F) (fun q => l.length - q.1.1) ⟨(0, some ⟨b0, 0, none⟩, 0), by omega, by omega⟩ ⟨rfl, rfl, rfl, rfl, trivial⟩ (by repeat ((exact .refl))) (fun q => ?_)
    obtain ⟨⟨i, a5, c5⟩, hi, hi1⟩ := q
    dsimp only at hi hi1 ⊢
    have htl : (l.take i).length = i := by simp; omega
    repeat' (first | (show J _ _ _ (runS _ _ _ (⟨_, _, _, _, _, none⟩ :: _)); first | (show J _ _ _ (runS _ _ _ (⟨_, .move _, _, _, _, _⟩ :: _)); refine j_move rfl rfl ?_) | (show J _ _ _ (runS _ _ _ (⟨_, .load _ _, _, _, _, _⟩ :: _)); ((refine j_load rfl rfl (by repeat constructor) rfl rfl ?_))) | (show J _ _ _ (runS _ _ _ (⟨_, .fieldAddr _ _ _, _, _, _, _⟩ :: _)); refine j_fieldAddr rfl rfl ?_) | (show J _ _ _ (runS _ _ _ (⟨_, .binOp _ _ _ _ _, _, _, _, _⟩ :: _)); ((refine j_bin rfl rfl rfl rfl ?_))) | (show J _ _ _ (runS _ _ _ (⟨_, .pick _ _ _, _, _, _, _⟩ :: _)); (first | refine j_pick_t rfl rfl rfl ?_ | refine j_pick_f rfl rfl rfl ?_)) | (show J _ _ _ (runS _ _ _ (⟨_, .call ⟨.builtin .len, _, _⟩, _, _, _, _⟩ :: _)); ((refine j_len rfl rfl ?_)))) | refine j_nil ?_ | (show J _ _ _ (runS _ _ _ (⟨_, _, _, _, _, some _⟩ :: _)); first | refine j_gno_u rfl rfl rfl rfl ?_ | refine j_gyes rfl rfl rfl ?_ | refine j_gsplit_dec rfl rfl (fun h => ?_) (fun h => ?_)) | (show J _ _ _ (Code.wp _ _ _); first | refine j_seq ?_ | refine j_region ?_ | refine j_block ?_ | (show J _ _ _ (Code.wp _ (.cond _ _ _) _); first | refine j_false rfl ?_ | refine j_dec rfl (fun h => ?_) (fun h => ?_)) | refine j_skip ?_ | refine j_exit ?_ | refine j_draw (by decide +kernel) ?_) | refine j_then ?_ | refine j_then_exit ?_ | refine j_inb_here ?_)
    · have hi2 : i < l.length := by omega
      have hst := take_left l hi2
      refine j_idx (α := LeftS) (M := Lq) rfl rfl (by repeat (first | exact .refl | refine .drop ?_)) hvl rfl i rfl hi2 rfl (fun b3 o3 ha3 hc3 => ?_)
      repeat' ((show J _ _ _ (runS _ _ _ (⟨_, _, _, _, _, none⟩ :: _)); (show J _ _ _ (runS _ _ _ (⟨_, .fieldAddr _ _ _, _, _, _, _⟩ :: _)); refine j_fieldAddr rfl rfl ?_)))
      refine j_loadv (M := Lq) (v := .int .i64 l[i].keep) rfl rfl (by repeat (first | exact .refl | refine .drop ?_)) (fun w hw => hc3 0 _ rfl w hw) rfl ?_
      repeat' ((show J _ _ _ (runS _ _ _ (⟨_, _, _, _, _, none⟩ :: _)); first | (show J _ _ _ (runS _ _ _ (⟨_, .move _, _, _, _, _⟩ :: _)); refine j_move rfl rfl ?_) | (show J _ _ _ (runS _ _ _ (⟨_, .load _ _, _, _, _, _⟩ :: _)); ((refine j_load rfl rfl (by repeat constructor) rfl rfl ?_))) | (show J _ _ _ (runS _ _ _ (⟨_, .fieldAddr _ _ _, _, _, _, _⟩ :: _)); refine j_fieldAddr rfl rfl ?_)))
      refine j_idx (α := LeftS) (M := Lq) rfl rfl (by repeat (first | exact .refl | refine .drop ?_)) hvl rfl i rfl hi2 rfl (fun b4 o4 ha4 hc4 => ?_)
      repeat' ((show J _ _ _ (runS _ _ _ (⟨_, _, _, _, _, none⟩ :: _)); (show J _ _ _ (runS _ _ _ (⟨_, .fieldAddr _ _ _, _, _, _, _⟩ :: _)); refine j_fieldAddr rfl rfl ?_)))
      refine j_loadv (M := Lq) (v := .bool l[i].zero) rfl rfl (by repeat (first | exact .refl | refine .drop ?_)) (fun w hw => hc4 1 _ rfl w hw) rfl ?_
      repeat' ((show J _ _ _ (runS _ _ _ (⟨_, _, _, _, _, none⟩ :: _)); (show J _ _ _ (runS _ _ _ (⟨_, .build _ _, _, _, _, _⟩ :: _)); refine j_build rfl (by repeat constructor) rfl ?_)))
      refine j_lit1 (α := LeftS) rfl rfl l[i] rfl (by decide) rfl (fun bh => ?_)
      refine j_append (α := LeftS) (ls := l.take i) (ms := [l[i]]) rfl rfl rfl (fun _ _ => (by repeat constructor)) (M := [blk bh 68 [.int .i64 l[i].keep, .bool l[i].zero]]) (by repeat ((exact .refl))) (sees_blk1 l[i]) rfl rfl (by unfold maxLen; simp only [List.length_singleton]; omega) (by simp only [List.length_singleton]; omega) rfl (fun a6 c6 _ => ?_)
      rw [← hst]
      repeat' (first | (show J _ _ _ (runS _ _ _ (⟨_, _, _, _, _, none⟩ :: _)); first | (show J _ _ _ (runS _ _ _ (⟨_, .move _, _, _, _, _⟩ :: _)); refine j_move rfl rfl ?_) | (show J _ _ _ (runS _ _ _ (⟨_, .binOp _ _ _ _ _, _, _, _, _⟩ :: _)); ((refine j_add rfl rfl (by omega) rfl ?_))) | (show J _ _ _ (runS _ _ _ (⟨_, .assign _, _, _, _, _⟩ :: _)); refine j_assign rfl rfl ?_)) | refine j_nil ?_ | (show J _ _ _ (Code.wp _ _ _); (refine j_region ?_)) | refine j_then ?_ | refine j_inb ?_)
      exact j_round ⟨(i + 1, a6, c6), by dsimp only; omega, by dsimp only; omega⟩ (by dsimp only; omega) ⟨rfl, rfl, rfl, rfl, trivial⟩ (by repeat (first | exact .refl | apply Pk.cons | refine .drop ?_ | constructor))
    all_goals
      have e : l.take i = l.take 100 := by
        rcases Nat.lt_or_ge i 100 with h6 | h6
        · rw [List.take_of_length_le (by omega), List.take_of_length_le (by omega)]
        · rw [show i = 100 from by omega]
      (refine j_call rfl rfl (rcrash_spec d s a5 c5 (l.take i) [Sl 68 a5 c5 (l.take i)] sees_sl hI) ((by repeat (first | exact .refl | apply Pk.cons | constructor))) rfl (fun v M N h hN => ?_); obtain ⟨rfl, rfl⟩ := h; (try simp only [List.nil_append, List.cons_append, List.append_assoc] at hN); subst hN)
      repeat' (first | (show J _ _ _ (runS _ _ _ (⟨_, _, _, _, _, none⟩ :: _)); (show J _ _ _ (runS _ _ _ (⟨_, .assign _, _, _, _, _⟩ :: _)); refine j_assign rfl rfl ?_)) | refine j_nil ?_ | (show J _ _ _ (Code.wp _ _ _); first | refine j_seq ?_ | refine j_region ?_ | refine j_ret ?_) | refine j_then ?_ | refine j_inb ?_)
      rw [e, crash_take hI]
      exact j_ret1 (M := RefA d (crashS s l) :: Lq) rfl rfl (by repeat (first | exact .refl | apply Pk.cons | refine .drop ?_ | constructor)) ⟨rfl, rfl⟩
  · rename_i h0 h1 h2 h3 h4 h5
    rw [if_neg h0, if_neg h1, if_neg h2, if_neg h3, if_neg h4, if_neg h5, if_neg h] at hrv
    subst hrv
    exact j_ret1 (M := RefA d s :: Lq) rfl rfl (.drop .refl) ⟨rfl, rfl⟩

end Go.Proofs.Ytjneocpbpnbopaa
