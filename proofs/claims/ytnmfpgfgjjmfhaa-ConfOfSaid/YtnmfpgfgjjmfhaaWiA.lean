/- wire.Decode. -/
import Derived.Test.YtnmfpgfgjjmfhaaWi9
set_option linter.unusedVariables false
set_option linter.unusedSimpArgs false
set_option maxRecDepth 100000
namespace Go.Proofs.Ytnmfpgfgjjmfhaa
open Go
attribute [local irreducible] Exit.then Exit.inBlock Code.wp runS bodyPost postF J runT cutQ cutR Tr Sat blk Sl Old Star Ex Pu
attribute [local irreducible] ItH ItHL wd

theorem decD_idle (b2 b3 : Nat) : TrD Try.prog 63 [.pointer (some ⟨b2, 0, none⟩), .pointer (some ⟨b3, 0, none⟩)] .returning .returning [] [] := by
  refine trD_rec Try.func63 rfl Try.ntmps63 rfl rfl (.inl ⟨rfl, rfl, rfl⟩) (fun F => ?_)
  refine j_assertN rfl rfl rfl ?_
  repeat' (first | (show J _ _ _ (runS _ _ _ _ (⟨_, _, _, _, _, none⟩ :: _)); first | (show J _ _ _ (runS _ _ _ _ (⟨_, .move _, _, _, _, _⟩ :: _)); refine j_move rfl rfl ?_) | (show J _ _ _ (runS _ _ _ _ (⟨_, .assign _, _, _, _, _⟩ :: _)); refine j_assign rfl rfl ?_) | (show J _ _ _ (runS _ _ _ _ (⟨_, .store _ _ _, _, _, _, _⟩ :: _)); ((refine j_sets rfl rfl rfl (by rfl) (by repeat constructor) (by repeat constructor) (by rfl) ?_))) | (show J _ _ _ (runS _ _ _ _ (⟨_, .extract _ _, _, _, _, _⟩ :: _)); refine j_extract rfl rfl rfl ?_) | (show J _ _ _ (runS _ _ _ _ (⟨_, .alloc _, _, _, _, _⟩ :: _)); refine j_alloc rfl (fun b => ?_))) | refine j_nil ?_ | (show J _ _ _ (Code.wp _ _ _); first | refine j_seq ?_ | refine j_region ?_ | (show J _ _ _ (Code.wp _ (.cond _ _ _) _); (refine j_false rfl ?_)) | refine j_skip ?_) | refine j_then ?_)
  exact j_retD (M := []) rfl (by repeat (first | exact .refl | refine .drop ?_))
theorem decD_rec (b2 b3 : Nat) : TrD Try.prog 63 [.pointer (some ⟨b2, 0, none⟩), .pointer (some ⟨b3, 0, none⟩)] (.panicking [{ v := flt, recovered := false }]) (.panicking [{ v := flt, recovered := true }])
    [blk b2 64 [.int .i64 0, .int .i64 0, .string ⟨#[]⟩, .slice none 0 0], blk b3 38 [.int .i64 0]] [blk b2 64 [.int .i64 0, .int .i64 0, .string ⟨#[]⟩, .slice none 0 0], blk b3 38 [.int .i64 4]] := by
  refine trD_rec Try.func63 rfl Try.ntmps63 rfl rfl (.inr ⟨flt, [], rfl, rfl, rfl⟩) (fun F => ?_)
  refine j_assertT rfl rfl rfl ?_
  repeat' (first | (show J _ _ _ (runS _ _ _ _ (⟨_, _, _, _, _, none⟩ :: _)); first | (show J _ _ _ (runS _ _ _ _ (⟨_, .move _, _, _, _, _⟩ :: _)); refine j_move rfl rfl ?_) | (show J _ _ _ (runS _ _ _ _ (⟨_, .assign _, _, _, _, _⟩ :: _)); refine j_assign rfl rfl ?_) | (show J _ _ _ (runS _ _ _ _ (⟨_, .store _ _ _, _, _, _, _⟩ :: _)); ((refine j_sets rfl rfl rfl (by rfl) (by repeat constructor) (by repeat constructor) (by rfl) ?_))) | (show J _ _ _ (runS _ _ _ _ (⟨_, .extract _ _, _, _, _, _⟩ :: _)); refine j_extract rfl rfl rfl ?_) | (show J _ _ _ (runS _ _ _ _ (⟨_, .alloc _, _, _, _, _⟩ :: _)); refine j_alloc rfl (fun b => ?_))) | refine j_nil ?_ | (show J _ _ _ (Code.wp _ _ _); first | refine j_seq ?_ | refine j_region ?_ | (show J _ _ _ (Code.wp _ (.cond _ _ _) _); (refine j_true rfl ?_))) | refine j_then ?_)
  refine j_plan (.take 0 (.take 1 (.fork 2 (.take 3 (.take 4 (.done))) (.fork 3 (.take 2 (.take 4 (.done))) (.stop))))) (by decide +kernel) ?_
  repeat' (first | (show J _ _ _ (runS _ _ _ _ (⟨_, _, _, _, _, none⟩ :: _)); first | (show J _ _ _ (runS _ _ _ _ (⟨_, .load _ _, _, _, _, _⟩ :: _)); ((refine j_load rfl rfl (by repeat constructor) rfl rfl ?_))) | (show J _ _ _ (runS _ _ _ _ (⟨_, .fieldAddr _ _ _, _, _, _, _⟩ :: _)); refine j_fieldAddr rfl rfl ?_) | (show J _ _ _ (runS _ _ _ _ (⟨_, .store _ _ _, _, _, _, _⟩ :: _)); (first | refine j_set rfl rfl rfl (by rfl) (by repeat constructor) (by repeat constructor) ?_ | refine j_sets rfl rfl rfl (by rfl) (by repeat constructor) (by repeat constructor) (by rfl) ?_)) | (show J _ _ _ (runS _ _ _ _ (⟨_, .build _ _, _, _, _, _⟩ :: _)); refine j_build rfl (by repeat constructor) rfl ?_)) | refine j_nil ?_ | (show J _ _ _ (runT _ _ _ _ _); first | refine j_take rfl ?_ | refine j_fork rfl ?_ ?_ | exact j_stop | refine j_done ?_))
  all_goals exact j_retD rfl (by repeat (first | exact .refl | apply Pk.cons | refine .drop ?_ | constructor))

theorem wdec_spec (a : Option Addr) (c : Nat) (ls : List UInt8) (hc : ls.length ≤ c) (Lp : List HP) (hv : Sees Lp (fun w => Vw w a ls)) :
    Tr Try.prog 37 [.slice a ls.length c] Lp (fun v M => (∃ (t : IA) (left' : Nat), itemP 12 4096 ls = some (plI t, left', []) ∧ v = .tuple #[.agg (cellsI t).toArray, .int .i64 0] ∧ M = ItH t :: Lp) ∨
      ((∀ v left', itemP 12 4096 ls ≠ some (v, left', [])) ∧ v = .tuple #[.agg #[.int .i64 0, .int .i64 0, .string ⟨#[]⟩, .slice none 0 0], .int .i64 4] ∧ M = Lp)) := by
  refine tr_enterD Try.func37 rfl Try.ntmps37 rfl (fun F => ?_)
  repeat' (first | (show J _ _ _ (runS _ _ _ _ (⟨_, _, _, _, _, none⟩ :: _)); (show J _ _ _ (runS _ _ _ _ (⟨_, .alloc _, _, _, _, _⟩ :: _)); refine j_alloc rfl (fun b => ?_))) | refine j_nil ?_ | (show J _ _ _ (Code.wp _ _ _); first | refine j_seq ?_ | refine j_region ?_) | refine j_then ?_)
  rename_i bi
  obtain ⟨be, hbe⟩ : ∃ b', b' = b := ⟨_, rfl⟩
  subst hbe
  refine j_makeFunc rfl rfl ?_
  refine j_defer rfl ?_
  repeat' (first | (show J _ _ _ (runS _ _ _ _ (⟨_, _, _, _, _, none⟩ :: _)); first | (show J _ _ _ (runS _ _ _ _ (⟨_, .move _, _, _, _, _⟩ :: _)); refine j_move rfl rfl ?_) | (show J _ _ _ (runS _ _ _ _ (⟨_, .assign _, _, _, _, _⟩ :: _)); refine j_assign rfl rfl ?_) | (show J _ _ _ (runS _ _ _ _ (⟨_, .build _ _, _, _, _, _⟩ :: _)); refine j_build rfl (by repeat constructor) rfl ?_) | (show J _ _ _ (runS _ _ _ _ (⟨_, .box _ _, _, _, _, _⟩ :: _)); refine j_box rfl rfl (fun b => ?_))) | refine j_nil ?_ | refine jd_then ?_ | refine jd_seq ?_ | refine jd_region ?_)
  (refine j_callX rfl rfl (ritem_spec 12 1 rfl 4096 (by decide) b a c ls hc (blk be 38 [.int .i64 0] :: blk bi 64 [.int .i64 0, .int .i64 0, .string ⟨#[]⟩, .slice none 0 0] :: Lp) hv.cons.cons) ((by repeat ((exact .refl)))) rfl (fun v M N h hN => ?_) (fun v M N h hN => ?_); (obtain ⟨t, left', r, h1, rfl, hl, a2, c2, hf, hc2, rfl⟩ := h; (try simp only [List.nil_append, List.cons_append, List.append_assoc] at hN); subst hN); rotate_left; (obtain ⟨h1, rfl, a', c', len', left', rfl⟩ := h; (try simp only [List.nil_append, List.cons_append, List.append_assoc] at hN); subst hN); rotate_right)
  · obtain ⟨k0, n0, s0, a0, m0, c0, hx⟩ : ∃ k0 n0 s0 a0 m0 c0, cellsI t = [.int .i64 k0, .int .i64 n0, .string s0, .slice a0 m0 c0] := by cases t <;> exact ⟨_, _, _, _, _, _, rfl⟩
    rw [hx]
    unfold rdB
    repeat' (first | (show J _ _ _ (runS _ _ _ _ (⟨_, _, _, _, _, none⟩ :: _)); first | (show J _ _ _ (runS _ _ _ _ (⟨_, .move _, _, _, _, _⟩ :: _)); refine j_move rfl rfl ?_) | (show J _ _ _ (runS _ _ _ _ (⟨_, .load _ _, _, _, _, _⟩ :: _)); ((refine j_load rfl rfl (by repeat constructor) rfl rfl ?_))) | (show J _ _ _ (runS _ _ _ _ (⟨_, .fieldAddr _ _ _, _, _, _, _⟩ :: _)); refine j_fieldAddr rfl rfl ?_) | (show J _ _ _ (runS _ _ _ _ (⟨_, .nilCheck _, _, _, _, _⟩ :: _)); ((refine j_nilCheck rfl rfl ?_))) | (show J _ _ _ (runS _ _ _ _ (⟨_, .binOp _ _ _ _ _, _, _, _, _⟩ :: _)); ((refine j_bin rfl rfl rfl rfl ?_))) | (show J _ _ _ (runS _ _ _ _ (⟨_, .store _ _ _, _, _, _, _⟩ :: _)); (first | refine j_set rfl rfl rfl (by rfl) (by repeat constructor) (by repeat constructor) ?_ | refine j_sets rfl rfl rfl (by rfl) (by repeat constructor) (by repeat constructor) (by rfl) ?_)) | (show J _ _ _ (runS _ _ _ _ (⟨_, .call ⟨.builtin .len, _, _⟩, _, _, _, _⟩ :: _)); ((refine j_len rfl rfl ?_))) | (show J _ _ _ (runS _ _ _ _ (⟨_, .build _ _, _, _, _, _⟩ :: _)); refine j_build rfl (by repeat constructor) rfl ?_)) | refine j_nil ?_ | refine jd_then ?_ | refine jd_seq ?_ | refine jd_region ?_ | refine jd_ret ?_ | refine jd_then_ret ?_ | (show J _ _ _ (wd _ (Code.wp _ (.cond _ _ _) _)); (refine jd_dec rfl (fun h => ?_) (fun h => ?_))) | refine jd_skip ?_)
    · refine j_leave (M' := Lp) (decD_idle bi be) (F' := blk be 38 [.int .i64 4] :: blk bi 64 [.int .i64 0, .int .i64 0, .string ⟨#[]⟩, .slice none 0 0] :: (Lp ++ F)) (by repeat (first | exact .refl | apply Pk.cons | refine .drop ?_ | constructor)) (fun a1 w hr hw => ?_) (M := []) (by repeat (first | exact .refl | refine .drop ?_)) (.inr ⟨?_, rfl, rfl⟩)
      · exact run_res2 hr rfl rfl rfl (run_loadVar_blk (vs := [.int .i64 0, .int .i64 0, .string ⟨#[]⟩, .slice none 0 0]) rfl hw (by repeat constructor) rfl ⟨rfl, rfl, rfl, rfl, trivial⟩) (run_loadVar_one rfl hw (by repeat constructor) rfl)
      · intro v l' h0
        rw [h1] at h0
        simp at h0
        obtain ⟨_, _, rfl⟩ := h0
        simp at h
    · refine j_loads [.int .i64 k0, .int .i64 n0, .string s0, .slice a0 m0 c0] rfl rfl rfl (by repeat constructor) ⟨rfl, rfl, rfl, rfl, trivial⟩ rfl ?_
      repeat' (first | (show J _ _ _ (runS _ _ _ _ (⟨_, _, _, _, _, none⟩ :: _)); (show J _ _ _ (runS _ _ _ _ (⟨_, .store _ _ _, _, _, _, _⟩ :: _)); (first | refine j_set rfl rfl rfl (by rfl) (by repeat constructor) (by repeat constructor) ?_ | refine j_sets rfl rfl rfl (by rfl) (by repeat constructor) (by repeat constructor) (by rfl) ?_))) | refine j_nil ?_ | refine jd_then ?_ | refine jd_ret ?_)
      refine j_leave (M' := ItH t :: Lp) (decD_idle bi be) (F' := blk be 38 [.int .i64 0] :: blk bi 64 [.int .i64 k0, .int .i64 n0, .string s0, .slice a0 m0 c0] :: ItH t :: (Lp ++ F)) (by repeat (first | exact .refl | apply Pk.cons | refine .drop ?_ | constructor)) (fun a1 w hr hw => ?_) (M := []) (by repeat (first | exact .refl | apply Pk.cons | refine .drop ?_ | constructor)) (.inl ⟨t, left', ?_, rfl, rfl⟩)
      · rw [hx]
        exact run_res2 hr rfl rfl rfl (run_loadVar_blk (vs := [.int .i64 k0, .int .i64 n0, .string s0, .slice a0 m0 c0]) rfl hw (by repeat constructor) rfl ⟨rfl, rfl, rfl, rfl, trivial⟩) (run_loadVar_one rfl hw (by repeat constructor) rfl)
      · rw [h1, show r = [] from List.length_eq_zero_iff.1 (by omega)]
  · repeat' ((refine jd_then_panic ?_))
    refine j_leaveP (M' := Lp) (decD_rec bi be) (F' := Lp ++ F) (by repeat (first | exact .refl | apply Pk.cons | refine .drop ?_ | constructor)) (fun a1 w hr hw => ?_) (by repeat (first | exact .refl | refine .drop ?_)) (.inr ⟨?_, rfl, rfl⟩)
    · exact run_res2 hr rfl rfl rfl (run_loadVar_blk (vs := [.int .i64 0, .int .i64 0, .string ⟨#[]⟩, .slice none 0 0]) rfl hw (by repeat constructor) rfl ⟨rfl, rfl, rfl, rfl, trivial⟩) (run_loadVar_one rfl hw (by repeat constructor) rfl)
    · intro v l' h0
      rw [h1] at h0
      cases h0
end Go.Proofs.Ytnmfpgfgjjmfhaa
