/- conf: awake. -/
import Derived.Test.YtnmfpgfgjjmfhaaCf4
import Derived.Test.YtnmfpgfgjjmfhaaCfT
set_option linter.unusedVariables false
set_option linter.unusedSimpArgs false
set_option maxRecDepth 100000
namespace Go.Proofs.Ytnmfpgfgjjmfhaa
open Go
attribute [local irreducible] Exit.then Exit.inBlock Code.wp runS bodyPost postF J runT cutQ cutR Tr Sat blk Sl Old Star Ex Pu

theorem mem5 : (memC 5).length = 2 := by decide +kernel
theorem most73 : mostC 7 3 := by decide +kernel
theorem most79 : ¬ mostC 7 9 := by decide +kernel
theorem most153 : ¬ mostC 15 3 := by decide +kernel
theorem near76 : nearC 7 6 := by decide +kernel
theorem near10 : ¬ nearC 1 0 := by decide +kernel
theorem srt3 : srt [5, 9, 7] = [5, 7, 9] := by
  unfold srt
  simp [List.mergeSort, List.MergeSort.Internal.splitInTwo]
theorem reach7 : reachedC 7 [5, 9, 7] = 7 := by
  have e : reachL 7 [5, 9, 7] = [5, 9, 7] := by decide +kernel
  unfold reachedC
  rw [e, srt3]
  decide
theorem srt2 : srt [5, 0] = [0, 5] := by
  unfold srt
  simp [List.mergeSort, List.MergeSort.Internal.splitInTwo]
theorem reach3 : reachedC 3 [5] = 0 := by
  have e : reachL 3 [5] = [5, 0] := by decide +kernel
  unfold reachedC
  rw [e, srt2]
  decide
def dec6 (d : ByteArray) : Option Int := if d.size = 0 then none else some 6
theorem decS0 : DecS ⟨#[]⟩ (dec6 ⟨#[]⟩) := fun Lp => (sDecode0_spec Lp).mono (fun v M h => ⟨⟨0, 0, 0, 0, 0, ⟨#[]⟩, ⟨#[]⟩, 0, 0, 0, 0, 0, h.1, by decide⟩, h.2⟩)
theorem decS6 : DecS ⟨data6.toArray⟩ (dec6 ⟨data6.toArray⟩) := fun Lp => (sDecode6_spec Lp).mono (fun v M h => ⟨⟨4, 0, 0, 6, 0, ⟨#[]⟩, ⟨#[]⟩, 0, 0, 0, 0, 0, h.1, by decide⟩, h.2⟩)
def ents6 : List En := [⟨1, ⟨data6.toArray⟩⟩, ⟨1, ⟨#[]⟩⟩]

theorem hdec6 : ∀ e ∈ ents6, DecS e.d (dec6 e.d) := by
  intro e he
  simp only [ents6, List.mem_cons, List.not_mem_nil, or_false] at he
  rcases he with rfl | rfl
  · exact decS6
  · exact decS0
theorem last6 : (lastC dec6 ents6).getD 1 = 6 := by decide
theorem cawake_spec (Lp : List HP) : Tr Try.prog 9 [] Lp (fun v M => v = .bool true ∧ M = Lp) := by
  refine tr_enter Try.func9 rfl Try.ntmps9 rfl (fun F => ?_)
  repeat' (first | (show J _ _ _ (runS _ _ _ _ (⟨_, _, _, _, _, none⟩ :: _)); first | (show J _ _ _ (runS _ _ _ _ (⟨_, .assign _, _, _, _, _⟩ :: _)); refine j_assign rfl rfl ?_) | (show J _ _ _ (runS _ _ _ _ (⟨_, .build _ _, _, _, _, _⟩ :: _)); refine j_build rfl (by repeat constructor) rfl ?_)) | refine j_nil ?_ | (show J _ _ _ (Code.wp _ _ _); first | refine j_seq ?_ | refine j_region ?_) | refine j_then ?_)
  (refine j_call rfl rfl (sEncode6_spec []) (.refl) rfl (fun v M N h hN => ?_); obtain ⟨rfl, rfl⟩ := h; (try simp only [List.nil_append, List.cons_append, List.append_assoc] at hN); subst hN)
  repeat' (first | (show J _ _ _ (runS _ _ _ _ (⟨_, _, _, _, _, none⟩ :: _)); first | (show J _ _ _ (runS _ _ _ _ (⟨_, .move _, _, _, _, _⟩ :: _)); refine j_move rfl rfl ?_) | (show J _ _ _ (runS _ _ _ _ (⟨_, .assign _, _, _, _, _⟩ :: _)); refine j_assign rfl rfl ?_) | (show J _ _ _ (runS _ _ _ _ (⟨_, .extract _ _, _, _, _, _⟩ :: _)); refine j_extract rfl rfl rfl ?_)) | refine j_nil ?_ | (show J _ _ _ (Code.wp _ _ _); first | refine j_seq ?_ | refine j_region ?_) | refine j_then ?_)
  (refine j_call rfl rfl (cmay_spec 1 []) (.refl) rfl (fun v M N h hN => ?_); obtain ⟨rfl, rfl⟩ := h; (try simp only [List.nil_append, List.cons_append, List.append_assoc] at hN); subst hN)
  rw [show decide (mayC 1) = true from by decide]
  repeat' (first | (show J _ _ _ (runS _ _ _ _ (⟨_, _, _, _, _, none⟩ :: _)); (show J _ _ _ (runS _ _ _ _ (⟨_, .move _, _, _, _, _⟩ :: _)); refine j_move rfl rfl ?_)) | (show J _ _ _ (runS _ _ _ _ (⟨_, _, _, _, _, some _⟩ :: _)); (refine j_gyes rfl rfl rfl ?_)))
  (refine j_call rfl rfl (cmay_spec 0 []) (.refl) rfl (fun v M N h hN => ?_); obtain ⟨rfl, rfl⟩ := h; (try simp only [List.nil_append, List.cons_append, List.append_assoc] at hN); subst hN)
  rw [show decide (mayC 0) = false from by decide]
  repeat' (first | (show J _ _ _ (runS _ _ _ _ (⟨_, _, _, _, _, none⟩ :: _)); first | (show J _ _ _ (runS _ _ _ _ (⟨_, .move _, _, _, _, _⟩ :: _)); refine j_move rfl rfl ?_) | (show J _ _ _ (runS _ _ _ _ (⟨_, .pick _ _ _, _, _, _, _⟩ :: _)); ((refine j_pick_t rfl rfl rfl ?_))) | (show J _ _ _ (runS _ _ _ _ (⟨_, .unOp _ _ _, _, _, _, _⟩ :: _)); ((refine j_not_b rfl rfl ?_)))) | (show J _ _ _ (runS _ _ _ _ (⟨_, _, _, _, _, some _⟩ :: _)); (refine j_gyes rfl rfl rfl ?_)))
  (refine j_call rfl rfl (clist_spec 5 Lp) ((by repeat ((exact .refl)))) rfl (fun v M N h hN => ?_); obtain ⟨a1, c1, rfl, rfl⟩ := h; (try simp only [List.nil_append, List.cons_append, List.append_assoc] at hN); subst hN)
  rw [mem5]
  repeat' (first | (show J _ _ _ (runS _ _ _ _ (⟨_, _, _, _, _, none⟩ :: _)); first | (show J _ _ _ (runS _ _ _ _ (⟨_, .move _, _, _, _, _⟩ :: _)); refine j_move rfl rfl ?_) | (show J _ _ _ (runS _ _ _ _ (⟨_, .binOp _ _ _ _ _, _, _, _, _⟩ :: _)); ((refine j_bin rfl rfl rfl rfl ?_))) | (show J _ _ _ (runS _ _ _ _ (⟨_, .pick _ _ _, _, _, _, _⟩ :: _)); ((refine j_pick_t rfl rfl rfl ?_))) | (show J _ _ _ (runS _ _ _ _ (⟨_, .call ⟨.builtin .len, _, _⟩, _, _, _, _⟩ :: _)); ((refine j_len rfl rfl ?_)))) | (show J _ _ _ (runS _ _ _ _ (⟨_, _, _, _, _, some _⟩ :: _)); (refine j_gyes rfl rfl rfl ?_)))
  (refine j_call rfl rfl (cmost_spec 7 3 []) (.refl) rfl (fun v M N h hN => ?_); obtain ⟨rfl, rfl⟩ := h; (try simp only [List.nil_append, List.cons_append, List.append_assoc] at hN); subst hN)
  rw [decide_eq_true most73]
  repeat' (first | (show J _ _ _ (runS _ _ _ _ (⟨_, _, _, _, _, none⟩ :: _)); first | (show J _ _ _ (runS _ _ _ _ (⟨_, .move _, _, _, _, _⟩ :: _)); refine j_move rfl rfl ?_) | (show J _ _ _ (runS _ _ _ _ (⟨_, .pick _ _ _, _, _, _, _⟩ :: _)); ((refine j_pick_t rfl rfl rfl ?_)))) | (show J _ _ _ (runS _ _ _ _ (⟨_, _, _, _, _, some _⟩ :: _)); (refine j_gyes rfl rfl rfl ?_)))
  (refine j_call rfl rfl (cmost_spec 7 9 []) (.refl) rfl (fun v M N h hN => ?_); obtain ⟨rfl, rfl⟩ := h; (try simp only [List.nil_append, List.cons_append, List.append_assoc] at hN); subst hN)
  rw [decide_eq_false most79]
  repeat' (first | (show J _ _ _ (runS _ _ _ _ (⟨_, _, _, _, _, none⟩ :: _)); first | (show J _ _ _ (runS _ _ _ _ (⟨_, .move _, _, _, _, _⟩ :: _)); refine j_move rfl rfl ?_) | (show J _ _ _ (runS _ _ _ _ (⟨_, .pick _ _ _, _, _, _, _⟩ :: _)); ((refine j_pick_t rfl rfl rfl ?_))) | (show J _ _ _ (runS _ _ _ _ (⟨_, .unOp _ _ _, _, _, _, _⟩ :: _)); ((refine j_not_b rfl rfl ?_)))) | (show J _ _ _ (runS _ _ _ _ (⟨_, _, _, _, _, some _⟩ :: _)); (refine j_gyes rfl rfl rfl ?_)))
  (refine j_call rfl rfl (cmost_spec 15 3 []) (.refl) rfl (fun v M N h hN => ?_); obtain ⟨rfl, rfl⟩ := h; (try simp only [List.nil_append, List.cons_append, List.append_assoc] at hN); subst hN)
  rw [decide_eq_false most153]
  repeat' (first | (show J _ _ _ (runS _ _ _ _ (⟨_, _, _, _, _, none⟩ :: _)); first | (show J _ _ _ (runS _ _ _ _ (⟨_, .move _, _, _, _, _⟩ :: _)); refine j_move rfl rfl ?_) | (show J _ _ _ (runS _ _ _ _ (⟨_, .pick _ _ _, _, _, _, _⟩ :: _)); ((refine j_pick_t rfl rfl rfl ?_))) | (show J _ _ _ (runS _ _ _ _ (⟨_, .unOp _ _ _, _, _, _, _⟩ :: _)); ((refine j_not_b rfl rfl ?_)))) | (show J _ _ _ (runS _ _ _ _ (⟨_, _, _, _, _, some _⟩ :: _)); (refine j_gyes rfl rfl rfl ?_)))
  refine j_lits (α := Int) rfl [_, _, _] [5, 9, 7] ⟨rfl, rfl, rfl, rfl, rfl, rfl, trivial⟩ rfl rfl (by decide) (by decide) rfl (fun b0 => ?_)
  repeat' ((show J _ _ _ (runS _ _ _ _ (⟨_, _, _, _, _, some _⟩ :: _)); (refine j_gyes rfl rfl rfl ?_)))
  (refine j_call rfl rfl (creached_spec sortS 7 (some ⟨b0, 0, none⟩) 3 [5, 9, 7] [Sl 2 (some ⟨b0, 0, none⟩) 3 ([5, 9, 7] : List Int)] sees_sl) (.refl) rfl (fun v M N h hN => ?_); obtain ⟨rfl, rfl⟩ := h; (try simp only [List.nil_append, List.cons_append, List.append_assoc] at hN); subst hN)
  rw [reach7]
  repeat' (first | (show J _ _ _ (runS _ _ _ _ (⟨_, _, _, _, _, none⟩ :: _)); first | (show J _ _ _ (runS _ _ _ _ (⟨_, .move _, _, _, _, _⟩ :: _)); refine j_move rfl rfl ?_) | (show J _ _ _ (runS _ _ _ _ (⟨_, .binOp _ _ _ _ _, _, _, _, _⟩ :: _)); ((refine j_bin rfl rfl rfl rfl ?_))) | (show J _ _ _ (runS _ _ _ _ (⟨_, .pick _ _ _, _, _, _, _⟩ :: _)); ((refine j_pick_t rfl rfl rfl ?_)))) | (show J _ _ _ (runS _ _ _ _ (⟨_, _, _, _, _, some _⟩ :: _)); (refine j_gyes rfl rfl rfl ?_)))
  refine j_lits (α := Int) rfl [_] [5] ⟨rfl, rfl, trivial⟩ rfl rfl (by decide) (by decide) rfl (fun b1 => ?_)
  repeat' ((show J _ _ _ (runS _ _ _ _ (⟨_, _, _, _, _, some _⟩ :: _)); (refine j_gyes rfl rfl rfl ?_)))
  (refine j_call rfl rfl (creached_spec sortS 3 (some ⟨b1, 0, none⟩) 1 [5] [Sl 2 (some ⟨b1, 0, none⟩) 1 ([5] : List Int)] sees_sl) (.refl) rfl (fun v M N h hN => ?_); obtain ⟨rfl, rfl⟩ := h; (try simp only [List.nil_append, List.cons_append, List.append_assoc] at hN); subst hN)
  rw [reach3]
  repeat' (first | (show J _ _ _ (runS _ _ _ _ (⟨_, _, _, _, _, none⟩ :: _)); first | (show J _ _ _ (runS _ _ _ _ (⟨_, .move _, _, _, _, _⟩ :: _)); refine j_move rfl rfl ?_) | (show J _ _ _ (runS _ _ _ _ (⟨_, .binOp _ _ _ _ _, _, _, _, _⟩ :: _)); ((refine j_bin rfl rfl rfl rfl ?_))) | (show J _ _ _ (runS _ _ _ _ (⟨_, .pick _ _ _, _, _, _, _⟩ :: _)); ((refine j_pick_t rfl rfl rfl ?_)))) | (show J _ _ _ (runS _ _ _ _ (⟨_, _, _, _, _, some _⟩ :: _)); (refine j_gyes rfl rfl rfl ?_)))
  (refine j_call rfl rfl (cnear_spec 7 6 []) (.refl) rfl (fun v M N h hN => ?_); obtain ⟨rfl, rfl⟩ := h; (try simp only [List.nil_append, List.cons_append, List.append_assoc] at hN); subst hN)
  rw [decide_eq_true near76]
  repeat' (first | (show J _ _ _ (runS _ _ _ _ (⟨_, _, _, _, _, none⟩ :: _)); first | (show J _ _ _ (runS _ _ _ _ (⟨_, .move _, _, _, _, _⟩ :: _)); refine j_move rfl rfl ?_) | (show J _ _ _ (runS _ _ _ _ (⟨_, .pick _ _ _, _, _, _, _⟩ :: _)); ((refine j_pick_t rfl rfl rfl ?_)))) | (show J _ _ _ (runS _ _ _ _ (⟨_, _, _, _, _, some _⟩ :: _)); (refine j_gyes rfl rfl rfl ?_)))
  (refine j_call rfl rfl (cnear_spec 1 0 []) (.refl) rfl (fun v M N h hN => ?_); obtain ⟨rfl, rfl⟩ := h; (try simp only [List.nil_append, List.cons_append, List.append_assoc] at hN); subst hN)
  rw [decide_eq_false near10]
  repeat' (first | (show J _ _ _ (runS _ _ _ _ (⟨_, _, _, _, _, none⟩ :: _)); first | (show J _ _ _ (runS _ _ _ _ (⟨_, .move _, _, _, _, _⟩ :: _)); refine j_move rfl rfl ?_) | (show J _ _ _ (runS _ _ _ _ (⟨_, .binOp _ _ _ _ _, _, _, _, _⟩ :: _)); ((refine j_bin rfl rfl rfl rfl ?_))) | (show J _ _ _ (runS _ _ _ _ (⟨_, .pick _ _ _, _, _, _, _⟩ :: _)); ((refine j_pick_t rfl rfl rfl ?_))) | (show J _ _ _ (runS _ _ _ _ (⟨_, .unOp _ _ _, _, _, _, _⟩ :: _)); ((refine j_not_b rfl rfl ?_))) | (show J _ _ _ (runS _ _ _ _ (⟨_, .build _ _, _, _, _, _⟩ :: _)); refine j_build rfl (by repeat constructor) rfl ?_)) | (show J _ _ _ (runS _ _ _ _ (⟨_, _, _, _, _, some _⟩ :: _)); (refine j_gyes rfl rfl rfl ?_)))
  refine j_lits (α := En) rfl [_, _] ents6 ⟨rfl, rfl, rfl, rfl, trivial⟩ rfl rfl (by decide) (by decide) rfl (fun b2 => ?_)
  repeat' ((show J _ _ _ (runS _ _ _ _ (⟨_, _, _, _, _, some _⟩ :: _)); (refine j_gyes rfl rfl rfl ?_)))
  (refine j_call rfl rfl (of_spec dec6 1 (some ⟨b2, 0, none⟩) 2 ents6 hdec6 (by decide) [Sl 48 (some ⟨b2, 0, none⟩) 2 ents6] sees_sl) (.refl) rfl (fun v M N h hN => ?_); obtain ⟨rfl, rfl⟩ := h; (try simp only [List.nil_append, List.cons_append, List.append_assoc] at hN); subst hN)
  rw [last6]
  repeat' (first | (show J _ _ _ (runS _ _ _ _ (⟨_, _, _, _, _, none⟩ :: _)); first | (show J _ _ _ (runS _ _ _ _ (⟨_, .binOp _ _ _ _ _, _, _, _, _⟩ :: _)); ((refine j_bin rfl rfl rfl rfl ?_))) | (show J _ _ _ (runS _ _ _ _ (⟨_, .assign _, _, _, _, _⟩ :: _)); refine j_assign rfl rfl ?_) | (show J _ _ _ (runS _ _ _ _ (⟨_, .pick _ _ _, _, _, _, _⟩ :: _)); ((refine j_pick_t rfl rfl rfl ?_)))) | refine j_nil ?_ | (show J _ _ _ (runS _ _ _ _ (⟨_, _, _, _, _, some _⟩ :: _)); (refine j_gyes rfl rfl rfl ?_)) | (show J _ _ _ (Code.wp _ _ _); (refine j_ret ?_)) | refine j_then ?_)
  exact j_ret1 (M := Lp) rfl rfl (by repeat (first | exact .refl | refine .drop ?_)) ⟨rfl, rfl⟩
end Go.Proofs.Ytnmfpgfgjjmfhaa
