/- wire.Encode, where all fits. -/
import Derived.Test.YtnmfpgfgjjmfhaaWi5
import Derived.Test.YtnmfpgfgjjmfhaaSh
set_option linter.unusedVariables false
set_option linter.unusedSimpArgs false
set_option maxRecDepth 100000
namespace Go.Proofs.Ytnmfpgfgjjmfhaa
open Go
attribute [local irreducible] Exit.then Exit.inBlock Code.wp runS bodyPost postF J runT cutQ cutR Tr Sat blk Sl Old Star Ex Pu
attribute [local irreducible] AnyH AnyHL wd

theorem encD_idle (b2 b3 : Nat) : TrD Try.prog 49 [.pointer (some ⟨b2, 0, none⟩), .pointer (some ⟨b3, 0, none⟩)] .returning .returning [] [] := by
  refine trD_rec Try.func49 rfl Try.ntmps49 rfl rfl (.inl ⟨rfl, rfl, rfl⟩) (fun F => ?_)
  refine j_assertN rfl rfl rfl ?_
  repeat' (first | (show J _ _ _ (runS _ _ _ _ (⟨_, _, _, _, _, none⟩ :: _)); first | (show J _ _ _ (runS _ _ _ _ (⟨_, .move _, _, _, _, _⟩ :: _)); refine j_move rfl rfl ?_) | (show J _ _ _ (runS _ _ _ _ (⟨_, .assign _, _, _, _, _⟩ :: _)); refine j_assign rfl rfl ?_) | (show J _ _ _ (runS _ _ _ _ (⟨_, .store _ _ _, _, _, _, _⟩ :: _)); ((refine j_sets rfl rfl rfl (by rfl) (by repeat constructor) (by repeat constructor) (by rfl) ?_))) | (show J _ _ _ (runS _ _ _ _ (⟨_, .extract _ _, _, _, _, _⟩ :: _)); refine j_extract rfl rfl rfl ?_) | (show J _ _ _ (runS _ _ _ _ (⟨_, .alloc _, _, _, _, _⟩ :: _)); refine j_alloc rfl (fun b => ?_))) | refine j_nil ?_ | (show J _ _ _ (Code.wp _ _ _); first | refine j_seq ?_ | refine j_region ?_ | (show J _ _ _ (Code.wp _ (.cond _ _ _) _); (refine j_false rfl ?_)) | refine j_skip ?_) | refine j_then ?_)
  exact j_retD (M := []) rfl (by repeat (first | exact .refl | refine .drop ?_))

theorem wenc_spec (it : IA) (Lp : List HP) (hv : Sees Lp (fun w => OkI w it)) (hfit : FitI 1 it) (hl : cntI it ≤ 4096) (hb : (encV (plI it)).length ≤ 100000000) :
    Tr Try.prog 32 [.agg (cellsI it).toArray] Lp (fun v M => ∃ a c, v = .tuple #[.slice a (encV (plI it)).length c, .int .i64 0] ∧ M = Sl 5 a c (encV (plI it)) :: Lp) := by
  obtain ⟨k0, n0, s0, a0, m0, c0, hx⟩ : ∃ k0 n0 s0 a0 m0 c0, cellsI it = [.int .i64 k0, .int .i64 n0, .string s0, .slice a0 m0 c0] := by cases it <;> exact ⟨_, _, _, _, _, _, rfl⟩
  rw [hx]
  refine tr_enterD Try.func32 rfl Try.ntmps32 rfl (fun F => ?_)
  repeat' (first | (show J _ _ _ (runS _ _ _ _ (⟨_, _, _, _, _, none⟩ :: _)); first | (show J _ _ _ (runS _ _ _ _ (⟨_, .box _ _, _, _, _, _⟩ :: _)); refine j_box rfl rfl (fun b => ?_)) | (show J _ _ _ (runS _ _ _ _ (⟨_, .alloc _, _, _, _, _⟩ :: _)); refine j_alloc rfl (fun b => ?_))) | refine j_nil ?_ | (show J _ _ _ (Code.wp _ _ _); first | refine j_seq ?_ | refine j_region ?_) | refine j_then ?_)
  rename_i bi bb
  obtain ⟨be, hbe⟩ : ∃ b', b' = b := ⟨_, rfl⟩
  rw [← hbe]
  refine j_makeFunc rfl rfl ?_
  refine j_defer rfl ?_
  repeat' (first | (show J _ _ _ (runS _ _ _ _ (⟨_, _, _, _, _, none⟩ :: _)); first | (show J _ _ _ (runS _ _ _ _ (⟨_, .store _ _ _, _, _, _, _⟩ :: _)); ((refine j_set rfl rfl rfl (by rfl) (by repeat constructor) (by repeat constructor) ?_))) | (show J _ _ _ (runS _ _ _ _ (⟨_, .alloc _, _, _, _, _⟩ :: _)); refine j_alloc rfl (fun b => ?_))) | refine j_nil ?_ | refine jd_then ?_ | refine jd_seq ?_ | refine jd_region ?_)
  have e4 : Value.agg #[.int .i64 k0, .int .i64 n0, .string s0, .slice a0 m0 c0] = .agg (cellsI it).toArray := by rw [hx]
  refine j_loads [.int .i64 k0, .int .i64 n0, .string s0, .slice a0 m0 c0] rfl rfl rfl (by repeat constructor) ⟨rfl, rfl, rfl, rfl, trivial⟩ rfl ?_
  rw [show ([.int .i64 k0, .int .i64 n0, .string s0, .slice a0 m0 c0] : List Value).toArray = (cellsI it).toArray from by rw [hx]]
  (refine j_call rfl rfl (wof_spec (cntI it) it (Nat.le_refl _) 1 b 4096 (blk be 38 [.int .i64 0] :: blk bb 59 [.slice none 0 0] :: Lp) hv.cons.cons hfit hl (by omega)) ((by repeat (first | exact .refl | apply Pk.cons | refine .drop ?_ | constructor))) rfl (fun v M N h hN => ?_); obtain ⟨t, rfl, hpl, hft, rfl⟩ := h; (try simp only [List.nil_append, List.cons_append, List.append_assoc] at hN); subst hN)
  have he : encA t = encV (plI it) := by rw [enc_pl, hpl]
  have hb2 : ([] : List UInt8).length + (encA t).length ≤ 100000000 := by rw [he]; simpa using hb
  refine j_sl0 (α := UInt8) 5 none ?_
  (refine j_call rfl rfl (wput_spec (szA t) t (Nat.le_refl _) none 0 [] (AnyH t :: blk be 38 [.int .i64 0] :: blk bb 59 [.slice none 0 0] :: Lp) (sees_any .z) hft hb2) ((by repeat (first | exact .refl | apply Pk.cons | refine .drop ?_ | constructor))) rfl (fun v M N h hN => ?_); obtain ⟨a, c, rfl, rfl⟩ := h; (try simp only [List.nil_append, List.cons_append, List.append_assoc] at hN); subst hN)
  rw [List.nil_append, he]
  repeat' (first | (show J _ _ _ (runS _ _ _ _ (⟨_, _, _, _, _, none⟩ :: _)); (show J _ _ _ (runS _ _ _ _ (⟨_, .store _ _ _, _, _, _, _⟩ :: _)); ((refine j_set rfl rfl rfl (by rfl) (by repeat constructor) (by repeat constructor) ?_)))) | refine j_nil ?_ | refine jd_then ?_ | refine jd_ret ?_)
  refine j_leave (M' := Sl 5 a c (encV (plI it)) :: Lp) (encD_idle bb be) (F' := Sl 5 a c (encV (plI it)) :: AnyH t :: blk be 38 [.int .i64 0] :: blk bb 59 [.slice a (encV (plI it)).length c] :: (Lp ++ F)) .refl (fun a1 w hr hw => ?_) (M := []) (by repeat (first | exact .refl | apply Pk.cons | refine .drop ?_ | constructor)) ⟨a, c, rfl, rfl⟩
  exact run_res2 hr rfl rfl rfl (run_loadVar_one rfl hw (by repeat constructor) rfl) (run_loadVar_one rfl hw (by repeat constructor) rfl)
end Go.Proofs.Ytnmfpgfgjjmfhaa
