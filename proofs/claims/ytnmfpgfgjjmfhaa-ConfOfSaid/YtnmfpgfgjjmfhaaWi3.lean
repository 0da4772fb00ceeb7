/- Values' bytes, written. -/
import Derived.Test.YtnmfpgfgjjmfhaaWi2
set_option linter.unusedVariables false
set_option linter.unusedSimpArgs false
set_option maxRecDepth 100000
namespace Go.Proofs.Ytnmfpgfgjjmfhaa
open Go
attribute [local irreducible] Exit.then Exit.inBlock Code.wp runS bodyPost postF J runT cutQ cutR Tr Sat blk Sl Old Star Ex Pu

mutual
def FitA : AT → Prop
  | .num n => -9223372036854775808 ≤ n ∧ n ≤ 9223372036854775807
  | .txt _ => True
  | .lst _ _ l => FitL l
def FitL : List AT → Prop
  | [] => True
  | t :: l => FitA t ∧ FitL l
end
theorem fitL_at {l : List AT} {i : Nat} {t : AT} (h : l[i]? = some t) (hl : FitL l) : FitA t := by
  induction l generalizing i with
  | nil => simp at h
  | cons x l ih =>
    rw [FitL] at hl
    match i with
    | 0 => simp at h; subst h; exact hl.1
    | i + 1 => rw [List.getElem?_cons_succ] at h; exact ih h hl.2
theorem encA_pos (t : AT) : 1 ≤ (encA t).length := by cases t <;> simp [encA]
theorem encL_len : ∀ (l : List AT), l.length ≤ (encL l).length
  | [] => by simp [encL]
  | t :: l => by have := encL_len l; have := encA_pos t; rw [encL]; simp; omega
theorem u64n {n : Nat} (h : n < 18446744073709551616) : IntKind.u64.wrap (n : Int) = (n : Int) := by rw [u64_wrap]; omega

theorem wput_spec : ∀ (N : Nat) (t : AT), szA t ≤ N → ∀ (a : Option Addr) (c : Nat) (ls : List UInt8) (Lp : List HP), Sees Lp (fun w => OkA w t) → FitA t → ls.length + (encA t).length ≤ 100000000 →
    Tr Try.prog 50 [.slice a ls.length c, valA t] (Sl 5 a c ls :: Lp) (fun v M => ∃ a' c', v = .slice a' (ls ++ encA t).length c' ∧ M = Sl 5 a' c' (ls ++ encA t) :: Lp) := by
  intro N
  induction N with
  | zero => intro t ht; cases t <;> simp [szA] at ht
  | succ N ih =>
    intro t ht a c ls Lp hv hfit hb
    cases t with
    | num n =>
      rw [FitA] at hfit
      rw [encA] at hb ⊢
      have hcl := cntB_len (zig n)
      simp only [List.length_cons] at hb
      refine tr_enter Try.func50 rfl Try.ntmps50 rfl (fun F => ?_)
      repeat' (first | (show J _ _ _ (runS _ _ _ _ (⟨_, _, _, _, _, none⟩ :: _)); first | (show J _ _ _ (runS _ _ _ _ (⟨_, .move _, _, _, _, _⟩ :: _)); refine j_move rfl rfl ?_) | (show J _ _ _ (runS _ _ _ _ (⟨_, .assign _, _, _, _, _⟩ :: _)); refine j_assign rfl rfl ?_)) | refine j_nil ?_ | (show J _ _ _ (Code.wp _ _ _); first | refine j_seq ?_ | refine j_region ?_) | refine j_then ?_)
      refine j_assertT rfl rfl rfl ?_
      repeat' (first | (show J _ _ _ (runS _ _ _ _ (⟨_, _, _, _, _, none⟩ :: _)); first | (show J _ _ _ (runS _ _ _ _ (⟨_, .move _, _, _, _, _⟩ :: _)); refine j_move rfl rfl ?_) | (show J _ _ _ (runS _ _ _ _ (⟨_, .assign _, _, _, _, _⟩ :: _)); refine j_assign rfl rfl ?_) | (show J _ _ _ (runS _ _ _ _ (⟨_, .extract _ _, _, _, _, _⟩ :: _)); refine j_extract rfl rfl rfl ?_)) | refine j_nil ?_ | (show J _ _ _ (Code.wp _ _ _); first | refine j_seq ?_ | refine j_region ?_ | (show J _ _ _ (Code.wp _ (.cond _ _ _) _); (refine j_true rfl ?_))) | refine j_then ?_)
      (refine j_lit1 (α := UInt8) rfl rfl 1 rfl (by decide) rfl (fun bh => ?_); refine j_append (α := UInt8) (ls := ls) (ms := [1]) rfl rfl rfl (fun _ _ => (by repeat constructor)) (M := [blk bh 5 [.int .u8 1]]) (by repeat ((exact .refl))) (sees_blk1 (1 : UInt8)) rfl rfl (by unfold maxLen; simp only [List.length_singleton]; omega) (by simp only [List.length_singleton]; omega) rfl (fun a6 c6 _ => ?_))
      repeat' ((show J _ _ _ (runS _ _ _ _ (⟨_, _, _, _, _, none⟩ :: _)); first | (show J _ _ _ (runS _ _ _ _ (⟨_, .move _, _, _, _, _⟩ :: _)); refine j_move rfl rfl ?_) | (show J _ _ _ (runS _ _ _ _ (⟨_, .convert _ _ _, _, _, _, _⟩ :: _)); refine j_conv rfl rfl ?_)))
      refine j_shl rfl rfl (by omega) rfl ?_
      repeat' ((show J _ _ _ (runS _ _ _ _ (⟨_, _, _, _, _, none⟩ :: _)); first | (show J _ _ _ (runS _ _ _ _ (⟨_, .move _, _, _, _, _⟩ :: _)); refine j_move rfl rfl ?_) | (show J _ _ _ (runS _ _ _ _ (⟨_, .binOp _ _ _ _ _, _, _, _, _⟩ :: _)); (first | refine j_bin rfl rfl rfl rfl ?_ | refine j_shr rfl rfl (by omega) rfl ?_)) | (show J _ _ _ (runS _ _ _ _ (⟨_, .convert _ _ _, _, _, _, _⟩ :: _)); refine j_conv rfl rfl ?_)))
      rw [zig_is hfit]
      obtain ⟨p0, hp0⟩ : ∃ p0, p0 = ls ++ [1] := ⟨_, rfl⟩
      have hl1 : p0.length = ls.length + 1 := by rw [hp0]; simp
      rw [← hp0]
      (refine j_call rfl rfl (wcount_spec a6 c6 p0 (zig n) (zig_lt hfit) (by omega)) ((by repeat (first | exact .refl | apply Pk.cons | constructor))) rfl (fun v M N h hN => ?_); obtain ⟨a7, c7, rfl, rfl⟩ := h; (try simp only [List.nil_append, List.cons_append, List.append_assoc] at hN); subst hN)
      have e : p0 ++ cntB (zig n) = ls ++ (1 :: cntB (zig n)) := by rw [hp0]; simp
      rw [e]
      repeat' (first | (show J _ _ _ (runS _ _ _ _ (⟨_, _, _, _, _, none⟩ :: _)); (show J _ _ _ (runS _ _ _ _ (⟨_, .assign _, _, _, _, _⟩ :: _)); refine j_assign rfl rfl ?_)) | refine j_nil ?_ | (show J _ _ _ (Code.wp _ _ _); (refine j_ret ?_)) | refine j_then ?_ | refine j_then_ret ?_)
      exact j_ret1 (M := Sl 5 a7 c7 (ls ++ (1 :: cntB (zig n))) :: Lp) rfl rfl (by repeat (first | exact .refl | apply Pk.cons | refine .drop ?_ | constructor)) ⟨a7, c7, rfl, rfl⟩
    | txt s =>
      rw [encA] at hb ⊢
      have hcl := cntB_len s.size
      have hsz : s.data.toList.length = s.size := by rw [Array.length_toList]; rfl
      simp only [List.length_cons, List.length_append, hsz] at hb
      refine tr_enter Try.func50 rfl Try.ntmps50 rfl (fun F => ?_)
      repeat' (first | (show J _ _ _ (runS _ _ _ _ (⟨_, _, _, _, _, none⟩ :: _)); first | (show J _ _ _ (runS _ _ _ _ (⟨_, .move _, _, _, _, _⟩ :: _)); refine j_move rfl rfl ?_) | (show J _ _ _ (runS _ _ _ _ (⟨_, .assign _, _, _, _, _⟩ :: _)); refine j_assign rfl rfl ?_)) | refine j_nil ?_ | (show J _ _ _ (Code.wp _ _ _); first | refine j_seq ?_ | refine j_region ?_) | refine j_then ?_)
      refine j_assertF (u := 9) rfl rfl rfl rfl ?_
      repeat' (first | (show J _ _ _ (runS _ _ _ _ (⟨_, _, _, _, _, none⟩ :: _)); first | (show J _ _ _ (runS _ _ _ _ (⟨_, .move _, _, _, _, _⟩ :: _)); refine j_move rfl rfl ?_) | (show J _ _ _ (runS _ _ _ _ (⟨_, .assign _, _, _, _, _⟩ :: _)); refine j_assign rfl rfl ?_) | (show J _ _ _ (runS _ _ _ _ (⟨_, .extract _ _, _, _, _, _⟩ :: _)); refine j_extract rfl rfl rfl ?_)) | refine j_nil ?_ | (show J _ _ _ (Code.wp _ _ _); first | refine j_seq ?_ | refine j_region ?_ | (show J _ _ _ (Code.wp _ (.cond _ _ _) _); (refine j_false rfl ?_)) | refine j_skip ?_) | refine j_then ?_)
      refine j_assertT rfl rfl rfl ?_
      repeat' (first | (show J _ _ _ (runS _ _ _ _ (⟨_, _, _, _, _, none⟩ :: _)); first | (show J _ _ _ (runS _ _ _ _ (⟨_, .move _, _, _, _, _⟩ :: _)); refine j_move rfl rfl ?_) | (show J _ _ _ (runS _ _ _ _ (⟨_, .assign _, _, _, _, _⟩ :: _)); refine j_assign rfl rfl ?_) | (show J _ _ _ (runS _ _ _ _ (⟨_, .extract _ _, _, _, _, _⟩ :: _)); refine j_extract rfl rfl rfl ?_)) | refine j_nil ?_ | (show J _ _ _ (Code.wp _ _ _); first | refine j_seq ?_ | refine j_region ?_ | (show J _ _ _ (Code.wp _ (.cond _ _ _) _); (refine j_true rfl ?_))) | refine j_then ?_)
      (refine j_lit1 (α := UInt8) rfl rfl 2 rfl (by decide) rfl (fun bh => ?_); refine j_append (α := UInt8) (ls := ls) (ms := [2]) rfl rfl rfl (fun _ _ => (by repeat constructor)) (M := [blk bh 5 [.int .u8 2]]) (by repeat ((exact .refl))) (sees_blk1 (2 : UInt8)) rfl rfl (by unfold maxLen; simp only [List.length_singleton]; omega) (by simp only [List.length_singleton]; omega) rfl (fun a6 c6 _ => ?_))
      repeat' ((show J _ _ _ (runS _ _ _ _ (⟨_, _, _, _, _, none⟩ :: _)); first | (show J _ _ _ (runS _ _ _ _ (⟨_, .move _, _, _, _, _⟩ :: _)); refine j_move rfl rfl ?_) | (show J _ _ _ (runS _ _ _ _ (⟨_, .call ⟨.builtin .len, _, _⟩, _, _, _, _⟩ :: _)); ((refine j_len_str rfl rfl ?_))) | (show J _ _ _ (runS _ _ _ _ (⟨_, .convert _ _ _, _, _, _, _⟩ :: _)); refine j_conv rfl rfl ?_)))
      rw [u64n (by omega)]
      obtain ⟨p0, hp0⟩ : ∃ p0, p0 = ls ++ [2] := ⟨_, rfl⟩
      have hl1 : p0.length = ls.length + 1 := by rw [hp0]; simp
      rw [← hp0]
      (refine j_call rfl rfl (wcount_spec a6 c6 p0 s.size (by omega) (by omega)) ((by repeat (first | exact .refl | apply Pk.cons | constructor))) rfl (fun v M N h hN => ?_); obtain ⟨a7, c7, rfl, rfl⟩ := h; (try simp only [List.nil_append, List.cons_append, List.append_assoc] at hN); subst hN)
      have hl2 : (p0 ++ cntB s.size).length = ls.length + 1 + (cntB s.size).length := by rw [List.length_append, hl1]
      repeat' ((show J _ _ _ (runS _ _ _ _ (⟨_, _, _, _, _, none⟩ :: _)); (show J _ _ _ (runS _ _ _ _ (⟨_, .move _, _, _, _, _⟩ :: _)); refine j_move rfl rfl ?_)))
      refine j_appendS (ls := p0 ++ cntB s.size) (s := s) rfl rfl (fun _ _ => (by repeat constructor)) rfl (by unfold maxLen; omega) (by omega) rfl (fun a8 c8 _ => ?_)
      have e : p0 ++ cntB s.size ++ s.data.toList = ls ++ (2 :: cntB s.size ++ s.data.toList) := by rw [hp0]; simp
      rw [e]
      repeat' (first | (show J _ _ _ (runS _ _ _ _ (⟨_, _, _, _, _, none⟩ :: _)); (show J _ _ _ (runS _ _ _ _ (⟨_, .assign _, _, _, _, _⟩ :: _)); refine j_assign rfl rfl ?_)) | refine j_nil ?_ | (show J _ _ _ (Code.wp _ _ _); (refine j_ret ?_)) | refine j_then ?_ | refine j_then_ret ?_)
      exact j_ret1 (M := Sl 5 a8 c8 (ls ++ (2 :: cntB s.size ++ s.data.toList)) :: Lp) rfl rfl (by repeat (first | exact .refl | apply Pk.cons | refine .drop ?_ | constructor)) ⟨a8, c8, rfl, rfl⟩
    | lst a2 c2 l =>
      rw [FitA] at hfit
      rw [encA] at hb ⊢
      rw [szA] at ht
      have hcl := cntB_len l.length
      have hel := encL_len l
      simp only [List.length_cons, List.length_append] at hb
      refine tr_enter Try.func50 rfl Try.ntmps50 rfl (fun F => ?_)
      repeat' (first | (show J _ _ _ (runS _ _ _ _ (⟨_, _, _, _, _, none⟩ :: _)); first | (show J _ _ _ (runS _ _ _ _ (⟨_, .move _, _, _, _, _⟩ :: _)); refine j_move rfl rfl ?_) | (show J _ _ _ (runS _ _ _ _ (⟨_, .assign _, _, _, _, _⟩ :: _)); refine j_assign rfl rfl ?_)) | refine j_nil ?_ | (show J _ _ _ (Code.wp _ _ _); first | refine j_seq ?_ | refine j_region ?_) | refine j_then ?_)
      refine j_assertF (u := 117) rfl rfl rfl rfl ?_
      repeat' (first | (show J _ _ _ (runS _ _ _ _ (⟨_, _, _, _, _, none⟩ :: _)); first | (show J _ _ _ (runS _ _ _ _ (⟨_, .move _, _, _, _, _⟩ :: _)); refine j_move rfl rfl ?_) | (show J _ _ _ (runS _ _ _ _ (⟨_, .assign _, _, _, _, _⟩ :: _)); refine j_assign rfl rfl ?_) | (show J _ _ _ (runS _ _ _ _ (⟨_, .extract _ _, _, _, _, _⟩ :: _)); refine j_extract rfl rfl rfl ?_)) | refine j_nil ?_ | (show J _ _ _ (Code.wp _ _ _); first | refine j_seq ?_ | refine j_region ?_ | (show J _ _ _ (Code.wp _ (.cond _ _ _) _); (refine j_false rfl ?_)) | refine j_skip ?_) | refine j_then ?_)
      refine j_assertF (u := 117) rfl rfl rfl rfl ?_
      repeat' (first | (show J _ _ _ (runS _ _ _ _ (⟨_, _, _, _, _, none⟩ :: _)); first | (show J _ _ _ (runS _ _ _ _ (⟨_, .move _, _, _, _, _⟩ :: _)); refine j_move rfl rfl ?_) | (show J _ _ _ (runS _ _ _ _ (⟨_, .assign _, _, _, _, _⟩ :: _)); refine j_assign rfl rfl ?_) | (show J _ _ _ (runS _ _ _ _ (⟨_, .extract _ _, _, _, _, _⟩ :: _)); refine j_extract rfl rfl rfl ?_)) | refine j_nil ?_ | (show J _ _ _ (Code.wp _ _ _); first | refine j_seq ?_ | refine j_region ?_ | (show J _ _ _ (Code.wp _ (.cond _ _ _) _); (refine j_false rfl ?_)) | refine j_skip ?_) | refine j_then ?_)
      refine j_assertT rfl rfl rfl ?_
      repeat' (first | (show J _ _ _ (runS _ _ _ _ (⟨_, _, _, _, _, none⟩ :: _)); first | (show J _ _ _ (runS _ _ _ _ (⟨_, .move _, _, _, _, _⟩ :: _)); refine j_move rfl rfl ?_) | (show J _ _ _ (runS _ _ _ _ (⟨_, .assign _, _, _, _, _⟩ :: _)); refine j_assign rfl rfl ?_) | (show J _ _ _ (runS _ _ _ _ (⟨_, .unOp _ _ _, _, _, _, _⟩ :: _)); ((refine j_not_b rfl rfl ?_))) | (show J _ _ _ (runS _ _ _ _ (⟨_, .extract _ _, _, _, _, _⟩ :: _)); refine j_extract rfl rfl rfl ?_)) | refine j_nil ?_ | (show J _ _ _ (Code.wp _ _ _); first | refine j_seq ?_ | refine j_region ?_ | (show J _ _ _ (Code.wp _ (.cond _ _ _) _); (refine j_false rfl ?_)) | refine j_skip ?_) | refine j_then ?_)
      (refine j_lit1 (α := UInt8) rfl rfl 3 rfl (by decide) rfl (fun bh => ?_); refine j_append (α := UInt8) (ls := ls) (ms := [3]) rfl rfl rfl (fun _ _ => (by repeat constructor)) (M := [blk bh 5 [.int .u8 3]]) (by repeat ((exact .refl))) (sees_blk1 (3 : UInt8)) rfl rfl (by unfold maxLen; simp only [List.length_singleton]; omega) (by simp only [List.length_singleton]; omega) rfl (fun a6 c6 _ => ?_))
      repeat' ((show J _ _ _ (runS _ _ _ _ (⟨_, _, _, _, _, none⟩ :: _)); first | (show J _ _ _ (runS _ _ _ _ (⟨_, .move _, _, _, _, _⟩ :: _)); refine j_move rfl rfl ?_) | (show J _ _ _ (runS _ _ _ _ (⟨_, .call ⟨.builtin .len, _, _⟩, _, _, _, _⟩ :: _)); ((refine j_len rfl rfl ?_))) | (show J _ _ _ (runS _ _ _ _ (⟨_, .convert _ _ _, _, _, _, _⟩ :: _)); refine j_conv rfl rfl ?_)))
      rw [u64n (by omega)]
      obtain ⟨p0, hp0⟩ : ∃ p0, p0 = ls ++ [3] := ⟨_, rfl⟩
      have hl1 : p0.length = ls.length + 1 := by rw [hp0]; simp
      rw [← hp0]
      (refine j_call rfl rfl (wcount_spec a6 c6 p0 l.length (by omega) (by omega)) ((by repeat (first | exact .refl | apply Pk.cons | constructor))) rfl (fun v M N h hN => ?_); obtain ⟨a7, c7, rfl, rfl⟩ := h; (try simp only [List.nil_append, List.cons_append, List.append_assoc] at hN); subst hN)
      repeat' (first | (show J _ _ _ (runS _ _ _ _ (⟨_, _, _, _, _, none⟩ :: _)); first | (show J _ _ _ (runS _ _ _ _ (⟨_, .move _, _, _, _, _⟩ :: _)); refine j_move rfl rfl ?_) | (show J _ _ _ (runS _ _ _ _ (⟨_, .assign _, _, _, _, _⟩ :: _)); refine j_assign rfl rfl ?_) | (show J _ _ _ (runS _ _ _ _ (⟨_, .call ⟨.builtin .len, _, _⟩, _, _, _, _⟩ :: _)); ((refine j_len rfl rfl ?_)))) | refine j_nil ?_ | (show J _ _ _ (Code.wp _ _ _); first | refine j_seq ?_ | refine j_region ?_ | refine j_block ?_) | refine j_then ?_)
      obtain ⟨pre, hpre⟩ : ∃ pre, pre = p0 ++ cntB l.length := ⟨_, rfl⟩
      have hpl : pre.length = ls.length + 1 + (cntB l.length).length := by rw [hpre, List.length_append, hl1]
      rw [← hpre]
      refine j_loop (X := { q : Nat × Option Addr × Nat // q.1 ≤ l.length }) (fun q => [(0, .slice q.1.2.1 (pre ++ encL (l.take q.1.1)).length q.1.2.2), (60, .slice a2 l.length c2), (61, .int .i64 (l.length : Nat)), (62, .int .i64 (q.1.1 : Nat))]) (fun q => Sl 5 q.1.2.1 q.1.2.2 (pre ++ encL (l.take q.1.1)) :: Lp ++ F) (fun q => l.length - q.1.1) ⟨(0, a7, c7), by omega⟩ ⟨by dsimp only; rw [List.take_zero, encL, List.append_nil]; rfl, rfl, rfl, rfl, trivial⟩ (by dsimp only; rw [List.take_zero, encL, List.append_nil]; exact (by repeat (first | exact .refl | apply Pk.cons | refine .drop ?_ | constructor))) (fun q => ?_)
      obtain ⟨⟨i, a8, c8⟩, hi⟩ := q
      dsimp only at hi ⊢
      have hle := encL_le l i
      repeat' (first | (show J _ _ _ (runS _ _ _ _ (⟨_, _, _, _, _, none⟩ :: _)); first | (show J _ _ _ (runS _ _ _ _ (⟨_, .move _, _, _, _, _⟩ :: _)); refine j_move rfl rfl ?_) | (show J _ _ _ (runS _ _ _ _ (⟨_, .binOp _ _ _ _ _, _, _, _, _⟩ :: _)); ((refine j_bin rfl rfl rfl rfl ?_))) | (show J _ _ _ (runS _ _ _ _ (⟨_, .assign _, _, _, _, _⟩ :: _)); refine j_assign rfl rfl ?_)) | refine j_nil ?_ | (show J _ _ _ (Code.wp _ _ _); first | refine j_seq ?_ | refine j_region ?_ | refine j_block ?_ | (show J _ _ _ (Code.wp _ (.cond _ _ _) _); (refine j_dec rfl (fun h => ?_) (fun h => ?_))) | refine j_ret ?_ | refine j_skip ?_ | refine j_exit ?_) | refine j_then ?_ | refine j_then_exit ?_ | refine j_inb_here ?_)
      · have hi2 : i < l.length := by omega
        obtain ⟨t, hti⟩ : ∃ t, l[i]? = some t := ⟨l[i], List.getElem?_eq_getElem hi2⟩
        have hte := (List.getElem?_eq_some_iff.1 hti).2
        have hst := encL_snoc l hti
        have hle2 := encL_le l (i + 1)
        rw [hst, List.length_append] at hle2
        have hl8 : (pre ++ encL (l.take i)).length = pre.length + (encL (l.take i)).length := by simp
        refine j_idx (α := AV) (ls := l.map avOf) (M := Lp) rfl rfl (by repeat (first | exact .refl | refine .drop ?_)) (fun w hw => (by have := hv w hw; simp only [OkA] at this; exact this.1)) (by simp) i rfl (by simpa using hi2) rfl (fun b3 o3 ha3 hc3 => ?_)
        refine j_loadv (M := Lp) (v := valA t) rfl rfl (by repeat (first | exact .refl | refine .drop ?_)) (fun w hw => hc3 0 _ (by rw [List.getElem_map, hte]; rfl) w hw) rfl ?_
        repeat' (first | (show J _ _ _ (runS _ _ _ _ (⟨_, _, _, _, _, none⟩ :: _)); first | (show J _ _ _ (runS _ _ _ _ (⟨_, .move _, _, _, _, _⟩ :: _)); refine j_move rfl rfl ?_) | (show J _ _ _ (runS _ _ _ _ (⟨_, .assign _, _, _, _, _⟩ :: _)); refine j_assign rfl rfl ?_)) | refine j_nil ?_ | (show J _ _ _ (Code.wp _ _ _); (refine j_region ?_)) | refine j_then ?_)
        have hszt : szA t ≤ N := by have := szL_at hti; omega
        have hvt : Sees Lp (fun w => OkA w t) := fun w hw => okL_at hti (by have := hv w hw; simp only [OkA] at this; exact this.2)
        (refine j_call rfl rfl (ih t hszt a8 c8 (pre ++ encL (l.take i)) Lp hvt (fitL_at hti hfit) (by omega)) ((by repeat ((exact .refl)))) rfl (fun v M N h hN => ?_); obtain ⟨a9, c9, rfl, rfl⟩ := h; (try simp only [List.nil_append, List.cons_append, List.append_assoc] at hN); subst hN)
        rw [List.append_assoc, ← hst]
        repeat' (first | (show J _ _ _ (runS _ _ _ _ (⟨_, _, _, _, _, none⟩ :: _)); first | (show J _ _ _ (runS _ _ _ _ (⟨_, .move _, _, _, _, _⟩ :: _)); refine j_move rfl rfl ?_) | (show J _ _ _ (runS _ _ _ _ (⟨_, .binOp _ _ _ _ _, _, _, _, _⟩ :: _)); ((refine j_add rfl rfl (by omega) rfl ?_))) | (show J _ _ _ (runS _ _ _ _ (⟨_, .assign _, _, _, _, _⟩ :: _)); refine j_assign rfl rfl ?_)) | refine j_nil ?_ | (show J _ _ _ (Code.wp _ _ _); (refine j_region ?_)) | refine j_then ?_ | refine j_inb ?_)
        exact j_round ⟨(i + 1, a9, c9), hi2⟩ (by dsimp only; omega) ⟨rfl, rfl, rfl, rfl, trivial⟩ (by repeat ((exact .refl)))
      · rw [List.take_of_length_le (by omega)]
        have e : pre ++ encL l = ls ++ (3 :: cntB l.length ++ encL l) := by rw [hpre, hp0]; simp
        rw [e]
        exact j_ret1 (M := Sl 5 a8 c8 (ls ++ (3 :: cntB l.length ++ encL l)) :: Lp) rfl rfl (by repeat ((exact .refl))) ⟨a8, c8, rfl, rfl⟩
end Go.Proofs.Ytnmfpgfgjjmfhaa
