/- Values made of items. -/
import Derived.Test.YtnmfpgfgjjmfhaaWi4
set_option linter.unusedVariables false
set_option linter.unusedSimpArgs false
set_option maxRecDepth 100000
namespace Go.Proofs.Ytnmfpgfgjjmfhaa
open Go
attribute [local irreducible] Exit.then Exit.inBlock Code.wp runS bodyPost postF J runT cutQ cutR Tr Sat blk Sl Old Star Ex Pu
attribute [local irreducible] AnyH AnyHL

theorem Sees.cons {A : HP} {M : List HP} {p : World → Prop} (h : Sees M p) : Sees (A :: M) p := fun w hw => h w hw.tail
theorem cntIL_len : ∀ (l : List IA), l.length ≤ cntIL l
  | [] => by simp
  | t :: l => by have := cntIL_len l; have := cntI_pos t; rw [cntIL]; simp; omega
theorem fitL_snoc : ∀ (l : List AT) (t : AT), FitL l → FitA t → FitL (l ++ [t])
  | [], t, _, h2 => by simp only [List.nil_append, FitL]; exact ⟨h2, trivial⟩
  | x :: l, t, h, h2 => by
    simp only [List.cons_append, FitL] at h ⊢
    exact ⟨h.1, fitL_snoc l t h.2 h2⟩
theorem wof_spec : ∀ (N : Nat) (it : IA), cntI it ≤ N → ∀ (deep : Nat) (bl left : Nat) (Lp : List HP), Sees Lp (fun w => OkI w it) → FitI deep it → cntI it ≤ left → left ≤ 1000000 →
    Tr Try.prog 51 [.agg (cellsI it).toArray, .int .i64 (deep : Nat), .pointer (some ⟨bl, 0, none⟩)] (blk bl 3 [.int .i64 (left : Nat)] :: Lp) (fun v M => ∃ t : AT, v = valA t ∧ plA t = plI it ∧ FitA t ∧ M = blk bl 3 [.int .i64 ((left - cntI it : Nat) : Nat)] :: AnyH t :: Lp) := by
  intro N
  induction N with
  | zero => intro it h; have := cntI_pos it; omega
  | succ N ih =>
    intro it hN deep bl left Lp hv hfit hl hlb
    cases it with
    | num n a c =>
      simp only [FitI] at hfit
      simp only [cntI] at hl ⊢
      change Tr Try.prog 51 [.agg #[.int .i64 1, .int .i64 n, .string ⟨#[]⟩, .slice a 0 c], .int .i64 (deep : Nat), .pointer (some ⟨bl, 0, none⟩)] _ _
      refine tr_enter Try.func51 rfl Try.ntmps51 rfl (fun F => ?_)
      repeat' (first | (show J _ _ _ (runS _ _ _ _ (⟨_, _, _, _, _, none⟩ :: _)); first | (show J _ _ _ (runS _ _ _ _ (⟨_, .move _, _, _, _, _⟩ :: _)); refine j_move rfl rfl ?_) | (show J _ _ _ (runS _ _ _ _ (⟨_, .load _ _, _, _, _, _⟩ :: _)); ((refine j_load rfl rfl (by repeat constructor) rfl rfl ?_))) | (show J _ _ _ (runS _ _ _ _ (⟨_, .fieldAddr _ _ _, _, _, _, _⟩ :: _)); refine j_fieldAddr rfl rfl ?_) | (show J _ _ _ (runS _ _ _ _ (⟨_, .nilCheck _, _, _, _, _⟩ :: _)); ((refine j_nilCheck rfl rfl ?_))) | (show J _ _ _ (runS _ _ _ _ (⟨_, .binOp _ _ _ _ _, _, _, _, _⟩ :: _)); (first | refine j_sub_ rfl rfl (by omega) rfl ?_ | refine j_bin rfl rfl rfl rfl ?_ | refine j_eqstr rfl rfl rfl ?_)) | (show J _ _ _ (runS _ _ _ _ (⟨_, .assign _, _, _, _, _⟩ :: _)); refine j_assign rfl rfl ?_) | (show J _ _ _ (runS _ _ _ _ (⟨_, .store _ _ _, _, _, _, _⟩ :: _)); ((refine j_set rfl rfl rfl (by rfl) (by repeat constructor) (by repeat constructor) ?_))) | (show J _ _ _ (runS _ _ _ _ (⟨_, .pick _ _ _, _, _, _, _⟩ :: _)); (first | refine j_pick_t rfl rfl rfl ?_ | refine j_pick_f rfl rfl rfl ?_)) | (show J _ _ _ (runS _ _ _ _ (⟨_, .call ⟨.builtin .len, _, _⟩, _, _, _, _⟩ :: _)); ((refine j_len rfl rfl ?_))) | (show J _ _ _ (runS _ _ _ _ (⟨_, .build _ _, _, _, _, _⟩ :: _)); refine j_build rfl (by repeat constructor) rfl ?_) | (show J _ _ _ (runS _ _ _ _ (⟨_, .box _ _, _, _, _, _⟩ :: _)); refine j_box rfl rfl (fun b => ?_))) | refine j_nil ?_ | (show J _ _ _ (runS _ _ _ _ (⟨_, _, _, _, _, some _⟩ :: _)); first | refine j_gno_u rfl rfl rfl rfl ?_ | refine j_gun_u rfl rfl rfl ?_ | refine j_gyes rfl rfl rfl ?_ | refine j_gsplit_dec rfl rfl (fun h => ?_) (fun h => ?_)) | (show J _ _ _ (Code.wp _ _ _); first | refine j_seq ?_ | refine j_region ?_ | refine j_block ?_ | (show J _ _ _ (Code.wp _ (.cond _ _ _) _); first | refine j_true rfl ?_ | refine j_false rfl ?_) | refine j_skip ?_) | refine j_then ?_)
      · exfalso; omega
      · exfalso; omega
      refine j_mkIface rfl rfl rfl ?_
      repeat' (first | (show J _ _ _ (runS _ _ _ _ (⟨_, _, _, _, _, none⟩ :: _)); (show J _ _ _ (runS _ _ _ _ (⟨_, .assign _, _, _, _, _⟩ :: _)); refine j_assign rfl rfl ?_)) | refine j_nil ?_ | (show J _ _ _ (Code.wp _ _ _); (refine j_ret ?_)) | refine j_then ?_ | refine j_then_ret ?_ | refine j_inb_ret ?_)
      have e : ((left - 1 : Nat) : Int) = (left : Int) - 1 := by omega
      rw [e]
      refine j_any0 (t := .num n) (fun w S => by simp only [OwnS]) ?_
      exact j_ret1 (M := blk bl 3 [.int .i64 ((left : Int) - 1)] :: AnyH (.num n) :: Lp) rfl rfl (by repeat (first | exact .refl | apply Pk.cons | refine .drop ?_ | constructor)) ⟨.num n, rfl, rfl, (by simp only [FitA]; exact hfit.2), rfl⟩
    | txt s a c =>
      simp only [FitI] at hfit
      simp only [cntI] at hl ⊢
      change Tr Try.prog 51 [.agg #[.int .i64 2, .int .i64 0, .string s, .slice a 0 c], .int .i64 (deep : Nat), .pointer (some ⟨bl, 0, none⟩)] _ _
      refine tr_enter Try.func51 rfl Try.ntmps51 rfl (fun F => ?_)
      repeat' (first | (show J _ _ _ (runS _ _ _ _ (⟨_, _, _, _, _, none⟩ :: _)); first | (show J _ _ _ (runS _ _ _ _ (⟨_, .move _, _, _, _, _⟩ :: _)); refine j_move rfl rfl ?_) | (show J _ _ _ (runS _ _ _ _ (⟨_, .load _ _, _, _, _, _⟩ :: _)); ((refine j_load rfl rfl (by repeat constructor) rfl rfl ?_))) | (show J _ _ _ (runS _ _ _ _ (⟨_, .fieldAddr _ _ _, _, _, _, _⟩ :: _)); refine j_fieldAddr rfl rfl ?_) | (show J _ _ _ (runS _ _ _ _ (⟨_, .nilCheck _, _, _, _, _⟩ :: _)); ((refine j_nilCheck rfl rfl ?_))) | (show J _ _ _ (runS _ _ _ _ (⟨_, .binOp _ _ _ _ _, _, _, _, _⟩ :: _)); (first | refine j_sub_ rfl rfl (by omega) rfl ?_ | refine j_bin rfl rfl rfl rfl ?_)) | (show J _ _ _ (runS _ _ _ _ (⟨_, .assign _, _, _, _, _⟩ :: _)); refine j_assign rfl rfl ?_) | (show J _ _ _ (runS _ _ _ _ (⟨_, .store _ _ _, _, _, _, _⟩ :: _)); ((refine j_set rfl rfl rfl (by rfl) (by repeat constructor) (by repeat constructor) ?_))) | (show J _ _ _ (runS _ _ _ _ (⟨_, .pick _ _ _, _, _, _, _⟩ :: _)); (first | refine j_pick_t rfl rfl rfl ?_ | refine j_pick_f rfl rfl rfl ?_)) | (show J _ _ _ (runS _ _ _ _ (⟨_, .call ⟨.builtin .len, _, _⟩, _, _, _, _⟩ :: _)); (first | refine j_len rfl rfl ?_ | refine j_len_str rfl rfl ?_)) | (show J _ _ _ (runS _ _ _ _ (⟨_, .build _ _, _, _, _, _⟩ :: _)); refine j_build rfl (by repeat constructor) rfl ?_) | (show J _ _ _ (runS _ _ _ _ (⟨_, .box _ _, _, _, _, _⟩ :: _)); refine j_box rfl rfl (fun b => ?_))) | refine j_nil ?_ | (show J _ _ _ (runS _ _ _ _ (⟨_, _, _, _, _, some _⟩ :: _)); first | refine j_gno_u rfl rfl rfl rfl ?_ | refine j_gun_u rfl rfl rfl ?_ | refine j_gyes rfl rfl rfl ?_ | refine j_gsplit_dec rfl rfl (fun h => ?_) (fun h => ?_)) | (show J _ _ _ (Code.wp _ _ _); first | refine j_seq ?_ | refine j_region ?_ | refine j_block ?_ | (show J _ _ _ (Code.wp _ (.cond _ _ _) _); first | refine j_true rfl ?_ | refine j_false rfl ?_ | refine j_dec rfl (fun h => ?_) (fun h => ?_)) | refine j_skip ?_) | refine j_then ?_)
      · exfalso; omega
      · exfalso; omega
      · exfalso; omega
      refine j_mkIface rfl rfl rfl ?_
      repeat' (first | (show J _ _ _ (runS _ _ _ _ (⟨_, _, _, _, _, none⟩ :: _)); (show J _ _ _ (runS _ _ _ _ (⟨_, .assign _, _, _, _, _⟩ :: _)); refine j_assign rfl rfl ?_)) | refine j_nil ?_ | (show J _ _ _ (Code.wp _ _ _); (refine j_ret ?_)) | refine j_then ?_ | refine j_then_ret ?_ | refine j_inb_ret ?_)
      have e : ((left - 1 : Nat) : Int) = (left : Int) - 1 := by omega
      rw [e]
      refine j_any0 (t := .txt s) (fun w S => by simp only [OwnS]) ?_
      exact j_ret1 (M := blk bl 3 [.int .i64 ((left : Int) - 1)] :: AnyH (.txt s) :: Lp) rfl rfl (by repeat (first | exact .refl | apply Pk.cons | refine .drop ?_ | constructor)) ⟨.txt s, rfl, rfl, (by simp only [FitA]), rfl⟩
    | lst a c l =>
      simp only [FitI] at hfit
      simp only [cntI] at hl hN ⊢
      change Tr Try.prog 51 [.agg #[.int .i64 3, .int .i64 0, .string ⟨#[]⟩, .slice a l.length c], .int .i64 (deep : Nat), .pointer (some ⟨bl, 0, none⟩)] _ _
      refine tr_enter Try.func51 rfl Try.ntmps51 rfl (fun F => ?_)
      repeat' (first | (show J _ _ _ (runS _ _ _ _ (⟨_, _, _, _, _, none⟩ :: _)); first | (show J _ _ _ (runS _ _ _ _ (⟨_, .move _, _, _, _, _⟩ :: _)); refine j_move rfl rfl ?_) | (show J _ _ _ (runS _ _ _ _ (⟨_, .load _ _, _, _, _, _⟩ :: _)); ((refine j_load rfl rfl (by repeat constructor) rfl rfl ?_))) | (show J _ _ _ (runS _ _ _ _ (⟨_, .fieldAddr _ _ _, _, _, _, _⟩ :: _)); refine j_fieldAddr rfl rfl ?_) | (show J _ _ _ (runS _ _ _ _ (⟨_, .nilCheck _, _, _, _, _⟩ :: _)); ((refine j_nilCheck rfl rfl ?_))) | (show J _ _ _ (runS _ _ _ _ (⟨_, .binOp _ _ _ _ _, _, _, _, _⟩ :: _)); (first | refine j_sub_ rfl rfl (by omega) rfl ?_ | refine j_bin rfl rfl rfl rfl ?_)) | (show J _ _ _ (runS _ _ _ _ (⟨_, .assign _, _, _, _, _⟩ :: _)); refine j_assign rfl rfl ?_) | (show J _ _ _ (runS _ _ _ _ (⟨_, .store _ _ _, _, _, _, _⟩ :: _)); ((refine j_set rfl rfl rfl (by rfl) (by repeat constructor) (by repeat constructor) ?_))) | (show J _ _ _ (runS _ _ _ _ (⟨_, .pick _ _ _, _, _, _, _⟩ :: _)); (first | refine j_pick_t rfl rfl rfl ?_ | refine j_pick_f rfl rfl rfl ?_)) | (show J _ _ _ (runS _ _ _ _ (⟨_, .build _ _, _, _, _, _⟩ :: _)); refine j_build rfl (by repeat constructor) rfl ?_) | (show J _ _ _ (runS _ _ _ _ (⟨_, .box _ _, _, _, _, _⟩ :: _)); refine j_box rfl rfl (fun b => ?_))) | refine j_nil ?_ | (show J _ _ _ (runS _ _ _ _ (⟨_, _, _, _, _, some _⟩ :: _)); first | refine j_gno_u rfl rfl rfl rfl ?_ | refine j_gun_u rfl rfl rfl ?_ | refine j_gyes rfl rfl rfl ?_ | refine j_gsplit_dec rfl rfl (fun h => ?_) (fun h => ?_)) | (show J _ _ _ (Code.wp _ _ _); first | refine j_seq ?_ | refine j_region ?_ | refine j_block ?_ | (show J _ _ _ (Code.wp _ (.cond _ _ _) _); first | refine j_true rfl ?_ | refine j_false rfl ?_) | refine j_skip ?_) | refine j_then ?_ | refine j_inb ?_)
      · exfalso; omega
      · exfalso; omega
      obtain ⟨b0', hb0'⟩ : ∃ b', b' = b := ⟨_, rfl⟩
      have hlen := cntIL_len l
      refine j_lit0 (α := AV) rfl (fun b0 => ?_)
      refine j_anyL0 ?_
      repeat' (first | (show J _ _ _ (runS _ _ _ _ (⟨_, _, _, _, _, none⟩ :: _)); first | (show J _ _ _ (runS _ _ _ _ (⟨_, .move _, _, _, _, _⟩ :: _)); refine j_move rfl rfl ?_) | (show J _ _ _ (runS _ _ _ _ (⟨_, .load _ _, _, _, _, _⟩ :: _)); ((refine j_load rfl rfl (by repeat constructor) rfl rfl ?_))) | (show J _ _ _ (runS _ _ _ _ (⟨_, .fieldAddr _ _ _, _, _, _, _⟩ :: _)); refine j_fieldAddr rfl rfl ?_) | (show J _ _ _ (runS _ _ _ _ (⟨_, .assign _, _, _, _, _⟩ :: _)); refine j_assign rfl rfl ?_) | (show J _ _ _ (runS _ _ _ _ (⟨_, .call ⟨.builtin .len, _, _⟩, _, _, _, _⟩ :: _)); ((refine j_len rfl rfl ?_)))) | refine j_nil ?_ | (show J _ _ _ (Code.wp _ _ _); first | refine j_seq ?_ | refine j_region ?_ | refine j_block ?_) | refine j_then ?_)
      have e : (left : Int) - 1 = ((left - 1 - cntIL (l.take 0) : Nat) : Int) := by simp [cntIL]; omega
      rw [e]
      subst hb0'
      refine j_loop (X := { q : Nat × List AT × Option Addr × Nat // (q.1 ≤ l.length ∧ q.2.1.length = q.1) ∧ plL q.2.1 = plIL (l.take q.1) ∧ FitL q.2.1 }) (fun q => [(1, .int .i64 (deep : Nat)), (2, .pointer (some ⟨bl, 0, none⟩)), (3, .pointer (some ⟨b0', 0, none⟩)), (7, .slice q.1.2.2.1 (q.1.2.1.map avOf).length q.1.2.2.2), (74, .slice a l.length c), (75, .int .i64 (l.length : Nat)), (76, .int .i64 (q.1.1 : Nat))]) (fun q => Sl 20 q.1.2.2.1 q.1.2.2.2 (q.1.2.1.map avOf) :: AnyHL q.1.2.1 :: blk bl 3 [.int .i64 ((left - 1 - cntIL (l.take q.1.1) : Nat) : Nat)] :: blk b0' 64 [.int .i64 3, .int .i64 0, .string ⟨#[]⟩, .slice a l.length c] :: Lp ++ F) (fun q => l.length - q.1.1) ⟨(0, [], some ⟨b0, 0, none⟩, 0), ⟨by omega, rfl⟩, rfl, by simp only [FitL]⟩ ⟨rfl, rfl, rfl, rfl, rfl, rfl, rfl, trivial⟩ (by repeat (first | exact .refl | apply Pk.cons | constructor)) (fun q => ?_)
      obtain ⟨⟨i, ts, a7, c7⟩, ⟨hi, htl⟩, hpl, hft⟩ := q
      dsimp only at hi htl hpl hft ⊢
      have hci := cntIL_le l i
      repeat' (first | (show J _ _ _ (runS _ _ _ _ (⟨_, _, _, _, _, none⟩ :: _)); first | (show J _ _ _ (runS _ _ _ _ (⟨_, .move _, _, _, _, _⟩ :: _)); refine j_move rfl rfl ?_) | (show J _ _ _ (runS _ _ _ _ (⟨_, .load _ _, _, _, _, _⟩ :: _)); ((refine j_load rfl rfl (by repeat constructor) rfl rfl ?_))) | (show J _ _ _ (runS _ _ _ _ (⟨_, .fieldAddr _ _ _, _, _, _, _⟩ :: _)); refine j_fieldAddr rfl rfl ?_) | (show J _ _ _ (runS _ _ _ _ (⟨_, .binOp _ _ _ _ _, _, _, _, _⟩ :: _)); (first | refine j_bin rfl rfl rfl rfl ?_ | refine j_nestr rfl rfl rfl ?_)) | (show J _ _ _ (runS _ _ _ _ (⟨_, .pick _ _ _, _, _, _, _⟩ :: _)); ((refine j_pick_f rfl rfl rfl ?_)))) | refine j_nil ?_ | (show J _ _ _ (runS _ _ _ _ (⟨_, _, _, _, _, some _⟩ :: _)); (refine j_gyes rfl rfl rfl ?_)) | (show J _ _ _ (Code.wp _ _ _); first | refine j_seq ?_ | refine j_region ?_ | refine j_block ?_ | (show J _ _ _ (Code.wp _ (.cond _ _ _) _); first | refine j_false rfl ?_ | refine j_dec rfl (fun h => ?_) (fun h => ?_)) | refine j_skip ?_ | refine j_exit ?_) | refine j_then ?_ | refine j_then_exit ?_ | refine j_inb_here ?_)
      · have hi2 : i < l.length := by omega
        obtain ⟨t, hti⟩ : ∃ t, l[i]? = some t := ⟨l[i], List.getElem?_eq_getElem hi2⟩
        have hte := (List.getElem?_eq_some_iff.1 hti).2
        have hct := cntIL_at hti
        have hci2 := cntIL_le l (i + 1)
        have hvl : Sees Lp (fun w => Vw w a l) := fun w hw => (by have := hv w hw; simp only [OkI] at this; exact this.1)
        have hvt : Sees Lp (fun w => OkI w t) := fun w hw => (by have := hv w hw; simp only [OkI] at this; exact okIL_at hti this.2)
        have hcn : cntI t ≤ N := by omega
        have hcl : cntI t ≤ left - 1 - cntIL (l.take i) := by omega
        have hft2 : FitI (deep + 1) t := fitIL_at hti hfit.2
        obtain ⟨k0, n0, s0, a0, m0, c0, hx⟩ : ∃ k0 n0 s0 a0 m0 c0, cellsI t = [.int .i64 k0, .int .i64 n0, .string s0, .slice a0 m0 c0] := by cases t <;> exact ⟨_, _, _, _, _, _, rfl⟩
        refine j_idx (α := IA) (M := Lp) rfl rfl (by repeat (first | exact .refl | refine .drop ?_)) hvl rfl i rfl hi2 rfl (fun b3 o3 ha3 hc3 => ?_)
        refine j_loadsv (M := Lp) [.int .i64 k0, .int .i64 n0, .string s0, .slice a0 m0 c0] rfl rfl rfl (by repeat (first | exact .refl | refine .drop ?_)) (fun w hw q v hq => hc3 q v (by rw [hte]; show (cellsI t)[q]? = some v; rw [hx]; exact hq) w hw) rfl ?_
        repeat' (first | (show J _ _ _ (runS _ _ _ _ (⟨_, _, _, _, _, none⟩ :: _)); first | (show J _ _ _ (runS _ _ _ _ (⟨_, .move _, _, _, _, _⟩ :: _)); refine j_move rfl rfl ?_) | (show J _ _ _ (runS _ _ _ _ (⟨_, .store _ _ _, _, _, _, _⟩ :: _)); ((refine j_sets rfl rfl rfl (by rfl) (by repeat constructor) (by repeat constructor) (by rfl) ?_))) | (show J _ _ _ (runS _ _ _ _ (⟨_, .alloc _, _, _, _, _⟩ :: _)); refine j_alloc rfl (fun b => ?_))) | refine j_nil ?_ | (show J _ _ _ (Code.wp _ _ _); (refine j_region ?_)) | refine j_then ?_)
        refine j_loads [_, _, _, _] rfl rfl rfl (by repeat constructor) ⟨rfl, rfl, rfl, rfl, trivial⟩ rfl ?_
        repeat' ((show J _ _ _ (runS _ _ _ _ (⟨_, _, _, _, _, none⟩ :: _)); first | (show J _ _ _ (runS _ _ _ _ (⟨_, .move _, _, _, _, _⟩ :: _)); refine j_move rfl rfl ?_) | (show J _ _ _ (runS _ _ _ _ (⟨_, .binOp _ _ _ _ _, _, _, _, _⟩ :: _)); ((refine j_add rfl rfl (by omega) rfl ?_)))))
        have e2 : (Value.agg #[.int .i64 k0, .int .i64 n0, .string s0, .slice a0 m0 c0]) = .agg (cellsI t).toArray := by rw [hx]
        have e3 : (deep : Int) + 1 = ((deep + 1 : Nat) : Int) := by omega
        rw [e2, e3]
        (refine j_call rfl rfl (ih t hcn (deep + 1) bl (left - 1 - cntIL (l.take i)) (Sl 20 a7 c7 (ts.map avOf) :: AnyHL ts :: blk b0' 64 [.int .i64 3, .int .i64 0, .string ⟨#[]⟩, .slice a l.length c] :: Lp) hvt.cons.cons.cons hft2 hcl (by omega)) ((by repeat (first | exact .refl | apply Pk.cons | refine .drop ?_ | constructor))) rfl (fun v M N h hN => ?_); obtain ⟨t', rfl, hpt, hft', rfl⟩ := h; (try simp only [List.nil_append, List.cons_append, List.append_assoc] at hN); subst hN)
        refine j_lit1 (α := AV) rfl rfl (avOf t') (by cases t' <;> rfl) (by decide) rfl (fun bh => ?_)
        refine j_append (α := AV) (ls := ts.map avOf) (ms := [avOf t']) rfl rfl rfl (fun _ _ => (by repeat constructor)) (M := [blk bh 20 [valA t']]) (by repeat ((exact .refl))) (sees_blk1 (avOf t')) rfl rfl (by unfold maxLen; simp; omega) (by simp; omega) rfl (fun a8 c8 _ => ?_)
        refine j_tk (A := AnyHL ts) (by repeat constructor) (j_tk (A := AnyH t') (by repeat constructor) (j_anySnoc ?_))
        rw [show ts.map avOf ++ [avOf t'] = (ts ++ [t']).map avOf from by rw [List.map_append]; rfl, show left - 1 - cntIL (l.take i) - cntI t = left - 1 - cntIL (l.take (i + 1)) from by omega]
        repeat' (first | (show J _ _ _ (runS _ _ _ _ (⟨_, _, _, _, _, none⟩ :: _)); first | (show J _ _ _ (runS _ _ _ _ (⟨_, .move _, _, _, _, _⟩ :: _)); refine j_move rfl rfl ?_) | (show J _ _ _ (runS _ _ _ _ (⟨_, .binOp _ _ _ _ _, _, _, _, _⟩ :: _)); ((refine j_add rfl rfl (by omega) rfl ?_))) | (show J _ _ _ (runS _ _ _ _ (⟨_, .assign _, _, _, _, _⟩ :: _)); refine j_assign rfl rfl ?_)) | refine j_nil ?_ | (show J _ _ _ (Code.wp _ _ _); (refine j_region ?_)) | refine j_then ?_ | refine j_inb ?_)
        refine j_round ⟨(i + 1, ts ++ [t'], a8, c8), ⟨hi2, by dsimp only; rw [List.length_append, htl]; rfl⟩, ?_, ?_⟩ (by dsimp only; omega) ⟨rfl, rfl, rfl, rfl, rfl, rfl, rfl, trivial⟩ (by repeat (first | exact .refl | apply Pk.cons | refine .drop ?_ | constructor))
        · dsimp only; rw [plL_append, hpl, plIL_snoc l hti, plL, plL, hpt]
        · exact fitL_snoc ts t' hft hft'
      · have he : i = l.length := by omega
        subst he
        rw [List.take_length] at hpl ⊢
        refine j_mkIface rfl rfl rfl ?_
        repeat' (first | (show J _ _ _ (runS _ _ _ _ (⟨_, _, _, _, _, none⟩ :: _)); (show J _ _ _ (runS _ _ _ _ (⟨_, .assign _, _, _, _, _⟩ :: _)); refine j_assign rfl rfl ?_)) | refine j_nil ?_ | (show J _ _ _ (Code.wp _ _ _); (refine j_ret ?_)) | refine j_then ?_)
        refine j_tk (A := AnyHL ts) (by repeat constructor) (j_tk (A := Sl 20 a7 c7 (ts.map avOf)) (by repeat constructor) (j_anyLst ?_))
        rw [show left - 1 - cntIL l = left - (1 + cntIL l) from by omega]
        have e4 : valA (.lst a7 c7 ts) = .iface 117 (.slice a7 (ts.map avOf).length c7) := by rw [List.length_map]; rfl
        exact j_ret1 (M := blk bl 3 [.int .i64 ((left - (1 + cntIL l) : Nat) : Nat)] :: AnyH (.lst a7 c7 ts) :: Lp) rfl rfl (by repeat (first | exact .refl | apply Pk.cons | refine .drop ?_ | constructor)) ⟨.lst a7 c7 ts, e4.symm, (by simp only [plA, plI, hpl]), (by simp only [FitA]; exact hft), rfl⟩
end Go.Proofs.Ytnmfpgfgjjmfhaa
