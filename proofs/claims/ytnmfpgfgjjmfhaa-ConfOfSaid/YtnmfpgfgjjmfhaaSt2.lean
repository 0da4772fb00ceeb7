/- state.Decode of awake's entries. -/
import Derived.Test.YtnmfpgfgjjmfhaaSt1
set_option linter.unusedVariables false
set_option linter.unusedSimpArgs false
set_option maxRecDepth 100000
namespace Go.Proofs.Ytnmfpgfgjjmfhaa
open Go
attribute [local irreducible] Exit.then Exit.inBlock Code.wp runS bodyPost postF J runT cutQ cutR Tr Sat blk Sl Old Star Ex Pu
attribute [local irreducible] ItH ItHL

def zord : List Value := [.int .i64 0, .int .i64 0, .int .i64 0, .int .i64 0, .int .i64 0, .string ⟨#[]⟩, .string ⟨#[]⟩, .int .i64 0, .int .i64 0, .int .i64 0, .int .i64 0]
theorem sDecode0_spec (Lp : List HP) : Tr Try.prog 27 [.string ⟨#[]⟩] Lp (fun v M => v = .tuple #[.agg zord.toArray, .int .i64 0] ∧ M = Lp) := by
  unfold zord
  refine tr_enter Try.func27 rfl Try.ntmps27 rfl (fun F => ?_)
  repeat' (first | (show J _ _ _ (runS _ _ _ _ (⟨_, _, _, _, _, none⟩ :: _)); first | (show J _ _ _ (runS _ _ _ _ (⟨_, .move _, _, _, _, _⟩ :: _)); refine j_move rfl rfl ?_) | (show J _ _ _ (runS _ _ _ _ (⟨_, .binOp _ _ _ _ _, _, _, _, _⟩ :: _)); ((refine j_eqstr rfl rfl rfl ?_))) | (show J _ _ _ (runS _ _ _ _ (⟨_, .assign _, _, _, _, _⟩ :: _)); refine j_assign rfl rfl ?_) | (show J _ _ _ (runS _ _ _ _ (⟨_, .store _ _ _, _, _, _, _⟩ :: _)); ((refine j_sets rfl rfl rfl (by rfl) (by repeat constructor) (by repeat constructor) (by rfl) ?_))) | (show J _ _ _ (runS _ _ _ _ (⟨_, .build _ _, _, _, _, _⟩ :: _)); refine j_build rfl (by repeat constructor) rfl ?_) | (show J _ _ _ (runS _ _ _ _ (⟨_, .alloc _, _, _, _, _⟩ :: _)); refine j_alloc rfl (fun b => ?_))) | refine j_nil ?_ | (show J _ _ _ (Code.wp _ _ _); first | refine j_seq ?_ | refine j_region ?_ | (show J _ _ _ (Code.wp _ (.cond _ _ _) _); (refine j_true rfl ?_)) | refine j_ret ?_) | refine j_then ?_ | refine j_then_ret ?_)
  · exact j_retc2 [.int .i64 0, .int .i64 0, .int .i64 0, .int .i64 0, .int .i64 0, .string ⟨#[]⟩, .string ⟨#[]⟩, .int .i64 0, .int .i64 0, .int .i64 0, .int .i64 0] rfl rfl rfl (by repeat constructor) rfl ⟨rfl, rfl, rfl, rfl, rfl, rfl, rfl, rfl, rfl, rfl, rfl, trivial⟩ rfl (M := Lp) (by repeat (first | exact .refl | refine .drop ?_)) ⟨rfl, rfl⟩

theorem item6 : itemP 12 4096 data6 = some (.lst [.num 4, .num 0, .num 0, .num 6, .txt ⟨#[]⟩], 4090, []) := by rfl
theorem pl_num {t : IA} {n : Int} (h : plI t = .num n) : ∃ a c, t = .num n a c := by
  cases t with
  | num m a c => simp [plI] at h; subst h; exact ⟨a, c, rfl⟩
  | txt s a c => simp [plI] at h
  | lst a c l => simp [plI] at h
theorem pl_txt {t : IA} {s : ByteArray} (h : plI t = .txt s) : ∃ a c, t = .txt s a c := by
  cases t with
  | num m a c => simp [plI] at h
  | txt s a c => simp [plI] at h; subst h; exact ⟨a, c, rfl⟩
  | lst a c l => simp [plI] at h
theorem pl_lst {t : IA} {l : List Va} (h : plI t = .lst l) : ∃ a c ts, t = .lst a c ts ∧ plIL ts = l := by
  cases t with
  | num m a c => simp [plI] at h
  | txt s a c => simp [plI] at h
  | lst a c ts => simp [plI] at h; exact ⟨a, c, ts, rfl, h⟩
theorem plIL_cons {ts : List IA} {v : Va} {l : List Va} (h : plIL ts = v :: l) : ∃ t r, ts = t :: r ∧ plI t = v ∧ plIL r = l := by
  cases ts with
  | nil => simp [plIL] at h
  | cons t r => simp [plIL] at h; exact ⟨t, r, rfl, h.1, h.2⟩
theorem plIL_nil {ts : List IA} (h : plIL ts = []) : ts = [] := by
  cases ts with
  | nil => rfl
  | cons t r => simp [plIL] at h

theorem sDecode6_spec (Lp : List HP) : Tr Try.prog 27 [.string ⟨data6.toArray⟩] Lp (fun v M => v = .tuple #[.agg ord6.toArray, .int .i64 0] ∧ M = Lp) := by
  refine tr_enter Try.func27 rfl Try.ntmps27 rfl (fun F => ?_)
  repeat' (first | (show J _ _ _ (runS _ _ _ _ (⟨_, _, _, _, _, none⟩ :: _)); first | (show J _ _ _ (runS _ _ _ _ (⟨_, .move _, _, _, _, _⟩ :: _)); refine j_move rfl rfl ?_) | (show J _ _ _ (runS _ _ _ _ (⟨_, .binOp _ _ _ _ _, _, _, _, _⟩ :: _)); ((refine j_eqstr rfl rfl rfl ?_))) | (show J _ _ _ (runS _ _ _ _ (⟨_, .assign _, _, _, _, _⟩ :: _)); refine j_assign rfl rfl ?_) | (show J _ _ _ (runS _ _ _ _ (⟨_, .alloc _, _, _, _, _⟩ :: _)); refine j_alloc rfl (fun b => ?_))) | refine j_nil ?_ | (show J _ _ _ (Code.wp _ _ _); first | refine j_seq ?_ | refine j_region ?_ | (show J _ _ _ (Code.wp _ (.cond _ _ _) _); (refine j_false rfl ?_)) | refine j_skip ?_) | refine j_then ?_)
  obtain ⟨bo, hbo⟩ : ∃ b', b' = b := ⟨_, rfl⟩
  subst hbo
  refine j_strBytes rfl rfl (fun b1 c1 junk hc1 => ?_)
  (refine j_call rfl rfl (wdec_spec (some ⟨b1, 0, none⟩) c1 data6 hc1 [blk b1 5 (byteRow data6 junk)] sees_row) ((by repeat ((exact .refl)))) rfl (fun v M N h hN => ?_); obtain (⟨t, left', h1, rfl, rfl⟩ | ⟨h1, rfl, rfl⟩) := h; (try simp only [List.nil_append, List.cons_append, List.append_assoc] at hN); subst hN)
  rotate_left
  · exact absurd item6 (h1 _ _)
  rw [item6] at h1
  simp only [Option.some.injEq, Prod.mk.injEq] at h1
  obtain ⟨ta, tc, ts, rfl, ht⟩ := pl_lst h1.1.symm
  obtain ⟨t0, r0, rfl, e0, ht⟩ := plIL_cons ht
  obtain ⟨t1, r1, rfl, e1, ht⟩ := plIL_cons ht
  obtain ⟨t2, r2, rfl, e2, ht⟩ := plIL_cons ht
  obtain ⟨t3, r3, rfl, e3, ht⟩ := plIL_cons ht
  obtain ⟨t4, r4, rfl, e4, ht⟩ := plIL_cons ht
  obtain rfl := plIL_nil ht
  obtain ⟨a0, c0, rfl⟩ := pl_num e0
  obtain ⟨a1, c1', rfl⟩ := pl_num e1
  obtain ⟨a2, c2, rfl⟩ := pl_num e2
  obtain ⟨a3, c3, rfl⟩ := pl_num e3
  obtain ⟨a4, c4, rfl⟩ := pl_txt e4
  obtain ⟨ts, hts⟩ : ∃ ts : List IA, ts = [.num 4 a0 c0, .num 0 a1 c1', .num 0 a2 c2, .num 6 a3 c3, .txt ⟨#[]⟩ a4 c4] := ⟨_, rfl⟩
  rw [← hts]
  have hvw : Sees [ItH (.lst ta tc ts)] (fun w => Vw w ta ts) := fun w hw => by
    have := sees_it .z w hw
    simp only [OkI] at this
    exact this.1
  have hlen : ts.length = 5 := by rw [hts]; rfl
  rw [show cellsI (IA.lst ta tc ts) = [.int .i64 3, .int .i64 0, .string ⟨#[]⟩, .slice ta 5 tc] from by rw [← hlen]; rfl]
  repeat' (first | (show J _ _ _ (runS _ _ _ _ (⟨_, _, _, _, _, none⟩ :: _)); first | (show J _ _ _ (runS _ _ _ _ (⟨_, .move _, _, _, _, _⟩ :: _)); refine j_move rfl rfl ?_) | (show J _ _ _ (runS _ _ _ _ (⟨_, .load _ _, _, _, _, _⟩ :: _)); ((refine j_load rfl rfl (by repeat constructor) rfl rfl ?_))) | (show J _ _ _ (runS _ _ _ _ (⟨_, .fieldAddr _ _ _, _, _, _, _⟩ :: _)); refine j_fieldAddr rfl rfl ?_) | (show J _ _ _ (runS _ _ _ _ (⟨_, .binOp _ _ _ _ _, _, _, _, _⟩ :: _)); ((refine j_bin rfl rfl rfl rfl ?_))) | (show J _ _ _ (runS _ _ _ _ (⟨_, .assign _, _, _, _, _⟩ :: _)); refine j_assign rfl rfl ?_) | (show J _ _ _ (runS _ _ _ _ (⟨_, .store _ _ _, _, _, _, _⟩ :: _)); ((refine j_sets rfl rfl rfl (by rfl) (by repeat constructor) (by repeat constructor) (by rfl) ?_))) | (show J _ _ _ (runS _ _ _ _ (⟨_, .pick _ _ _, _, _, _, _⟩ :: _)); ((refine j_pick_f rfl rfl rfl ?_))) | (show J _ _ _ (runS _ _ _ _ (⟨_, .call ⟨.builtin .len, _, _⟩, _, _, _, _⟩ :: _)); ((refine j_len rfl rfl ?_))) | (show J _ _ _ (runS _ _ _ _ (⟨_, .extract _ _, _, _, _, _⟩ :: _)); refine j_extract rfl rfl rfl ?_) | (show J _ _ _ (runS _ _ _ _ (⟨_, .alloc _, _, _, _, _⟩ :: _)); refine j_alloc rfl (fun b => ?_))) | refine j_nil ?_ | (show J _ _ _ (runS _ _ _ _ (⟨_, _, _, _, _, some _⟩ :: _)); (refine j_gyes rfl rfl rfl ?_)) | (show J _ _ _ (Code.wp _ _ _); first | refine j_seq ?_ | refine j_region ?_) | refine j_then ?_)
  refine j_sees (M := [ItH (.lst ta tc ts)]) (by repeat (first | exact .refl | apply Pk.cons | constructor)) (sees_itlen .z) (fun w h => h) (fun hlc => ?_)
  refine j_idx (α := IA) (M := [ItH (.lst ta tc ts)]) rfl rfl (by repeat (first | exact .refl | apply Pk.cons | constructor)) hvw hlen.symm 4 rfl (by rw [hlen]; decide) rfl (fun b3 o3 ha3 hc3 => ?_)
  repeat' (first | (show J _ _ _ (runS _ _ _ _ (⟨_, _, _, _, _, none⟩ :: _)); (show J _ _ _ (runS _ _ _ _ (⟨_, .fieldAddr _ _ _, _, _, _, _⟩ :: _)); refine j_fieldAddr rfl rfl ?_)) | (show J _ _ _ (runS _ _ _ _ (⟨_, _, _, _, _, some _⟩ :: _)); (refine j_gyes rfl rfl rfl ?_)))
  refine j_loadv (M := [ItH (.lst ta tc ts)]) (v := .int .i64 2) rfl rfl (by repeat (first | exact .refl | apply Pk.cons | constructor)) (fun w hw => hc3 0 (.int .i64 2) (by subst hts; rfl) w hw) rfl ?_
  repeat' (first | (show J _ _ _ (runS _ _ _ _ (⟨_, _, _, _, _, none⟩ :: _)); first | (show J _ _ _ (runS _ _ _ _ (⟨_, .load _ _, _, _, _, _⟩ :: _)); ((refine j_load rfl rfl (by repeat constructor) rfl rfl ?_))) | (show J _ _ _ (runS _ _ _ _ (⟨_, .fieldAddr _ _ _, _, _, _, _⟩ :: _)); refine j_fieldAddr rfl rfl ?_) | (show J _ _ _ (runS _ _ _ _ (⟨_, .binOp _ _ _ _ _, _, _, _, _⟩ :: _)); ((refine j_bin rfl rfl rfl rfl ?_))) | (show J _ _ _ (runS _ _ _ _ (⟨_, .pick _ _ _, _, _, _, _⟩ :: _)); ((refine j_pick_f rfl rfl rfl ?_)))) | refine j_nil ?_ | (show J _ _ _ (runS _ _ _ _ (⟨_, _, _, _, _, some _⟩ :: _)); (refine j_gyes rfl rfl rfl ?_)) | (show J _ _ _ (Code.wp _ _ _); first | refine j_seq ?_ | refine j_region ?_ | (show J _ _ _ (Code.wp _ (.cond _ _ _) _); (refine j_false rfl ?_)) | refine j_skip ?_) | refine j_then ?_)
  refine j_slice 0 4 tc rfl (.inl ⟨rfl, rfl⟩) (.inr ⟨_, _, _, rfl, rfl, rfl, by omega⟩) (.inl ⟨rfl, rfl⟩) rfl ?_
  have hvw4 : Sees [ItH (.lst ta tc ts)] (fun w => Vw w (offA ta 0 tc 4) (ts.take 4)) := fun w hw => by
    have := (hvw.off 0 tc hlc.1).take 4 w hw
    rw [List.drop_zero] at this
    exact this
  have hl4 : (ts.take 4).length = 4 := by rw [List.length_take]; omega
  have hn4 : ∀ i (hi : i < (ts.take 4).length), ∃ n a c, (ts.take 4)[i] = .num n a c := by
    rw [hts]
    intro i hi
    have hi4 : i < 4 := by simpa using hi
    match i, hi4 with
    | 0, _ => exact ⟨_, _, _, rfl⟩
    | 1, _ => exact ⟨_, _, _, rfl⟩
    | 2, _ => exact ⟨_, _, _, rfl⟩
    | 3, _ => exact ⟨_, _, _, rfl⟩
  repeat' (first | (show J _ _ _ (runS _ _ _ _ (⟨_, _, _, _, _, none⟩ :: _)); first | (show J _ _ _ (runS _ _ _ _ (⟨_, .move _, _, _, _, _⟩ :: _)); refine j_move rfl rfl ?_) | (show J _ _ _ (runS _ _ _ _ (⟨_, .call ⟨.builtin .len, _, _⟩, _, _, _, _⟩ :: _)); ((refine j_len rfl rfl ?_)))) | refine j_nil ?_ | (show J _ _ _ (Code.wp _ _ _); (refine j_block ?_)) | refine j_then ?_)
  refine j_loop (X := { q : Nat // q ≤ 4 }) (fun q => [(2, .pointer (some ⟨bo, 0, none⟩)), (4, .pointer (some ⟨b, 0, none⟩)), (43, .slice (offA ta 0 tc 4) (4 - 0) (tc - 0)), (44, .int .i64 (4 : Nat)), (45, .int .i64 (q.1 : Nat))]) (fun q => blk b 64 [.int .i64 3, .int .i64 0, .string ⟨#[]⟩, .slice ta 5 tc] :: ItH (.lst ta tc ts) :: blk bo 46 zord :: (Lp ++ F)) (fun q => 4 - q.1) ⟨0, by omega⟩ ⟨rfl, rfl, rfl, rfl, rfl, trivial⟩ (by repeat (first | exact .refl | apply Pk.cons | refine .drop ?_ | constructor)) (fun q => ?_)
  obtain ⟨i, hi⟩ := q
  dsimp only
  repeat' (first | (show J _ _ _ (runS _ _ _ _ (⟨_, _, _, _, _, none⟩ :: _)); first | (show J _ _ _ (runS _ _ _ _ (⟨_, .load _ _, _, _, _, _⟩ :: _)); ((refine j_load rfl rfl (by repeat constructor) rfl rfl ?_))) | (show J _ _ _ (runS _ _ _ _ (⟨_, .fieldAddr _ _ _, _, _, _, _⟩ :: _)); refine j_fieldAddr rfl rfl ?_) | (show J _ _ _ (runS _ _ _ _ (⟨_, .binOp _ _ _ _ _, _, _, _, _⟩ :: _)); ((refine j_bin rfl rfl rfl rfl ?_)))) | refine j_nil ?_ | (show J _ _ _ (Code.wp _ _ _); first | refine j_seq ?_ | refine j_region ?_ | refine j_block ?_ | (show J _ _ _ (Code.wp _ (.cond _ _ _) _); (refine j_dec rfl (fun h => ?_) (fun h => ?_))) | refine j_skip ?_ | refine j_exit ?_) | refine j_then ?_ | refine j_then_exit ?_ | refine j_inb_here ?_)
  · have hi4 : i < (ts.take 4).length := by omega
    obtain ⟨n9, a9, c9, h9⟩ := hn4 i hi4
    refine j_idx (α := IA) (M := [ItH (.lst ta tc ts)]) rfl rfl (by repeat (first | exact .refl | apply Pk.cons | constructor)) hvw4 hl4.symm i rfl hi4 rfl (fun b3 o3 ha3 hc3 => ?_)
    refine j_loadsv (M := [ItH (.lst ta tc ts)]) [.int .i64 1, .int .i64 n9, .string ⟨#[]⟩, .slice a9 0 c9] rfl rfl rfl (by repeat (first | exact .refl | apply Pk.cons | constructor)) (fun w hw q v hq => hc3 q v (by rw [h9]; exact hq) w hw) rfl ?_
    repeat' (first | (show J _ _ _ (runS _ _ _ _ (⟨_, _, _, _, _, none⟩ :: _)); first | (show J _ _ _ (runS _ _ _ _ (⟨_, .move _, _, _, _, _⟩ :: _)); refine j_move rfl rfl ?_) | (show J _ _ _ (runS _ _ _ _ (⟨_, .load _ _, _, _, _, _⟩ :: _)); ((refine j_load rfl rfl (by repeat constructor) rfl rfl ?_))) | (show J _ _ _ (runS _ _ _ _ (⟨_, .fieldAddr _ _ _, _, _, _, _⟩ :: _)); refine j_fieldAddr rfl rfl ?_) | (show J _ _ _ (runS _ _ _ _ (⟨_, .binOp _ _ _ _ _, _, _, _, _⟩ :: _)); (first | refine j_add rfl rfl (by omega) rfl ?_ | refine j_bin rfl rfl rfl rfl ?_)) | (show J _ _ _ (runS _ _ _ _ (⟨_, .store _ _ _, _, _, _, _⟩ :: _)); ((refine j_sets rfl rfl rfl (by rfl) (by repeat constructor) (by repeat constructor) (by rfl) ?_))) | (show J _ _ _ (runS _ _ _ _ (⟨_, .alloc _, _, _, _, _⟩ :: _)); refine j_alloc rfl (fun b => ?_))) | refine j_nil ?_ | (show J _ _ _ (Code.wp _ _ _); first | refine j_seq ?_ | refine j_region ?_ | (show J _ _ _ (Code.wp _ (.cond _ _ _) _); (refine j_false rfl ?_)) | refine j_skip ?_) | refine j_then ?_ | refine j_inb ?_)
    exact j_round ⟨i + 1, by omega⟩ (by dsimp only; omega) ⟨rfl, rfl, rfl, rfl, rfl, trivial⟩ (by repeat (first | exact .refl | apply Pk.cons | refine .drop ?_ | constructor))
  refine j_idx (α := IA) (M := [ItH (.lst ta tc ts)]) rfl rfl (by repeat (first | exact .refl | apply Pk.cons | constructor)) hvw hlen.symm 0 rfl (by rw [hlen]; decide) rfl (fun b3 o3 ha3 hc3 => ?_)
  repeat' ((show J _ _ _ (runS _ _ _ _ (⟨_, _, _, _, _, none⟩ :: _)); (show J _ _ _ (runS _ _ _ _ (⟨_, .fieldAddr _ _ _, _, _, _, _⟩ :: _)); refine j_fieldAddr rfl rfl ?_)))
  refine j_loadv (M := [ItH (.lst ta tc ts)]) (v := .int .i64 4) rfl rfl (by repeat (first | exact .refl | apply Pk.cons | constructor)) (fun w hw => hc3 1 (.int .i64 4) (by subst hts; rfl) w hw) rfl ?_
  (refine j_call rfl rfl (swithin_spec 4 1 5 []) (.refl) rfl (fun v M N h hN => ?_); obtain ⟨rfl, rfl⟩ := h; (try simp only [List.nil_append, List.cons_append, List.append_assoc] at hN); subst hN)
  repeat' (first | (show J _ _ _ (runS _ _ _ _ (⟨_, _, _, _, _, none⟩ :: _)); first | (show J _ _ _ (runS _ _ _ _ (⟨_, .load _ _, _, _, _, _⟩ :: _)); ((refine j_load rfl rfl (by repeat constructor) rfl rfl ?_))) | (show J _ _ _ (runS _ _ _ _ (⟨_, .fieldAddr _ _ _, _, _, _, _⟩ :: _)); refine j_fieldAddr rfl rfl ?_) | (show J _ _ _ (runS _ _ _ _ (⟨_, .unOp _ _ _, _, _, _, _⟩ :: _)); ((refine j_not rfl rfl ?_)))) | refine j_nil ?_ | (show J _ _ _ (Code.wp _ _ _); first | refine j_seq ?_ | (show J _ _ _ (Code.wp _ (.cond _ _ _) _); (refine j_false rfl ?_)) | refine j_skip ?_ | refine j_draw (by decide +kernel) ?_) | refine j_then ?_)
  refine j_idx (α := IA) (M := [ItH (.lst ta tc ts)]) rfl rfl (by repeat (first | exact .refl | apply Pk.cons | constructor)) hvw hlen.symm 0 rfl (by rw [hlen]; decide) rfl (fun b3 o3 ha3 hc3 => ?_)
  repeat' ((show J _ _ _ (runS _ _ _ _ (⟨_, _, _, _, _, none⟩ :: _)); (show J _ _ _ (runS _ _ _ _ (⟨_, .fieldAddr _ _ _, _, _, _, _⟩ :: _)); refine j_fieldAddr rfl rfl ?_)))
  refine j_loadv (M := [ItH (.lst ta tc ts)]) (v := .int .i64 4) rfl rfl (by repeat (first | exact .refl | apply Pk.cons | constructor)) (fun w hw => hc3 1 (.int .i64 4) (by subst hts; rfl) w hw) rfl ?_
  repeat' ((show J _ _ _ (runS _ _ _ _ (⟨_, _, _, _, _, none⟩ :: _)); first | (show J _ _ _ (runS _ _ _ _ (⟨_, .load _ _, _, _, _, _⟩ :: _)); ((refine j_load rfl rfl (by repeat constructor) rfl rfl ?_))) | (show J _ _ _ (runS _ _ _ _ (⟨_, .fieldAddr _ _ _, _, _, _, _⟩ :: _)); refine j_fieldAddr rfl rfl ?_)))
  refine j_idx (α := IA) (M := [ItH (.lst ta tc ts)]) rfl rfl (by repeat (first | exact .refl | apply Pk.cons | constructor)) hvw hlen.symm 1 rfl (by rw [hlen]; decide) rfl (fun b3 o3 ha3 hc3 => ?_)
  repeat' ((show J _ _ _ (runS _ _ _ _ (⟨_, _, _, _, _, none⟩ :: _)); (show J _ _ _ (runS _ _ _ _ (⟨_, .fieldAddr _ _ _, _, _, _, _⟩ :: _)); refine j_fieldAddr rfl rfl ?_)))
  refine j_loadv (M := [ItH (.lst ta tc ts)]) (v := .int .i64 0) rfl rfl (by repeat (first | exact .refl | apply Pk.cons | constructor)) (fun w hw => hc3 1 (.int .i64 0) (by subst hts; rfl) w hw) rfl ?_
  repeat' ((show J _ _ _ (runS _ _ _ _ (⟨_, _, _, _, _, none⟩ :: _)); first | (show J _ _ _ (runS _ _ _ _ (⟨_, .load _ _, _, _, _, _⟩ :: _)); ((refine j_load rfl rfl (by repeat constructor) rfl rfl ?_))) | (show J _ _ _ (runS _ _ _ _ (⟨_, .fieldAddr _ _ _, _, _, _, _⟩ :: _)); refine j_fieldAddr rfl rfl ?_)))
  refine j_idx (α := IA) (M := [ItH (.lst ta tc ts)]) rfl rfl (by repeat (first | exact .refl | apply Pk.cons | constructor)) hvw hlen.symm 2 rfl (by rw [hlen]; decide) rfl (fun b3 o3 ha3 hc3 => ?_)
  repeat' ((show J _ _ _ (runS _ _ _ _ (⟨_, _, _, _, _, none⟩ :: _)); (show J _ _ _ (runS _ _ _ _ (⟨_, .fieldAddr _ _ _, _, _, _, _⟩ :: _)); refine j_fieldAddr rfl rfl ?_)))
  refine j_loadv (M := [ItH (.lst ta tc ts)]) (v := .int .i64 0) rfl rfl (by repeat (first | exact .refl | apply Pk.cons | constructor)) (fun w hw => hc3 1 (.int .i64 0) (by subst hts; rfl) w hw) rfl ?_
  repeat' ((show J _ _ _ (runS _ _ _ _ (⟨_, _, _, _, _, none⟩ :: _)); first | (show J _ _ _ (runS _ _ _ _ (⟨_, .load _ _, _, _, _, _⟩ :: _)); ((refine j_load rfl rfl (by repeat constructor) rfl rfl ?_))) | (show J _ _ _ (runS _ _ _ _ (⟨_, .fieldAddr _ _ _, _, _, _, _⟩ :: _)); refine j_fieldAddr rfl rfl ?_)))
  refine j_idx (α := IA) (M := [ItH (.lst ta tc ts)]) rfl rfl (by repeat (first | exact .refl | apply Pk.cons | constructor)) hvw hlen.symm 3 rfl (by rw [hlen]; decide) rfl (fun b3 o3 ha3 hc3 => ?_)
  repeat' ((show J _ _ _ (runS _ _ _ _ (⟨_, _, _, _, _, none⟩ :: _)); (show J _ _ _ (runS _ _ _ _ (⟨_, .fieldAddr _ _ _, _, _, _, _⟩ :: _)); refine j_fieldAddr rfl rfl ?_)))
  refine j_loadv (M := [ItH (.lst ta tc ts)]) (v := .int .i64 6) rfl rfl (by repeat (first | exact .refl | apply Pk.cons | constructor)) (fun w hw => hc3 1 (.int .i64 6) (by subst hts; rfl) w hw) rfl ?_
  repeat' (first | (show J _ _ _ (runS _ _ _ _ (⟨_, _, _, _, _, none⟩ :: _)); first | (show J _ _ _ (runS _ _ _ _ (⟨_, .load _ _, _, _, _, _⟩ :: _)); ((refine j_load rfl rfl (by repeat constructor) rfl rfl ?_))) | (show J _ _ _ (runS _ _ _ _ (⟨_, .fieldAddr _ _ _, _, _, _, _⟩ :: _)); refine j_fieldAddr rfl rfl ?_) | (show J _ _ _ (runS _ _ _ _ (⟨_, .store _ _ _, _, _, _, _⟩ :: _)); ((refine j_sets rfl rfl rfl (by rfl) (by repeat constructor) (by repeat constructor) (by rfl) ?_))) | (show J _ _ _ (runS _ _ _ _ (⟨_, .build _ _, _, _, _, _⟩ :: _)); refine j_build rfl (by repeat constructor) rfl ?_) | (show J _ _ _ (runS _ _ _ _ (⟨_, .alloc _, _, _, _, _⟩ :: _)); refine j_alloc rfl (fun b => ?_))) | refine j_nil ?_ | (show J _ _ _ (Code.wp _ _ _); first | refine j_seq ?_ | refine j_region ?_) | refine j_then ?_)
  refine j_idx (α := IA) (M := [ItH (.lst ta tc ts)]) rfl rfl (by repeat (first | exact .refl | apply Pk.cons | constructor)) hvw hlen.symm 4 rfl (by rw [hlen]; decide) rfl (fun b3 o3 ha3 hc3 => ?_)
  repeat' ((show J _ _ _ (runS _ _ _ _ (⟨_, _, _, _, _, none⟩ :: _)); (show J _ _ _ (runS _ _ _ _ (⟨_, .fieldAddr _ _ _, _, _, _, _⟩ :: _)); refine j_fieldAddr rfl rfl ?_)))
  refine j_loadv (M := [ItH (.lst ta tc ts)]) (v := .string ⟨#[]⟩) rfl rfl (by repeat (first | exact .refl | apply Pk.cons | constructor)) (fun w hw => hc3 2 (.string ⟨#[]⟩) (by subst hts; rfl) w hw) rfl ?_
  repeat' (first | (show J _ _ _ (runS _ _ _ _ (⟨_, _, _, _, _, none⟩ :: _)); first | (show J _ _ _ (runS _ _ _ _ (⟨_, .load _ _, _, _, _, _⟩ :: _)); ((refine j_load rfl rfl (by repeat constructor) rfl rfl ?_))) | (show J _ _ _ (runS _ _ _ _ (⟨_, .fieldAddr _ _ _, _, _, _, _⟩ :: _)); refine j_fieldAddr rfl rfl ?_) | (show J _ _ _ (runS _ _ _ _ (⟨_, .assign _, _, _, _, _⟩ :: _)); refine j_assign rfl rfl ?_)) | refine j_nil ?_ | (show J _ _ _ (Code.wp _ _ _); first | refine j_seq ?_ | refine j_region ?_) | refine j_then ?_)
  (refine j_call rfl rfl (stells_spec 4 []) (.refl) rfl (fun v M N h hN => ?_); obtain ⟨rfl, rfl⟩ := h; (try simp only [List.nil_append, List.cons_append, List.append_assoc] at hN); subst hN)
  repeat' (first | (show J _ _ _ (runS _ _ _ _ (⟨_, _, _, _, _, none⟩ :: _)); first | (show J _ _ _ (runS _ _ _ _ (⟨_, .move _, _, _, _, _⟩ :: _)); refine j_move rfl rfl ?_) | (show J _ _ _ (runS _ _ _ _ (⟨_, .binOp _ _ _ _ _, _, _, _, _⟩ :: _)); ((refine j_nestr rfl rfl rfl ?_))) | (show J _ _ _ (runS _ _ _ _ (⟨_, .pick _ _ _, _, _, _, _⟩ :: _)); ((refine j_pick_f rfl rfl rfl ?_)))) | refine j_nil ?_ | (show J _ _ _ (runS _ _ _ _ (⟨_, _, _, _, _, some _⟩ :: _)); (refine j_gyes rfl rfl rfl ?_)) | (show J _ _ _ (Code.wp _ _ _); first | refine j_seq ?_ | refine j_region ?_ | (show J _ _ _ (Code.wp _ (.cond _ _ _) _); (refine j_false rfl ?_)) | refine j_skip ?_) | refine j_then ?_)
  refine j_loads [.int .i64 4, .int .i64 0, .int .i64 0, .int .i64 6, .int .i64 0, .string ⟨#[]⟩, .string ⟨#[]⟩, .int .i64 0, .int .i64 0, .int .i64 0, .int .i64 0] rfl rfl rfl (by repeat constructor) ⟨rfl, rfl, rfl, rfl, rfl, rfl, rfl, rfl, rfl, rfl, rfl, trivial⟩ rfl ?_
  repeat' (fail)
  (refine j_call rfl rfl (smay6_spec []) (.refl) rfl (fun v M N h hN => ?_); obtain ⟨rfl, rfl⟩ := h; (try simp only [List.nil_append, List.cons_append, List.append_assoc] at hN); subst hN)
  repeat' (first | (show J _ _ _ (runS _ _ _ _ (⟨_, _, _, _, _, none⟩ :: _)); (show J _ _ _ (runS _ _ _ _ (⟨_, .unOp _ _ _, _, _, _, _⟩ :: _)); ((refine j_not_b rfl rfl ?_)))) | refine j_nil ?_ | (show J _ _ _ (Code.wp _ _ _); first | refine j_seq ?_ | refine j_region ?_ | (show J _ _ _ (Code.wp _ (.cond _ _ _) _); (refine j_false rfl ?_)) | refine j_skip ?_) | refine j_then ?_)
  refine j_loads [.int .i64 4, .int .i64 0, .int .i64 0, .int .i64 6, .int .i64 0, .string ⟨#[]⟩, .string ⟨#[]⟩, .int .i64 0, .int .i64 0, .int .i64 0, .int .i64 0] rfl rfl rfl (by repeat constructor) ⟨rfl, rfl, rfl, rfl, rfl, rfl, rfl, rfl, rfl, rfl, rfl, trivial⟩ rfl ?_
  unfold zord
  repeat' (first | (show J _ _ _ (runS _ _ _ _ (⟨_, _, _, _, _, none⟩ :: _)); first | (show J _ _ _ (runS _ _ _ _ (⟨_, .assign _, _, _, _, _⟩ :: _)); refine j_assign rfl rfl ?_) | (show J _ _ _ (runS _ _ _ _ (⟨_, .store _ _ _, _, _, _, _⟩ :: _)); ((refine j_sets rfl rfl rfl (by rfl) (by repeat constructor) (by repeat constructor) (by rfl) ?_)))) | refine j_nil ?_ | (show J _ _ _ (Code.wp _ _ _); (refine j_ret ?_)) | refine j_then ?_)
  exact j_retc2 [.int .i64 4, .int .i64 0, .int .i64 0, .int .i64 6, .int .i64 0, .string ⟨#[]⟩, .string ⟨#[]⟩, .int .i64 0, .int .i64 0, .int .i64 0, .int .i64 0] rfl rfl rfl (by repeat constructor) rfl ⟨rfl, rfl, rfl, rfl, rfl, rfl, rfl, rfl, rfl, rfl, rfl, trivial⟩ rfl (M := Lp) (by repeat (first | exact .refl | refine .drop ?_)) ⟨rfl, rfl⟩
end Go.Proofs.Ytnmfpgfgjjmfhaa
