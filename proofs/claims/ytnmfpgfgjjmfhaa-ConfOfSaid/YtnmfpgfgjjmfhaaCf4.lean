/- conf: what is reached. -/
import Derived.Test.YtnmfpgfgjjmfhaaCfS
set_option linter.unusedVariables false
set_option linter.unusedSimpArgs false
set_option maxRecDepth 100000
namespace Go.Proofs.Ytnmfpgfgjjmfhaa
open Go
attribute [local irreducible] Exit.then Exit.inBlock Code.wp runS bodyPost postF J runT cutQ cutR Tr Sat blk Sl Old Star Ex Pu
theorem srt_len (l : List Int) : (srt l).length = l.length := List.length_mergeSort ..
def reachL (m : Int) (mt : List Int) : List Int := (memC m).map fun i => mt.getD i.toNat 0
def reachedC (m : Int) (mt : List Int) : Int := if (reachL m mt).length = 0 then 0 else max ((srt (reachL m mt)).getD (((reachL m mt).length - 1) / 2) 0) 0
theorem memC_lt {m i : Int} (h : i ∈ memC m) : 0 ≤ i ∧ i < 7 := by
  unfold memC at h
  split at h
  · obtain ⟨k, hk, rfl⟩ := List.mem_map.1 h
    have := List.mem_range.1 (List.mem_filter.1 hk).1
    omega
  · cases h

theorem creached_spec (hsort : SortS) (m : Int) (am : Option Addr) (cm : Nat) (mt : List Int) (Lp : List HP) (hv : Sees Lp (fun w => Vw w am mt)) : Tr Try.prog 19 [.int .i64 m, .slice am mt.length cm] Lp (fun r M => r = .int .i64 (reachedC m mt) ∧ M = Lp) := by
  refine tr_enter Try.func19 rfl Try.ntmps19 rfl (fun F => ?_)
  repeat' (first | (show J _ _ _ (runS _ _ _ _ (⟨_, _, _, _, _, none⟩ :: _)); first | (show J _ _ _ (runS _ _ _ _ (⟨_, .move _, _, _, _, _⟩ :: _)); refine j_move rfl rfl ?_) | (show J _ _ _ (runS _ _ _ _ (⟨_, .assign _, _, _, _, _⟩ :: _)); refine j_assign rfl rfl ?_)) | refine j_nil ?_ | (show J _ _ _ (Code.wp _ _ _); first | refine j_seq ?_ | refine j_region ?_) | refine j_then ?_)
  (refine j_call rfl rfl (clist_spec m Lp) ((by repeat ((exact .refl)))) rfl (fun v M N h hN => ?_); obtain ⟨a1, c1, rfl, rfl⟩ := h; (try simp only [List.nil_append, List.cons_append, List.append_assoc] at hN); subst hN)
  repeat' (first | (show J _ _ _ (runS _ _ _ _ (⟨_, _, _, _, _, none⟩ :: _)); first | (show J _ _ _ (runS _ _ _ _ (⟨_, .move _, _, _, _, _⟩ :: _)); refine j_move rfl rfl ?_) | (show J _ _ _ (runS _ _ _ _ (⟨_, .call ⟨.builtin .len, _, _⟩, _, _, _, _⟩ :: _)); ((refine j_len rfl rfl ?_)))) | refine j_nil ?_ | (show J _ _ _ (Code.wp _ _ _); (refine j_block ?_)) | refine j_then ?_)
  have hl7 := memC_len m
  refine j_sl0 (α := Int) 2 none ?_
  refine j_loop (X := { q : Nat × Option Addr × Nat // q.1 ≤ (memC m).length }) (fun q => [(0, .int .i64 m), (1, .slice am mt.length cm), (5, .slice q.1.2.1 (((memC m).take q.1.1).map fun i => mt.getD i.toNat 0).length q.1.2.2), (10, .slice a1 (memC m).length c1), (11, .int .i64 ((memC m).length : Nat)), (12, .int .i64 (q.1.1 : Nat))]) (fun q => Sl 2 q.1.2.1 q.1.2.2 (((memC m).take q.1.1).map fun i => mt.getD i.toNat 0) :: Sl 3 a1 c1 (memC m) :: (Lp ++ F)) (fun q => (memC m).length - q.1.1) ⟨(0, none, 0), by omega⟩ ⟨rfl, rfl, rfl, rfl, rfl, rfl, trivial⟩ (by repeat ((exact .refl))) (fun q => ?_)
  obtain ⟨⟨i, a, c⟩, hi⟩ := q
  dsimp only at hi ⊢
  repeat' (first | (show J _ _ _ (runS _ _ _ _ (⟨_, _, _, _, _, none⟩ :: _)); first | (show J _ _ _ (runS _ _ _ _ (⟨_, .move _, _, _, _, _⟩ :: _)); refine j_move rfl rfl ?_) | (show J _ _ _ (runS _ _ _ _ (⟨_, .binOp _ _ _ _ _, _, _, _, _⟩ :: _)); ((refine j_bin rfl rfl rfl rfl ?_))) | (show J _ _ _ (runS _ _ _ _ (⟨_, .assign _, _, _, _, _⟩ :: _)); refine j_assign rfl rfl ?_) | (show J _ _ _ (runS _ _ _ _ (⟨_, .call ⟨.builtin .len, _, _⟩, _, _, _, _⟩ :: _)); ((refine j_len rfl rfl ?_)))) | refine j_nil ?_ | (show J _ _ _ (Code.wp _ _ _); first | refine j_seq ?_ | refine j_region ?_ | refine j_block ?_ | (show J _ _ _ (Code.wp _ (.cond _ _ _) _); (refine j_dec rfl (fun h => ?_) (fun h => ?_))) | refine j_ret ?_ | refine j_skip ?_ | refine j_exit ?_) | refine j_then ?_ | refine j_then_ret ?_ | refine j_then_exit ?_ | refine j_inb_here ?_)
  · have hi2 : i < (memC m).length := by omega
    refine j_idx (α := Int) (M := [Sl 3 a1 c1 (memC m)]) rfl rfl (by repeat (first | exact .refl | apply Pk.cons | constructor)) sees_sl rfl i rfl hi2 rfl (fun b3 o3 ha3 hc3 => ?_)
    refine j_loadv (M := [Sl 3 a1 c1 (memC m)]) (v := .int .i64 (memC m)[i]) rfl rfl (by repeat (first | exact .refl | apply Pk.cons | constructor)) (hc3 0 _ rfl) rfl ?_
    obtain ⟨x, hx⟩ : ∃ x, x = (memC m)[i] := ⟨_, rfl⟩
    have hx7 := memC_lt (m := m) (i := x) (by rw [hx]; exact List.getElem_mem hi2)
    rw [← hx]
    obtain ⟨ls, hls⟩ : ∃ ls, ls = ((memC m).take i).map fun i => mt.getD i.toNat 0 := ⟨_, rfl⟩
    have hlen : ls.length ≤ 7 := by rw [hls, List.length_map, List.length_take]; omega
    have hst : (((memC m).take (i + 1)).map fun i => mt.getD i.toNat 0) = ls ++ [mt.getD x.toNat 0] := by
      rw [List.take_add_one, List.getElem?_eq_getElem hi2, List.map_append, ← hls, ← hx]; rfl
    rw [← hls]
    repeat' (first | (show J _ _ _ (runS _ _ _ _ (⟨_, _, _, _, _, none⟩ :: _)); first | (show J _ _ _ (runS _ _ _ _ (⟨_, .move _, _, _, _, _⟩ :: _)); refine j_move rfl rfl ?_) | (show J _ _ _ (runS _ _ _ _ (⟨_, .binOp _ _ _ _ _, _, _, _, _⟩ :: _)); ((refine j_bin rfl rfl rfl rfl ?_))) | (show J _ _ _ (runS _ _ _ _ (⟨_, .assign _, _, _, _, _⟩ :: _)); refine j_assign rfl rfl ?_) | (show J _ _ _ (runS _ _ _ _ (⟨_, .call ⟨.builtin .len, _, _⟩, _, _, _, _⟩ :: _)); ((refine j_len rfl rfl ?_)))) | refine j_nil ?_ | (show J _ _ _ (Code.wp _ _ _); first | refine j_seq ?_ | refine j_region ?_ | (show J _ _ _ (Code.wp _ (.cond _ _ _) _); (refine j_dec rfl (fun h => ?_) (fun h => ?_))) | refine j_skip ?_) | refine j_then ?_)
    · have hxl : x.toNat < mt.length := by omega
      refine j_idx (α := Int) (M := Lp) rfl rfl (by repeat (first | exact .refl | refine .drop ?_)) hv rfl x.toNat (by omega) hxl rfl (fun b4 o4 ha4 hc4 => ?_)
      refine j_loadv (M := Lp) (v := .int .i64 mt[x.toNat]) rfl rfl (by repeat (first | exact .refl | refine .drop ?_)) (hc4 0 _ rfl) rfl ?_
      rw [show mt[x.toNat] = mt.getD x.toNat 0 from by rw [List.getD_eq_getElem?_getD, List.getElem?_eq_getElem hxl]; rfl]
      repeat' (first | (show J _ _ _ (runS _ _ _ _ (⟨_, _, _, _, _, none⟩ :: _)); first | (show J _ _ _ (runS _ _ _ _ (⟨_, .move _, _, _, _, _⟩ :: _)); refine j_move rfl rfl ?_) | (show J _ _ _ (runS _ _ _ _ (⟨_, .assign _, _, _, _, _⟩ :: _)); refine j_assign rfl rfl ?_)) | refine j_nil ?_ | (show J _ _ _ (Code.wp _ _ _); (refine j_region ?_)) | refine j_then ?_)
      (refine j_lit1 (α := Int) rfl rfl (mt.getD x.toNat 0) rfl (by decide) rfl (fun bh => ?_); refine j_append (α := Int) (ls := ls) (ms := [mt.getD x.toNat 0]) rfl rfl rfl (fun _ _ => (by repeat constructor)) (M := [blk bh 2 [.int .i64 (mt.getD x.toNat 0)]]) (by repeat ((exact .refl))) (sees_blk1 (mt.getD x.toNat 0)) rfl rfl (by unfold maxLen; simp; omega) (by simp; omega) rfl (fun a9 c9 _ => ?_); rw [← hst])
      repeat' (first | (show J _ _ _ (runS _ _ _ _ (⟨_, _, _, _, _, none⟩ :: _)); first | (show J _ _ _ (runS _ _ _ _ (⟨_, .move _, _, _, _, _⟩ :: _)); refine j_move rfl rfl ?_) | (show J _ _ _ (runS _ _ _ _ (⟨_, .binOp _ _ _ _ _, _, _, _, _⟩ :: _)); ((refine j_add rfl rfl (by omega) rfl ?_))) | (show J _ _ _ (runS _ _ _ _ (⟨_, .assign _, _, _, _, _⟩ :: _)); refine j_assign rfl rfl ?_)) | refine j_nil ?_ | (show J _ _ _ (Code.wp _ _ _); (refine j_region ?_)) | refine j_then ?_ | refine j_inb ?_)
      exact j_round ⟨(i + 1, a9, c9), hi2⟩ (by dsimp only; omega) ⟨rfl, rfl, rfl, rfl, rfl, rfl, trivial⟩ (by repeat (first | exact .refl | apply Pk.cons | refine .drop ?_ | constructor))
    · have h0 : mt.getD x.toNat 0 = 0 := by rw [List.getD_eq_getElem?_getD, List.getElem?_eq_none (by omega)]; rfl
      rw [h0] at hst
      refine j_lit1 (α := Int) rfl rfl (0 : Int) rfl (by decide) rfl (fun bh => ?_)
      refine j_append (α := Int) (ls := ls) (ms := [(0 : Int)]) rfl rfl rfl (fun _ _ => (by repeat constructor)) (M := [blk bh 2 [.int .i64 0]]) (by repeat ((exact .refl))) (sees_blk1 (0 : Int)) rfl rfl (by unfold maxLen; simp; omega) (by simp; omega) rfl (fun a9 c9 _ => ?_)
      rw [← hst]
      repeat' (first | (show J _ _ _ (runS _ _ _ _ (⟨_, _, _, _, _, none⟩ :: _)); first | (show J _ _ _ (runS _ _ _ _ (⟨_, .move _, _, _, _, _⟩ :: _)); refine j_move rfl rfl ?_) | (show J _ _ _ (runS _ _ _ _ (⟨_, .binOp _ _ _ _ _, _, _, _, _⟩ :: _)); ((refine j_add rfl rfl (by omega) rfl ?_))) | (show J _ _ _ (runS _ _ _ _ (⟨_, .assign _, _, _, _, _⟩ :: _)); refine j_assign rfl rfl ?_)) | refine j_nil ?_ | (show J _ _ _ (Code.wp _ _ _); (refine j_region ?_)) | refine j_then ?_ | refine j_inb ?_)
      exact j_round ⟨(i + 1, a9, c9), hi2⟩ (by dsimp only; omega) ⟨rfl, rfl, rfl, rfl, rfl, rfl, trivial⟩ (by repeat (first | exact .refl | apply Pk.cons | refine .drop ?_ | constructor))
  · have hil : i = (memC m).length := by omega
    subst hil
    rw [List.take_length] at h
    refine j_ret1 (M := Lp) rfl rfl (by repeat (first | exact .refl | refine .drop ?_)) ⟨?_, rfl⟩
    unfold reachedC reachL
    rw [if_pos (by omega)]
  · have hil : i = (memC m).length := by omega
    subst hil
    rw [List.take_length] at h ⊢
    obtain ⟨ls, hls⟩ : ∃ ls, ls = reachL m mt := ⟨_, rfl⟩
    rw [show ((memC m).map fun i => mt.getD i.toNat 0) = ls from hls.symm] at h ⊢
    have hl : ls.length ≤ 7 := by rw [hls]; unfold reachL; rw [List.length_map]; omega
    (refine j_call rfl rfl (hsort a c ls (by omega)) ((by repeat ((exact .refl)))) rfl (fun v M N h hN => ?_); obtain ⟨rfl, rfl⟩ := h; (try simp only [List.nil_append, List.cons_append, List.append_assoc] at hN); subst hN)
    rw [← srt_len ls] at h ⊢
    repeat' (first | (show J _ _ _ (runS _ _ _ _ (⟨_, _, _, _, _, none⟩ :: _)); first | (show J _ _ _ (runS _ _ _ _ (⟨_, .move _, _, _, _, _⟩ :: _)); refine j_move rfl rfl ?_) | (show J _ _ _ (runS _ _ _ _ (⟨_, .binOp _ _ _ _ _, _, _, _, _⟩ :: _)); (first | refine j_bin rfl rfl rfl rfl ?_ | refine j_quo rfl rfl (by omega) rfl ?_)) | (show J _ _ _ (runS _ _ _ _ (⟨_, .call ⟨.builtin .len, _, _⟩, _, _, _, _⟩ :: _)); ((refine j_len rfl rfl ?_)))) | refine j_nil ?_ | (show J _ _ _ (Code.wp _ _ _); first | refine j_seq ?_ | refine j_region ?_) | refine j_then ?_)
    have hsl : (srt ls).length ≤ 7 := by rw [srt_len]; exact hl
    have hpos : 0 < (srt ls).length := by omega
    have e37 : IntKind.i64.wrap ((IntKind.i64.wrap (((srt ls).length : Int) - 1)).tdiv 2) = ((((srt ls).length - 1) / 2 : Nat) : Int) := by
      rw [wrap64_id (x := ((srt ls).length : Int) - 1) (by omega), Int.tdiv_eq_ediv_of_nonneg (by omega), wrap64_id (by omega)]
      omega
    rw [e37]
    have hj : ((srt ls).length - 1) / 2 < (srt ls).length := by omega
    refine j_idx (α := Int) (M := [Sl 2 a c (srt ls)]) rfl rfl (by repeat ((exact .refl))) sees_sl rfl (((srt ls).length - 1) / 2) rfl hj rfl (fun b3 o3 ha3 hc3 => ?_)
    refine j_loadv (M := [Sl 2 a c (srt ls)]) (v := .int .i64 (srt ls)[((srt ls).length - 1) / 2]) rfl rfl (by repeat ((exact .refl))) (hc3 0 _ rfl) rfl ?_
    refine j_max rfl rfl rfl ?_
    repeat' (first | (show J _ _ _ (runS _ _ _ _ (⟨_, _, _, _, _, none⟩ :: _)); (show J _ _ _ (runS _ _ _ _ (⟨_, .assign _, _, _, _, _⟩ :: _)); refine j_assign rfl rfl ?_)) | refine j_nil ?_ | (show J _ _ _ (Code.wp _ _ _); (refine j_ret ?_)) | refine j_then ?_)
    refine j_ret1 (M := Lp) rfl rfl (by repeat (first | exact .refl | refine .drop ?_)) ⟨?_, rfl⟩
    have hr : reachedC m mt = max ((srt ls)[((srt ls).length - 1) / 2]) 0 := by
      unfold reachedC
      rw [← hls, if_neg (show ¬ ls.length = 0 by rw [← srt_len ls]; omega), List.getD_eq_getElem?_getD, ← srt_len ls, List.getElem?_eq_getElem hj]
      rfl
    rw [hr]
    congr 1
    split <;> omega
end Go.Proofs.Ytnmfpgfgjjmfhaa
