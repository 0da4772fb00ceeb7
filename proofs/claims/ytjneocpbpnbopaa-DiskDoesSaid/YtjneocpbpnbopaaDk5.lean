/- Disks: Append. -/
import Derived.Test.YtjneocpbpnbopaaDk4
set_option linter.unusedVariables false
set_option linter.unusedSimpArgs false
set_option maxRecDepth 100000
namespace Go.Proofs.Ytjneocpbpnbopaa
open Go
attribute [local irreducible] Exit.then Exit.inBlock Code.wp runS bodyPost postF J runT cutQ cutR Tr Sat blk Sl Old Star Ex Pu
attribute [local irreducible] MapA MapB IterA IterS All
open Kv Vv

structure DInv (s : DS) : Prop where
  room : 0 ≤ s.room ∧ s.room ≤ 1048576
  used : (usedN s.fs : Int) ≤ s.room
  many : s.fs.length ≤ 64
  nd : (s.fs.map Prod.fst).Nodup
  sure : ∀ e ∈ s.fs, 0 ≤ e.2.s ∧ e.2.s ≤ e.2.b.length
  arm : -1 ≤ s.arm ∧ s.arm ≤ 9223372036854775807
  may : ∀ e ∈ s.fs, mayB e.1 = true

def withFs (s : DS) (fs : List (ByteArray × FileS)) : DS := ⟨s.room, s.down, s.arm, fs⟩
def fileOf (s : DS) (k : ByteArray) : FileS := (getM s.fs k).getD ⟨[], 0⟩
def appN (s : DS) (k : ByteArray) (b : List UInt8) : Int × DS :=
  if readyE s [k] ≠ 0 then (readyE s [k], s)
  else if getM s.fs k = none ∧ 64 ≤ s.fs.length then (3, s)
  else if s.room - (usedN s.fs : Nat) < b.length then (40, s)
  else if s.arm = 0 then (41, withFs (failS s) (putM s.fs k ⟨(fileOf s k).b ++ b.take (b.length / 2), (fileOf s k).s⟩))
  else (0, withFs (failS s) (putM s.fs k ⟨(fileOf s k).b ++ b, (fileOf s k).s⟩))

theorem putM_addM {β : Type} (l : List (ByteArray × β)) (k : ByteArray) (z y : β) : putM (addM l k z) k y = putM l k y := by
  unfold addM
  by_cases h : k ∈ l.map Prod.fst
  · rw [if_pos h]
  · rw [if_neg h]
    unfold putM
    rw [if_neg h, if_pos (by simp), List.map_append]
    congr 1
    · refine (List.map_congr_left fun e he => ?_).trans (List.map_id _)
      rw [if_neg (fun e2 => h (by rw [← e2]; exact List.mem_map_of_mem he))]; rfl
    · simp
theorem putM_none {β : Type} {l : List (ByteArray × β)} {k : ByteArray} (h : getM l k = none) (y : β) : putM l k y = addM l k y := by
  have hk : k ∉ l.map Prod.fst := fun hm => by
    obtain ⟨e, he, hek⟩ := List.mem_map.1 hm
    unfold getM at h
    rw [Option.map_eq_none_iff, List.find?_eq_none] at h
    exact h e he (by simpa using hek)
  unfold putM addM
  rw [if_neg hk, if_neg hk]
theorem getM_mem {β : Type} {l : List (ByteArray × β)} {k : ByteArray} {y : β} (h : getM l k = some y) : (k, y) ∈ l := by
  unfold getM at h
  rw [Option.map_eq_some_iff] at h
  obtain ⟨e, he, hey⟩ := h
  have h1 := List.find?_some he
  have h2 := List.mem_of_find?_eq_some he
  simp only [decide_eq_true_eq] at h1
  rw [← h1, ← hey]
  exact h2
theorem addM_some {β : Type} {l : List (ByteArray × β)} {k : ByteArray} {y : β} (h : getM l k = some y) (z : β) : addM l k z = l := by
  unfold addM
  rw [if_pos (List.mem_map_of_mem (f := Prod.fst) (getM_mem h))]
theorem lst_putM_get (l : Lst) (k : ByteArray) (p : Nat) (f : FileS) : ∃ i : Nat, (putM l k (p, f))[i]? = some (k, p, f) := by
  have := getM_mem (l := putM l k (p, f)) (k := k) (y := (p, f)) (by rw [getM_putM, if_pos rfl])
  obtain ⟨i, hi⟩ := List.getElem?_of_mem this
  exact ⟨i, hi⟩

theorem half_wrap (n : Nat) (h : n ≤ 2000000) : IntKind.i64.wrap ((n : Int).tdiv 2) = ((n / 2 : Nat) : Int) := by
  rw [Int.tdiv_eq_ediv_of_nonneg (by omega), wrap64_id (by omega)]; omega

theorem dappend_spec (d : Nat) (s : DS) (k : ByteArray) (a2 : Option Addr) (c2 : Nat) (ms : List UInt8) (Lp : List HP) (hv : Sees Lp (fun w => Vw w a2 ms)) (hI : DInv s) (hc2 : ms.length ≤ c2) :
    Tr Try.prog 25 [.pointer (some ⟨d, 0, none⟩), .string k, .slice a2 ms.length c2] (DiskA d s :: Lp) (fun v M => v = .int .i64 (appN s k ms).1 ∧ M = DiskA d (appN s k ms).2 :: Lp) := by
  have hroom := hI.room
  have hused := hI.used
  have harm := hI.arm
  have hul : ∀ l : Lst, fsOf l = s.fs → usedN (fsOf l) ≤ 1048576 := fun l hf => by rw [hf]; omega
  refine tr_enter Try.func25 rfl Try.ntmps25 rfl (fun F => ?_)
  refine j_disk (fun m l hf hn => ?_)
  have hul := hul l hf
  repeat' (first | (show J _ _ _ (runS _ _ _ (⟨_, _, _, _, _, none⟩ :: _)); first | (show J _ _ _ (runS _ _ _ (⟨_, .move _, _, _, _, _⟩ :: _)); refine j_move rfl rfl ?_) | (show J _ _ _ (runS _ _ _ (⟨_, .assign _, _, _, _, _⟩ :: _)); refine j_assign rfl rfl ?_)) | refine j_nil ?_ | (show J _ _ _ (Code.wp _ _ _); first | refine j_seq ?_ | refine j_region ?_) | refine j_then ?_)
  refine j_lit1 (α := ByteArray) rfl rfl k rfl (by decide) rfl (fun bn => ?_)
  (refine j_call rfl rfl (dready_spec d m s (some ⟨bn, 0, none⟩) 1 [k] [blk bn 9 [.string k]] (sees_blk1 k) (by simp)) ((by repeat (first | exact .refl | apply Pk.cons | constructor))) rfl (fun v M N h hN => ?_); obtain ⟨rfl, rfl⟩ := h; (try simp only [List.nil_append, List.cons_append, List.append_assoc] at hN); subst hN)
  repeat' (first | (show J _ _ _ (runS _ _ _ (⟨_, _, _, _, _, none⟩ :: _)); first | (show J _ _ _ (runS _ _ _ (⟨_, .move _, _, _, _, _⟩ :: _)); refine j_move rfl rfl ?_) | (show J _ _ _ (runS _ _ _ (⟨_, .load _ _, _, _, _, _⟩ :: _)); ((refine j_load rfl rfl (by repeat constructor) rfl rfl ?_))) | (show J _ _ _ (runS _ _ _ (⟨_, .fieldAddr _ _ _, _, _, _, _⟩ :: _)); refine j_fieldAddr rfl rfl ?_) | (show J _ _ _ (runS _ _ _ (⟨_, .nilCheck _, _, _, _, _⟩ :: _)); ((refine j_nilCheck rfl rfl ?_))) | (show J _ _ _ (runS _ _ _ (⟨_, .binOp _ _ _ _ _, _, _, _, _⟩ :: _)); ((refine j_bin rfl rfl rfl rfl ?_))) | (show J _ _ _ (runS _ _ _ (⟨_, .assign _, _, _, _, _⟩ :: _)); refine j_assign rfl rfl ?_)) | refine j_nil ?_ | (show J _ _ _ (Code.wp _ _ _); first | refine j_seq ?_ | refine j_region ?_ | (show J _ _ _ (Code.wp _ (.cond _ _ _) _); (refine j_dec rfl (fun h => ?_) (fun h => ?_))) | refine j_ret ?_ | refine j_skip ?_) | refine j_then ?_ | refine j_then_ret ?_)
  · have hA : appN s k ms = (readyE s [k], s) := by unfold appN; rw [if_pos h]
    (refine j_tk (A := All _) (by repeat constructor) (j_tk (A := MapA m _) (by repeat constructor) (j_tk (A := blk d _ _) (by repeat constructor) (j_undisk hn ?_))); rw [hf, hA]; exact j_ret1 (M := DiskA d s :: Lp) rfl rfl (by repeat (first | exact .refl | apply Pk.cons | refine .drop ?_ | constructor)) ⟨rfl, rfl⟩)
  have hr := h
  clear h
  have hll := congrArg List.length hf
  rw [show (fsOf l).length = l.length from by simp [fsOf]] at hll
  refine j_lookupN (α := ByteArray) (β := Nat) (k := k) rfl rfl (by repeat constructor) rfl (fun hg => ?_) (fun p hg => ?_)
  · have h2 := ptrs_none hg
    rw [hf] at h2
    repeat' (first | (show J _ _ _ (runS _ _ _ (⟨_, _, _, _, _, none⟩ :: _)); first | (show J _ _ _ (runS _ _ _ (⟨_, .move _, _, _, _, _⟩ :: _)); refine j_move rfl rfl ?_) | (show J _ _ _ (runS _ _ _ (⟨_, .load _ _, _, _, _, _⟩ :: _)); ((refine j_load rfl rfl (by repeat constructor) rfl rfl ?_))) | (show J _ _ _ (runS _ _ _ (⟨_, .fieldAddr _ _ _, _, _, _, _⟩ :: _)); refine j_fieldAddr rfl rfl ?_) | (show J _ _ _ (runS _ _ _ (⟨_, .nilCheck _, _, _, _, _⟩ :: _)); ((refine j_nilCheck rfl rfl ?_))) | (show J _ _ _ (runS _ _ _ (⟨_, .assign _, _, _, _, _⟩ :: _)); refine j_assign rfl rfl ?_) | (show J _ _ _ (runS _ _ _ (⟨_, .unOp _ _ _, _, _, _, _⟩ :: _)); ((refine j_not_b rfl rfl ?_))) | (show J _ _ _ (runS _ _ _ (⟨_, .extract _ _, _, _, _, _⟩ :: _)); refine j_extract rfl rfl rfl ?_)) | refine j_nil ?_ | (show J _ _ _ (runS _ _ _ (⟨_, _, _, _, _, some _⟩ :: _)); (refine j_gyes rfl rfl rfl ?_)) | (show J _ _ _ (Code.wp _ _ _); first | refine j_seq ?_ | refine j_region ?_) | refine j_then ?_)
    refine j_lenMap rfl (by repeat constructor) rfl ?_
    rw [ptrs_len]
    repeat' (first | (show J _ _ _ (runS _ _ _ (⟨_, _, _, _, _, none⟩ :: _)); first | (show J _ _ _ (runS _ _ _ (⟨_, .binOp _ _ _ _ _, _, _, _, _⟩ :: _)); ((refine j_bin rfl rfl rfl rfl ?_))) | (show J _ _ _ (runS _ _ _ (⟨_, .assign _, _, _, _, _⟩ :: _)); refine j_assign rfl rfl ?_) | (show J _ _ _ (runS _ _ _ (⟨_, .pick _ _ _, _, _, _, _⟩ :: _)); ((refine j_pick_t rfl rfl rfl ?_)))) | refine j_nil ?_ | (show J _ _ _ (runS _ _ _ (⟨_, _, _, _, _, some _⟩ :: _)); (refine j_gyes rfl rfl rfl ?_)) | (show J _ _ _ (Code.wp _ _ _); first | refine j_seq ?_ | refine j_region ?_ | (show J _ _ _ (Code.wp _ (.cond _ _ _) _); (refine j_dec rfl (fun h => ?_) (fun h => ?_))) | refine j_ret ?_ | refine j_skip ?_) | refine j_then ?_ | refine j_then_ret ?_)
    · have hA : appN s k ms = (3, s) := by unfold appN; rw [if_neg hr, if_pos ⟨h2, by omega⟩]
      (refine j_tk (A := All _) (by repeat constructor) (j_tk (A := MapA m _) (by repeat constructor) (j_tk (A := blk d _ _) (by repeat constructor) (j_undisk hn ?_))); rw [hf, hA]; exact j_ret1 (M := DiskA d s :: Lp) rfl rfl (by repeat (first | exact .refl | apply Pk.cons | refine .drop ?_ | constructor)) ⟨rfl, rfl⟩)
    have hnm : ¬ (getM s.fs k = none ∧ 64 ≤ s.fs.length) := fun hq => by omega
    refine j_cut (X := Unit) (fun _ => [(45, .bool (decide ((ms.length : Int) > s.room - (usedN (fsOf l) : Nat)))), (8, .pointer none), (9, .bool false), (0, .pointer (some ⟨d, 0, none⟩)), (1, .string k), (2, .slice a2 ms.length c2)]) (fun _ => blk d 65 [.int .i64 s.room, .map (some m), .bool s.down, .int .i64 s.arm] :: MapA m (ptrs l) :: All (plcs l) :: (Lp ++ F)) ?_ (fun _ => ?_)
    · refine j_planM [0, 1, 0, 4, 12, 28, 0, 64, 252, 511] [0, 1, 0, 4, 8, 16, 0, 64, 160, 258] [508, 380, 195, 195, 195, 67, 63, 29, 3, 0] (.take 0 (.take 2 (.take 3 (.take 4 (.take 6 (plApp (.fork 1 (.fork 5 (.take 7 (.done)) (.fork 7 (.take 5 (.done)) (.stop))) (.fork 5 (.fork 1 (.take 7 (.done)) (.fork 7 (.take 1 (.done)) (.stop))) (.fork 7 (.take 1 (.take 5 (.done))) (.stop)))) (.take 8 (.take 9 (.done))))))))) (by decide +kernel) ?_
      repeat' (first | (show J _ _ _ (runS _ _ _ (⟨_, _, _, _, _, none⟩ :: _)); first | (show J _ _ _ (runS _ _ _ (⟨_, .move _, _, _, _, _⟩ :: _)); refine j_move rfl rfl ?_) | (show J _ _ _ (runS _ _ _ (⟨_, .load _ _, _, _, _, _⟩ :: _)); ((refine j_load rfl rfl (by repeat constructor) rfl rfl ?_))) | (show J _ _ _ (runS _ _ _ (⟨_, .fieldAddr _ _ _, _, _, _, _⟩ :: _)); refine j_fieldAddr rfl rfl ?_) | (show J _ _ _ (runS _ _ _ (⟨_, .nilCheck _, _, _, _, _⟩ :: _)); ((refine j_nilCheck rfl rfl ?_))) | (show J _ _ _ (runS _ _ _ (⟨_, .binOp _ _ _ _ _, _, _, _, _⟩ :: _)); (first | refine j_sub_ rfl rfl (by omega) rfl ?_ | refine j_bin rfl rfl rfl rfl ?_)) | (show J _ _ _ (runS _ _ _ (⟨_, .call ⟨.builtin .len, _, _⟩, _, _, _, _⟩ :: _)); ((refine j_len rfl rfl ?_)))) | refine j_nil ?_ | (show J _ _ _ (runT _ _ _ _); first | refine j_take rfl ?_ | refine j_fork rfl ?_ ?_ | exact j_stop | refine j_done ?_) | (refine j_call rfl rfl (dusedR_spec d m s l hul) ((by repeat (first | exact .refl | apply Pk.cons | constructor))) rfl (fun v M N h hN => ?_); obtain ⟨rfl, rfl⟩ := h; (try simp only [List.nil_append, List.cons_append, List.append_assoc] at hN); subst hN))
      all_goals exact j_cutend () ⟨rfl, rfl, rfl, rfl, rfl, rfl, trivial⟩ (by repeat (first | exact .refl | apply Pk.cons | refine .drop ?_ | constructor))
    repeat' (first | (show J _ _ _ (runS _ _ _ (⟨_, _, _, _, _, none⟩ :: _)); first | (show J _ _ _ (runS _ _ _ (⟨_, .move _, _, _, _, _⟩ :: _)); refine j_move rfl rfl ?_) | (show J _ _ _ (runS _ _ _ (⟨_, .load _ _, _, _, _, _⟩ :: _)); ((refine j_load rfl rfl (by repeat constructor) rfl rfl ?_))) | (show J _ _ _ (runS _ _ _ (⟨_, .fieldAddr _ _ _, _, _, _, _⟩ :: _)); refine j_fieldAddr rfl rfl ?_) | (show J _ _ _ (runS _ _ _ (⟨_, .nilCheck _, _, _, _, _⟩ :: _)); ((refine j_nilCheck rfl rfl ?_))) | (show J _ _ _ (runS _ _ _ (⟨_, .assign _, _, _, _, _⟩ :: _)); refine j_assign rfl rfl ?_) | (show J _ _ _ (runS _ _ _ (⟨_, .unOp _ _ _, _, _, _, _⟩ :: _)); ((refine j_not_b rfl rfl ?_))) | (show J _ _ _ (runS _ _ _ (⟨_, .build _ _, _, _, _, _⟩ :: _)); refine j_build rfl (by repeat constructor) rfl ?_) | (show J _ _ _ (runS _ _ _ (⟨_, .box _ _, _, _, _, _⟩ :: _)); refine j_box rfl rfl (fun b => ?_))) | refine j_nil ?_ | (show J _ _ _ (Code.wp _ _ _); first | refine j_seq ?_ | refine j_region ?_ | (show J _ _ _ (Code.wp _ (.cond _ _ _) _); first | refine j_true rfl ?_ | refine j_dec rfl (fun h => ?_) (fun h => ?_)) | refine j_ret ?_ | refine j_skip ?_) | refine j_then ?_ | refine j_then_ret ?_)
    · have hA : appN s k ms = (40, s) := by unfold appN; rw [if_neg hr, if_neg hnm, if_pos (by rw [← hf]; omega)]
      (refine j_tk (A := All _) (by repeat constructor) (j_tk (A := MapA m _) (by repeat constructor) (j_tk (A := blk d _ _) (by repeat constructor) (j_undisk hn ?_))); rw [hf, hA]; exact j_ret1 (M := DiskA d s :: Lp) rfl rfl (by repeat ((exact .refl))) ⟨rfl, rfl⟩)
    have hnu : ¬ (s.room - (usedN s.fs : Nat) < ms.length) := by rw [← hf]; omega
    revert b
    intro q
    refine j_mapUpdate (α := ByteArray) (β := Nat) (k := k) (v := q) rfl rfl rfl (by repeat constructor) ?_
    obtain ⟨l1, hl1⟩ : ∃ l1, l1 = putM l k (q, (⟨[], 0⟩ : FileS)) := ⟨_, rfl⟩
    obtain ⟨i, hi⟩ := lst_putM_get l k q ⟨[], 0⟩
    obtain ⟨f, hf0⟩ : ∃ f : FileS, f = ⟨[], 0⟩ := ⟨_, rfl⟩
    have hn1 : (l1.map Prod.fst).Nodup := by rw [hl1]; exact putM_nodup hn _ _
    rw [← hl1, ← hf0] at hi
    have hset : ∀ f', fsOf (l1.set i (k, q, f')) = putM s.fs k f' := fun f' => by
      rw [fsOf_set hn1 hi, hl1, fsOf_putM, hf, putM_none h2, putM_addM]
    have hfo : fileOf s k = f := by unfold fileOf; rw [h2, hf0]; rfl
    have hfb : f.b.length ≤ usedN s.fs := by rw [hf0]; simp
    revert q
    intro p hl1 hi hset
    show J _ _ (blk p 74 [.slice none 0 0, .int .i64 0] :: _) _
    refine j_sl0 (α := UInt8) 5 none (j_tk (A := blk p _ _) (by repeat constructor) (j_unfile rfl (j_tk (A := All _) (by repeat constructor) (j_tk (A := FileA p _) (by repeat constructor) (j_putAll (k := k) hn ?_)))))
    rw [← hl1]
    refine j_tk (A := MapA m _) (by repeat constructor) ?_
    rw [show putM (ptrs l) k p = ptrs l1 from by rw [hl1, ptrs_putM]]
    repeat' (first | (show J _ _ _ (runS _ _ _ (⟨_, _, _, _, _, none⟩ :: _)); (show J _ _ _ (runS _ _ _ (⟨_, .move _, _, _, _, _⟩ :: _)); refine j_move rfl rfl ?_)) | refine j_nil ?_ | (show J _ _ _ (Code.wp _ _ _); first | refine j_seq ?_ | refine j_region ?_) | refine j_then ?_)
    (refine j_call rfl rfl (dfails_spec d m s harm) ((by repeat (first | exact .refl | apply Pk.cons | constructor))) rfl (fun v M N h hN => ?_); obtain ⟨rfl, rfl⟩ := h; (try simp only [List.nil_append, List.cons_append, List.append_assoc] at hN); subst hN)
    refine j_tk (A := All _) (by repeat constructor) (j_focus (plcs_get hi) (j_file (fun a c => ?_)))
    repeat' (first | (show J _ _ _ (runS _ _ _ (⟨_, _, _, _, _, none⟩ :: _)); first | (show J _ _ _ (runS _ _ _ (⟨_, .move _, _, _, _, _⟩ :: _)); refine j_move rfl rfl ?_) | (show J _ _ _ (runS _ _ _ (⟨_, .load _ _, _, _, _, _⟩ :: _)); ((refine j_load rfl rfl (by repeat constructor) rfl rfl ?_))) | (show J _ _ _ (runS _ _ _ (⟨_, .fieldAddr _ _ _, _, _, _, _⟩ :: _)); refine j_fieldAddr rfl rfl ?_) | (show J _ _ _ (runS _ _ _ (⟨_, .nilCheck _, _, _, _, _⟩ :: _)); ((refine j_nilCheck rfl rfl ?_))) | (show J _ _ _ (runS _ _ _ (⟨_, .binOp _ _ _ _ _, _, _, _, _⟩ :: _)); ((refine j_quo rfl rfl (by omega) rfl ?_))) | (show J _ _ _ (runS _ _ _ (⟨_, .call ⟨.builtin .len, _, _⟩, _, _, _, _⟩ :: _)); ((refine j_len rfl rfl ?_)))) | refine j_nil ?_ | (show J _ _ _ (Code.wp _ _ _); first | refine j_seq ?_ | refine j_region ?_ | (show J _ _ _ (Code.wp _ (.cond _ _ _) _); (refine j_dec rfl (fun h => ?_) (fun h => ?_))) | refine j_skip ?_ | refine j_draw (by decide +kernel) ?_) | refine j_then ?_)
    · have hA : appN s k ms = (41, withFs (failS s) (putM s.fs k ⟨f.b ++ ms.take (ms.length / 2), f.s⟩)) := by unfold appN; rw [if_neg hr, if_neg hnm, if_neg hnu, if_pos h, hfo]
      rw [hA]
      refine j_slice 0 (ms.length / 2) c2 rfl (.inl ⟨rfl, rfl⟩) (.inr ⟨_, _, _, rfl, rfl, half_wrap _ (by omega), by omega⟩) (.inl ⟨rfl, rfl⟩) rfl ?_
      simp only [Nat.sub_zero]
      refine j_append (ls := f.b) (ms := ms.take (ms.length / 2)) rfl rfl rfl (fun _ _ => (by repeat constructor)) (M := Lp) (by repeat (first | exact .refl | refine .drop ?_)) ((hv.off 0 c2 hc2).take _) rfl (by simp; omega) (by unfold maxLen; simp; omega) (by simp; omega) rfl (fun a' c' hnil => ?_)
      repeat' (first | (show J _ _ _ (runS _ _ _ (⟨_, _, _, _, _, none⟩ :: _)); first | (show J _ _ _ (runS _ _ _ (⟨_, .fieldAddr _ _ _, _, _, _, _⟩ :: _)); refine j_fieldAddr rfl rfl ?_) | (show J _ _ _ (runS _ _ _ (⟨_, .nilCheck _, _, _, _, _⟩ :: _)); ((refine j_nilCheck rfl rfl ?_))) | (show J _ _ _ (runS _ _ _ (⟨_, .assign _, _, _, _, _⟩ :: _)); refine j_assign rfl rfl ?_) | (show J _ _ _ (runS _ _ _ (⟨_, .store _ _ _, _, _, _, _⟩ :: _)); ((refine j_set rfl rfl rfl (by rfl) (by repeat constructor) (by repeat constructor) ?_)))) | refine j_nil ?_ | (show J _ _ _ (Code.wp _ _ _); first | refine j_seq ?_ | refine j_region ?_ | refine j_ret ?_) | refine j_then ?_ | refine j_then_ret ?_)
      (refine j_tk (A := All _) (by repeat constructor) (j_tk (A := Sl 5 _ _ _) (by repeat constructor) (j_tk (A := blk p _ _) (by repeat constructor) (j_unfile rfl (j_unfocus (by rw [plcs_len]; exact (List.getElem?_eq_some_iff.1 hi).1) ?_)))); rw [← plcs_set (k := k) (p := p)]; refine j_tk (A := MapA m _) (by repeat constructor) ?_; rw [← ptrs_set hi ⟨f.b ++ ms.take (ms.length / 2), f.s⟩]; refine j_tk (A := blk d _ _) (by repeat constructor) (j_undisk (by rw [names_set hi]; exact hn1) ?_); rw [hset])
      exact j_ret1 (M := DiskA d _ :: Lp) rfl rfl (by repeat ((exact .refl))) ⟨rfl, rfl⟩
    · have hA : appN s k ms = (0, withFs (failS s) (putM s.fs k ⟨f.b ++ ms, f.s⟩)) := by unfold appN; rw [if_neg hr, if_neg hnm, if_neg hnu, if_neg h, hfo]
      rw [hA]
      refine j_append (ls := f.b) (ms := ms) rfl rfl rfl (fun _ _ => (by repeat constructor)) (M := Lp) (by repeat (first | exact .refl | refine .drop ?_)) hv rfl rfl (by unfold maxLen; omega) (by omega) rfl (fun a' c' hnil => ?_)
      repeat' (first | (show J _ _ _ (runS _ _ _ (⟨_, _, _, _, _, none⟩ :: _)); first | (show J _ _ _ (runS _ _ _ (⟨_, .fieldAddr _ _ _, _, _, _, _⟩ :: _)); refine j_fieldAddr rfl rfl ?_) | (show J _ _ _ (runS _ _ _ (⟨_, .nilCheck _, _, _, _, _⟩ :: _)); ((refine j_nilCheck rfl rfl ?_))) | (show J _ _ _ (runS _ _ _ (⟨_, .assign _, _, _, _, _⟩ :: _)); refine j_assign rfl rfl ?_) | (show J _ _ _ (runS _ _ _ (⟨_, .store _ _ _, _, _, _, _⟩ :: _)); ((refine j_set rfl rfl rfl (by rfl) (by repeat constructor) (by repeat constructor) ?_)))) | refine j_nil ?_ | (show J _ _ _ (Code.wp _ _ _); first | refine j_seq ?_ | refine j_region ?_ | refine j_ret ?_) | refine j_then ?_)
      (refine j_tk (A := All _) (by repeat constructor) (j_tk (A := Sl 5 _ _ _) (by repeat constructor) (j_tk (A := blk p _ _) (by repeat constructor) (j_unfile rfl (j_unfocus (by rw [plcs_len]; exact (List.getElem?_eq_some_iff.1 hi).1) ?_)))); rw [← plcs_set (k := k) (p := p)]; refine j_tk (A := MapA m _) (by repeat constructor) ?_; rw [← ptrs_set hi ⟨f.b ++ ms, f.s⟩]; refine j_tk (A := blk d _ _) (by repeat constructor) (j_undisk (by rw [names_set hi]; exact hn1) ?_); rw [hset])
      exact j_ret1 (M := DiskA d _ :: Lp) rfl rfl (by repeat ((exact .refl))) ⟨rfl, rfl⟩
  · obtain ⟨i, f, hi, h2⟩ := ptrs_some hg
    rw [hf] at h2
    repeat' (first | (show J _ _ _ (runS _ _ _ (⟨_, _, _, _, _, none⟩ :: _)); first | (show J _ _ _ (runS _ _ _ (⟨_, .move _, _, _, _, _⟩ :: _)); refine j_move rfl rfl ?_) | (show J _ _ _ (runS _ _ _ (⟨_, .assign _, _, _, _, _⟩ :: _)); refine j_assign rfl rfl ?_) | (show J _ _ _ (runS _ _ _ (⟨_, .pick _ _ _, _, _, _, _⟩ :: _)); ((refine j_pick_f rfl rfl rfl ?_))) | (show J _ _ _ (runS _ _ _ (⟨_, .unOp _ _ _, _, _, _, _⟩ :: _)); ((refine j_not_b rfl rfl ?_))) | (show J _ _ _ (runS _ _ _ (⟨_, .extract _ _, _, _, _, _⟩ :: _)); refine j_extract rfl rfl rfl ?_)) | refine j_nil ?_ | (show J _ _ _ (runS _ _ _ (⟨_, _, _, _, _, some _⟩ :: _)); (refine j_gno_u rfl rfl rfl rfl ?_)) | (show J _ _ _ (Code.wp _ _ _); first | refine j_seq ?_ | refine j_region ?_ | (show J _ _ _ (Code.wp _ (.cond _ _ _) _); (refine j_false rfl ?_)) | refine j_skip ?_) | refine j_then ?_)
    have hnm : ¬ (getM s.fs k = none ∧ 64 ≤ s.fs.length) := fun hq => by rw [h2] at hq; exact absurd hq.1 (by simp)
    refine j_cut (X := Unit) (fun _ => [(45, .bool (decide ((ms.length : Int) > s.room - (usedN (fsOf l) : Nat)))), (8, .pointer (some ⟨p, 0, none⟩)), (9, .bool true), (0, .pointer (some ⟨d, 0, none⟩)), (1, .string k), (2, .slice a2 ms.length c2)]) (fun _ => blk d 65 [.int .i64 s.room, .map (some m), .bool s.down, .int .i64 s.arm] :: MapA m (ptrs l) :: All (plcs l) :: (Lp ++ F)) ?_ (fun _ => ?_)
    · refine j_planM [0, 1, 0, 4, 12, 28, 0, 64, 252, 511] [0, 1, 0, 4, 8, 16, 0, 64, 160, 258] [508, 380, 195, 195, 195, 67, 63, 29, 3, 0] (.take 0 (.take 2 (.take 3 (.take 4 (.take 6 (plApp (.fork 1 (.fork 5 (.take 7 (.done)) (.fork 7 (.take 5 (.done)) (.stop))) (.fork 5 (.fork 1 (.take 7 (.done)) (.fork 7 (.take 1 (.done)) (.stop))) (.fork 7 (.take 1 (.take 5 (.done))) (.stop)))) (.take 8 (.take 9 (.done))))))))) (by decide +kernel) ?_
      repeat' (first | (show J _ _ _ (runS _ _ _ (⟨_, _, _, _, _, none⟩ :: _)); first | (show J _ _ _ (runS _ _ _ (⟨_, .move _, _, _, _, _⟩ :: _)); refine j_move rfl rfl ?_) | (show J _ _ _ (runS _ _ _ (⟨_, .load _ _, _, _, _, _⟩ :: _)); ((refine j_load rfl rfl (by repeat constructor) rfl rfl ?_))) | (show J _ _ _ (runS _ _ _ (⟨_, .fieldAddr _ _ _, _, _, _, _⟩ :: _)); refine j_fieldAddr rfl rfl ?_) | (show J _ _ _ (runS _ _ _ (⟨_, .nilCheck _, _, _, _, _⟩ :: _)); ((refine j_nilCheck rfl rfl ?_))) | (show J _ _ _ (runS _ _ _ (⟨_, .binOp _ _ _ _ _, _, _, _, _⟩ :: _)); (first | refine j_sub_ rfl rfl (by omega) rfl ?_ | refine j_bin rfl rfl rfl rfl ?_)) | (show J _ _ _ (runS _ _ _ (⟨_, .call ⟨.builtin .len, _, _⟩, _, _, _, _⟩ :: _)); ((refine j_len rfl rfl ?_)))) | refine j_nil ?_ | (show J _ _ _ (runT _ _ _ _); first | refine j_take rfl ?_ | refine j_fork rfl ?_ ?_ | exact j_stop | refine j_done ?_) | (refine j_call rfl rfl (dusedR_spec d m s l hul) ((by repeat (first | exact .refl | apply Pk.cons | constructor))) rfl (fun v M N h hN => ?_); obtain ⟨rfl, rfl⟩ := h; (try simp only [List.nil_append, List.cons_append, List.append_assoc] at hN); subst hN))
      all_goals exact j_cutend () ⟨rfl, rfl, rfl, rfl, rfl, rfl, trivial⟩ (by repeat (first | exact .refl | apply Pk.cons | refine .drop ?_ | constructor))
    repeat' (first | (show J _ _ _ (runS _ _ _ (⟨_, _, _, _, _, none⟩ :: _)); first | (show J _ _ _ (runS _ _ _ (⟨_, .move _, _, _, _, _⟩ :: _)); refine j_move rfl rfl ?_) | (show J _ _ _ (runS _ _ _ (⟨_, .assign _, _, _, _, _⟩ :: _)); refine j_assign rfl rfl ?_) | (show J _ _ _ (runS _ _ _ (⟨_, .unOp _ _ _, _, _, _, _⟩ :: _)); ((refine j_not_b rfl rfl ?_)))) | refine j_nil ?_ | (show J _ _ _ (Code.wp _ _ _); first | refine j_seq ?_ | refine j_region ?_ | (show J _ _ _ (Code.wp _ (.cond _ _ _) _); first | refine j_false rfl ?_ | refine j_dec rfl (fun h => ?_) (fun h => ?_)) | refine j_ret ?_ | refine j_skip ?_) | refine j_then ?_ | refine j_then_ret ?_)
    · have hA : appN s k ms = (40, s) := by unfold appN; rw [if_neg hr, if_neg hnm, if_pos (by rw [← hf]; omega)]
      (refine j_tk (A := All _) (by repeat constructor) (j_tk (A := MapA m _) (by repeat constructor) (j_tk (A := blk d _ _) (by repeat constructor) (j_undisk hn ?_))); rw [hf, hA]; exact j_ret1 (M := DiskA d s :: Lp) rfl rfl (by repeat ((exact .refl))) ⟨rfl, rfl⟩)
    have hnu : ¬ (s.room - (usedN s.fs : Nat) < ms.length) := by rw [← hf]; omega
    have hn1 := hn
    have hset : ∀ f', fsOf (l.set i (k, p, f')) = putM s.fs k f' := fun f' => by rw [fsOf_set hn hi, hf]
    have hfo : fileOf s k = f := by unfold fileOf; rw [h2]; rfl
    have hfb := used_get h2
    (refine j_call rfl rfl (dfails_spec d m s harm) ((by repeat ((exact .refl)))) rfl (fun v M N h hN => ?_); obtain ⟨rfl, rfl⟩ := h; (try simp only [List.nil_append, List.cons_append, List.append_assoc] at hN); subst hN)
    refine j_tk (A := All _) (by repeat constructor) (j_focus (plcs_get hi) (j_file (fun a c => ?_)))
    repeat' (first | (show J _ _ _ (runS _ _ _ (⟨_, _, _, _, _, none⟩ :: _)); first | (show J _ _ _ (runS _ _ _ (⟨_, .move _, _, _, _, _⟩ :: _)); refine j_move rfl rfl ?_) | (show J _ _ _ (runS _ _ _ (⟨_, .load _ _, _, _, _, _⟩ :: _)); ((refine j_load rfl rfl (by repeat constructor) rfl rfl ?_))) | (show J _ _ _ (runS _ _ _ (⟨_, .fieldAddr _ _ _, _, _, _, _⟩ :: _)); refine j_fieldAddr rfl rfl ?_) | (show J _ _ _ (runS _ _ _ (⟨_, .nilCheck _, _, _, _, _⟩ :: _)); ((refine j_nilCheck rfl rfl ?_))) | (show J _ _ _ (runS _ _ _ (⟨_, .binOp _ _ _ _ _, _, _, _, _⟩ :: _)); ((refine j_quo rfl rfl (by omega) rfl ?_))) | (show J _ _ _ (runS _ _ _ (⟨_, .call ⟨.builtin .len, _, _⟩, _, _, _, _⟩ :: _)); ((refine j_len rfl rfl ?_)))) | refine j_nil ?_ | (show J _ _ _ (Code.wp _ _ _); first | refine j_seq ?_ | refine j_region ?_ | (show J _ _ _ (Code.wp _ (.cond _ _ _) _); (refine j_dec rfl (fun h => ?_) (fun h => ?_))) | refine j_skip ?_ | refine j_draw (by decide +kernel) ?_) | refine j_then ?_)
    · have hA : appN s k ms = (41, withFs (failS s) (putM s.fs k ⟨f.b ++ ms.take (ms.length / 2), f.s⟩)) := by unfold appN; rw [if_neg hr, if_neg hnm, if_neg hnu, if_pos h, hfo]
      rw [hA]
      refine j_slice 0 (ms.length / 2) c2 rfl (.inl ⟨rfl, rfl⟩) (.inr ⟨_, _, _, rfl, rfl, half_wrap _ (by omega), by omega⟩) (.inl ⟨rfl, rfl⟩) rfl ?_
      simp only [Nat.sub_zero]
      refine j_append (ls := f.b) (ms := ms.take (ms.length / 2)) rfl rfl rfl (fun _ _ => (by repeat constructor)) (M := Lp) (by repeat (first | exact .refl | refine .drop ?_)) ((hv.off 0 c2 hc2).take _) rfl (by simp; omega) (by unfold maxLen; simp; omega) (by simp; omega) rfl (fun a' c' hnil => ?_)
      repeat' (first | (show J _ _ _ (runS _ _ _ (⟨_, _, _, _, _, none⟩ :: _)); first | (show J _ _ _ (runS _ _ _ (⟨_, .fieldAddr _ _ _, _, _, _, _⟩ :: _)); refine j_fieldAddr rfl rfl ?_) | (show J _ _ _ (runS _ _ _ (⟨_, .nilCheck _, _, _, _, _⟩ :: _)); ((refine j_nilCheck rfl rfl ?_))) | (show J _ _ _ (runS _ _ _ (⟨_, .assign _, _, _, _, _⟩ :: _)); refine j_assign rfl rfl ?_) | (show J _ _ _ (runS _ _ _ (⟨_, .store _ _ _, _, _, _, _⟩ :: _)); ((refine j_set rfl rfl rfl (by rfl) (by repeat constructor) (by repeat constructor) ?_)))) | refine j_nil ?_ | (show J _ _ _ (Code.wp _ _ _); first | refine j_seq ?_ | refine j_region ?_ | refine j_ret ?_) | refine j_then ?_ | refine j_then_ret ?_)
      (refine j_tk (A := All _) (by repeat constructor) (j_tk (A := Sl 5 _ _ _) (by repeat constructor) (j_tk (A := blk p _ _) (by repeat constructor) (j_unfile rfl (j_unfocus (by rw [plcs_len]; exact (List.getElem?_eq_some_iff.1 hi).1) ?_)))); rw [← plcs_set (k := k) (p := p)]; refine j_tk (A := MapA m _) (by repeat constructor) ?_; rw [← ptrs_set hi ⟨f.b ++ ms.take (ms.length / 2), f.s⟩]; refine j_tk (A := blk d _ _) (by repeat constructor) (j_undisk (by rw [names_set hi]; exact hn1) ?_); rw [hset])
      exact j_ret1 (M := DiskA d _ :: Lp) rfl rfl (by repeat ((exact .refl))) ⟨rfl, rfl⟩
    · have hA : appN s k ms = (0, withFs (failS s) (putM s.fs k ⟨f.b ++ ms, f.s⟩)) := by unfold appN; rw [if_neg hr, if_neg hnm, if_neg hnu, if_neg h, hfo]
      rw [hA]
      refine j_append (ls := f.b) (ms := ms) rfl rfl rfl (fun _ _ => (by repeat constructor)) (M := Lp) (by repeat (first | exact .refl | refine .drop ?_)) hv rfl rfl (by unfold maxLen; omega) (by omega) rfl (fun a' c' hnil => ?_)
      repeat' (first | (show J _ _ _ (runS _ _ _ (⟨_, _, _, _, _, none⟩ :: _)); first | (show J _ _ _ (runS _ _ _ (⟨_, .fieldAddr _ _ _, _, _, _, _⟩ :: _)); refine j_fieldAddr rfl rfl ?_) | (show J _ _ _ (runS _ _ _ (⟨_, .nilCheck _, _, _, _, _⟩ :: _)); ((refine j_nilCheck rfl rfl ?_))) | (show J _ _ _ (runS _ _ _ (⟨_, .assign _, _, _, _, _⟩ :: _)); refine j_assign rfl rfl ?_) | (show J _ _ _ (runS _ _ _ (⟨_, .store _ _ _, _, _, _, _⟩ :: _)); ((refine j_set rfl rfl rfl (by rfl) (by repeat constructor) (by repeat constructor) ?_)))) | refine j_nil ?_ | (show J _ _ _ (Code.wp _ _ _); first | refine j_seq ?_ | refine j_region ?_ | refine j_ret ?_) | refine j_then ?_)
      (refine j_tk (A := All _) (by repeat constructor) (j_tk (A := Sl 5 _ _ _) (by repeat constructor) (j_tk (A := blk p _ _) (by repeat constructor) (j_unfile rfl (j_unfocus (by rw [plcs_len]; exact (List.getElem?_eq_some_iff.1 hi).1) ?_)))); rw [← plcs_set (k := k) (p := p)]; refine j_tk (A := MapA m _) (by repeat constructor) ?_; rw [← ptrs_set hi ⟨f.b ++ ms, f.s⟩]; refine j_tk (A := blk d _ _) (by repeat constructor) (j_undisk (by rw [names_set hi]; exact hn1) ?_); rw [hset])
      exact j_ret1 (M := DiskA d _ :: Lp) rfl rfl (by repeat ((exact .refl))) ⟨rfl, rfl⟩

end Go.Proofs.Ytjneocpbpnbopaa
