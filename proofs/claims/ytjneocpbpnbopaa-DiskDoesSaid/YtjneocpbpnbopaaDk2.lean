/- Disks: New, Down, Arm, fails, Sure, Read. -/
import Derived.Test.YtjneocpbpnbopaaDk1
set_option linter.unusedVariables false
set_option linter.unusedSimpArgs false
set_option maxRecDepth 100000
namespace Go.Proofs.Ytjneocpbpnbopaa
open Go
attribute [local irreducible] Exit.then Exit.inBlock Code.wp runS bodyPost postF J runT cutQ cutR Tr Sat blk Sl Old Star Ex Pu
attribute [local irreducible] MapA MapB IterA IterS All
open Kv Vv

theorem set_self {α : Type} {l : List α} {i : Nat} {x : α} (h : l[i]? = some x) : l.set i x = l := by
  obtain ⟨hi, he⟩ := List.getElem?_eq_some_iff.1 h
  apply List.ext_getElem
  · simp
  · intro j h1 h2
    rw [List.getElem_set]
    split
    · rename_i hij; subst hij; exact he.symm
    · rfl
theorem ptrs_set {l : Lst} {i p : Nat} {k : ByteArray} {f : FileS} (h : l[i]? = some (k, p, f)) (f' : FileS) : ptrs (l.set i (k, p, f')) = ptrs l := by
  unfold ptrs
  rw [List.map_set]
  exact set_self (by rw [List.getElem?_map, h]; rfl)
theorem names_set {l : Lst} {i p : Nat} {k : ByteArray} {f : FileS} (h : l[i]? = some (k, p, f)) (f' : FileS) : (l.set i (k, p, f')).map Prod.fst = l.map Prod.fst := by
  rw [List.map_set]
  exact set_self (by rw [List.getElem?_map, h]; rfl)
theorem plcs_set {l : Lst} {i p : Nat} {k : ByteArray} (f' : FileS) : plcs (l.set i (k, p, f')) = (plcs l).set i (FileA p f') := by
  unfold plcs; rw [List.map_set]
theorem fsOf_names (l : Lst) : (fsOf l).map Prod.fst = l.map Prod.fst := by unfold fsOf; rw [List.map_map]; rfl
theorem ptrs_names (l : Lst) : (ptrs l).map Prod.fst = l.map Prod.fst := by unfold ptrs; rw [List.map_map]; rfl
theorem fsOf_set {l : Lst} (hn : (l.map Prod.fst).Nodup) {i p : Nat} {k : ByteArray} {f : FileS} (h : l[i]? = some (k, p, f)) (f' : FileS) : fsOf (l.set i (k, p, f')) = putM (fsOf l) k f' := by
  have h1 : (fsOf l)[i]? = some (k, f) := by unfold fsOf; rw [List.getElem?_map, h]; rfl
  have hm : k ∈ (fsOf l).map Prod.fst := by
    have := List.mem_of_getElem? h1
    exact List.mem_map_of_mem (f := Prod.fst) this
  have ha : addM (fsOf l) k f = fsOf l := by unfold addM; rw [if_pos hm]
  have := set_putM (l := fsOf l) (by rw [fsOf_names]; exact hn) (z := f) (y := f') (j := i) (k := k) (v := f) (by rw [ha]; exact h1)
  rw [ha] at this
  rw [← this]
  unfold fsOf
  rw [List.map_set]
theorem ptrs_some {l : Lst} {k : ByteArray} {p : Nat} (h : getM (ptrs l) k = some p) : ∃ (i : Nat) (f : FileS), l[i]? = some (k, p, f) ∧ getM (fsOf l) k = some f := by
  induction l with
  | nil => cases h
  | cons e l ih =>
    unfold getM ptrs at h
    unfold getM fsOf
    rw [List.map_cons, List.find?_cons] at h ⊢
    by_cases he : e.1 = k
    · simp only [he, decide_true, Option.map_some, Option.some.injEq] at h ⊢
      refine ⟨0, e.2.2, ?_, rfl⟩
      rw [← h, ← he]; rfl
    · simp only [he, decide_false] at h ⊢
      obtain ⟨i, f, h1, h2⟩ := ih h
      exact ⟨i + 1, f, h1, h2⟩
theorem ptrs_none {l : Lst} {k : ByteArray} (h : getM (ptrs l) k = none) : getM (fsOf l) k = none := by
  induction l with
  | nil => rfl
  | cons e l ih =>
    unfold getM ptrs at h
    unfold getM fsOf
    rw [List.map_cons, List.find?_cons] at h ⊢
    by_cases he : e.1 = k
    · simp [he] at h
    · simp only [he, decide_false] at h ⊢
      exact ih h
theorem plcs_get {l : Lst} {i p : Nat} {k : ByteArray} {f : FileS} (h : l[i]? = some (k, p, f)) : (plcs l)[i]? = some (FileA p f) := by unfold plcs; rw [List.getElem?_map, h]; rfl
theorem plcs_len (l : Lst) : (plcs l).length = l.length := by simp [plcs]

attribute [local semireducible] J Sat All in
theorem j_all0 {n : Nat} {fm : Fm} {L : List HP} {X : Go.Act → World → Prop} (h : J n fm (All [] :: L) X) : J n fm L X :=
  fun aa w hr hw => h aa w hr (hw.new (A' := All []) (all_nil _ _) (fun _ _ => rfl) (Kept0.refl w))

theorem dnew_spec (room : Int) : Tr Try.prog 11 [.int .i64 room] [] (fun v M => (¬ (0 ≤ room ∧ room ≤ 1048576) ∧ v = .pointer none ∧ M = []) ∨ ((0 ≤ room ∧ room ≤ 1048576) ∧ ∃ d, v = .pointer (some ⟨d, 0, none⟩) ∧ M = [DiskA d ⟨room, false, -1, []⟩])) := by
  refine tr_enter Try.func11 rfl Try.ntmps11 rfl (fun F => ?_)
  repeat' (first | (show J _ _ _ (runS _ _ _ (⟨_, _, _, _, _, none⟩ :: _)); first | (show J _ _ _ (runS _ _ _ (⟨_, .move _, _, _, _, _⟩ :: _)); refine j_move rfl rfl ?_) | (show J _ _ _ (runS _ _ _ (⟨_, .binOp _ _ _ _ _, _, _, _, _⟩ :: _)); ((refine j_bin rfl rfl rfl rfl ?_))) | (show J _ _ _ (runS _ _ _ (⟨_, .assign _, _, _, _, _⟩ :: _)); refine j_assign rfl rfl ?_) | (show J _ _ _ (runS _ _ _ (⟨_, .pick _ _ _, _, _, _, _⟩ :: _)); (first | refine j_pick_t rfl rfl rfl ?_ | refine j_pick_f rfl rfl rfl ?_))) | refine j_nil ?_ | (show J _ _ _ (runS _ _ _ (⟨_, _, _, _, _, some _⟩ :: _)); first | refine j_gno_u rfl rfl rfl rfl ?_ | refine j_gyes rfl rfl rfl ?_ | refine j_gsplit_dec rfl rfl (fun h => ?_) (fun h => ?_)) | (show J _ _ _ (Code.wp _ _ _); first | refine j_seq ?_ | refine j_region ?_ | (show J _ _ _ (Code.wp _ (.cond _ _ _) _); first | refine j_true rfl ?_ | refine j_dec rfl (fun h => ?_) (fun h => ?_)) | refine j_ret ?_ | refine j_skip ?_) | refine j_then ?_ | refine j_then_ret ?_)
  iterate 2
    · exact j_ret1 (M := []) rfl rfl .refl (.inl ⟨by omega, rfl, rfl⟩)
  refine j_makeMap Nat ByteArray rfl (fun m => ?_)
  repeat' (first | (show J _ _ _ (runS _ _ _ (⟨_, _, _, _, _, none⟩ :: _)); first | (show J _ _ _ (runS _ _ _ (⟨_, .assign _, _, _, _, _⟩ :: _)); refine j_assign rfl rfl ?_) | (show J _ _ _ (runS _ _ _ (⟨_, .build _ _, _, _, _, _⟩ :: _)); refine j_build rfl (by repeat constructor) rfl ?_) | (show J _ _ _ (runS _ _ _ (⟨_, .box _ _, _, _, _, _⟩ :: _)); refine j_box rfl rfl (fun b => ?_))) | refine j_nil ?_ | (show J _ _ _ (Code.wp _ _ _); (refine j_ret ?_)) | refine j_then ?_)
  refine j_all0 (j_tk (A := MapA m _) (by repeat constructor) (j_tk (A := blk b _ _) (by repeat constructor) (j_undisk (l := []) (by simp) ?_)))
  exact j_ret1 (M := [DiskA b ⟨room, false, -1, []⟩]) rfl rfl .refl (.inr ⟨by omega, b, rfl, rfl⟩)

theorem ddown_spec (d : Nat) (s : DS) : Tr Try.prog 19 [.pointer (some ⟨d, 0, none⟩)] [DiskA d s] (fun v M => v = .bool s.down ∧ M = [DiskA d s]) := by
  refine tr_enter Try.func19 rfl Try.ntmps19 rfl (fun F => ?_)
  refine j_disk (fun m l hf hn => ?_)
  repeat' (first | (show J _ _ _ (runS _ _ _ (⟨_, _, _, _, _, none⟩ :: _)); first | (show J _ _ _ (runS _ _ _ (⟨_, .move _, _, _, _, _⟩ :: _)); refine j_move rfl rfl ?_) | (show J _ _ _ (runS _ _ _ (⟨_, .load _ _, _, _, _, _⟩ :: _)); ((refine j_load rfl rfl (by repeat constructor) rfl rfl ?_))) | (show J _ _ _ (runS _ _ _ (⟨_, .fieldAddr _ _ _, _, _, _, _⟩ :: _)); refine j_fieldAddr rfl rfl ?_) | (show J _ _ _ (runS _ _ _ (⟨_, .nilCheck _, _, _, _, _⟩ :: _)); ((refine j_nilCheck rfl rfl ?_))) | (show J _ _ _ (runS _ _ _ (⟨_, .assign _, _, _, _, _⟩ :: _)); refine j_assign rfl rfl ?_)) | refine j_nil ?_ | (show J _ _ _ (Code.wp _ _ _); first | refine j_seq ?_ | refine j_region ?_ | refine j_ret ?_) | refine j_then ?_)
  refine j_undisk hn ?_
  rw [hf]
  exact j_ret1 (M := [DiskA d s]) rfl rfl .refl ⟨rfl, rfl⟩

def armN (n : Int) : Int := if -1 > n then -1 else n
theorem darm_spec (d : Nat) (s : DS) (n : Int) : Tr Try.prog 24 [.pointer (some ⟨d, 0, none⟩), .int .i64 n] [DiskA d s] (fun v M => v = .tuple #[] ∧ M = [DiskA d ⟨s.room, s.down, armN n, s.fs⟩]) := by
  refine tr_enter Try.func24 rfl Try.ntmps24 rfl (fun F => ?_)
  refine j_disk (fun m l hf hn => ?_)
  repeat' (first | (show J _ _ _ (runS _ _ _ (⟨_, _, _, _, _, none⟩ :: _)); (show J _ _ _ (runS _ _ _ (⟨_, .move _, _, _, _, _⟩ :: _)); refine j_move rfl rfl ?_)) | (show J _ _ _ (Code.wp _ _ _); (refine j_region ?_)))
  refine j_max rfl rfl rfl ?_
  repeat' (first | (show J _ _ _ (runS _ _ _ (⟨_, _, _, _, _, none⟩ :: _)); first | (show J _ _ _ (runS _ _ _ (⟨_, .fieldAddr _ _ _, _, _, _, _⟩ :: _)); refine j_fieldAddr rfl rfl ?_) | (show J _ _ _ (runS _ _ _ (⟨_, .nilCheck _, _, _, _, _⟩ :: _)); ((refine j_nilCheck rfl rfl ?_))) | (show J _ _ _ (runS _ _ _ (⟨_, .store _ _ _, _, _, _, _⟩ :: _)); ((refine j_set rfl rfl rfl (by rfl) (by repeat constructor) (by repeat constructor) ?_)))) | refine j_nil ?_ | refine j_retn ?_)
  refine j_undisk hn ?_
  rw [hf]
  exact j_ret0 (M := [DiskA d _]) rfl .refl ⟨rfl, rfl⟩

def failS (s : DS) : DS := ⟨s.room, decide (s.arm = 0), if s.arm > 0 then s.arm - 1 else s.arm, s.fs⟩
theorem dfails_spec (d m : Nat) (s : DS) (ha : -1 ≤ s.arm ∧ s.arm ≤ 9223372036854775807) : Tr Try.prog 48 [.pointer (some ⟨d, 0, none⟩)] [blk d 65 [.int .i64 s.room, .map (some m), .bool s.down, .int .i64 s.arm]] (fun v M => v = .bool (decide (s.arm = 0)) ∧ M = [blk d 65 [.int .i64 (failS s).room, .map (some m), .bool (failS s).down, .int .i64 (failS s).arm]]) := by
  refine tr_enter Try.func48 rfl Try.ntmps48 rfl (fun F => ?_)
  repeat' (first | (show J _ _ _ (runS _ _ _ (⟨_, _, _, _, _, none⟩ :: _)); first | (show J _ _ _ (runS _ _ _ (⟨_, .move _, _, _, _, _⟩ :: _)); refine j_move rfl rfl ?_) | (show J _ _ _ (runS _ _ _ (⟨_, .load _ _, _, _, _, _⟩ :: _)); ((refine j_load rfl rfl (by repeat constructor) rfl rfl ?_))) | (show J _ _ _ (runS _ _ _ (⟨_, .fieldAddr _ _ _, _, _, _, _⟩ :: _)); refine j_fieldAddr rfl rfl ?_) | (show J _ _ _ (runS _ _ _ (⟨_, .nilCheck _, _, _, _, _⟩ :: _)); ((refine j_nilCheck rfl rfl ?_))) | (show J _ _ _ (runS _ _ _ (⟨_, .binOp _ _ _ _ _, _, _, _, _⟩ :: _)); (first | refine j_sub_ rfl rfl (by omega) rfl ?_ | refine j_bin rfl rfl rfl rfl ?_)) | (show J _ _ _ (runS _ _ _ (⟨_, .assign _, _, _, _, _⟩ :: _)); refine j_assign rfl rfl ?_) | (show J _ _ _ (runS _ _ _ (⟨_, .store _ _ _, _, _, _, _⟩ :: _)); ((refine j_set rfl rfl rfl (by rfl) (by repeat constructor) (by repeat constructor) ?_)))) | refine j_nil ?_ | (show J _ _ _ (Code.wp _ _ _); first | refine j_seq ?_ | refine j_region ?_ | (show J _ _ _ (Code.wp _ (.cond _ _ _) _); (refine j_dec rfl (fun h => ?_) (fun h => ?_))) | refine j_ret ?_ | refine j_skip ?_) | refine j_then ?_)
  · exact j_ret1 (M := [blk d 65 [.int .i64 (failS s).room, .map (some m), .bool (failS s).down, .int .i64 (failS s).arm]]) rfl rfl (by unfold failS; rw [if_pos h]; exact .refl) ⟨rfl, rfl⟩
  · exact j_ret1 (M := [blk d 65 [.int .i64 (failS s).room, .map (some m), .bool (failS s).down, .int .i64 (failS s).arm]]) rfl rfl (by unfold failS; rw [if_neg h]; exact .refl) ⟨rfl, rfl⟩

def sureN (s : DS) (k : ByteArray) : Int := ((getM s.fs k).map FileS.s).getD 0
theorem dsure_spec (d : Nat) (s : DS) (k : ByteArray) : Tr Try.prog 17 [.pointer (some ⟨d, 0, none⟩), .string k] [DiskA d s] (fun v M => v = .int .i64 (sureN s k) ∧ M = [DiskA d s]) := by
  refine tr_enter Try.func17 rfl Try.ntmps17 rfl (fun F => ?_)
  refine j_disk (fun m l hf hn => ?_)
  repeat' (first | (show J _ _ _ (runS _ _ _ (⟨_, _, _, _, _, none⟩ :: _)); first | (show J _ _ _ (runS _ _ _ (⟨_, .move _, _, _, _, _⟩ :: _)); refine j_move rfl rfl ?_) | (show J _ _ _ (runS _ _ _ (⟨_, .load _ _, _, _, _, _⟩ :: _)); ((refine j_load rfl rfl (by repeat constructor) rfl rfl ?_))) | (show J _ _ _ (runS _ _ _ (⟨_, .fieldAddr _ _ _, _, _, _, _⟩ :: _)); refine j_fieldAddr rfl rfl ?_) | (show J _ _ _ (runS _ _ _ (⟨_, .nilCheck _, _, _, _, _⟩ :: _)); ((refine j_nilCheck rfl rfl ?_))) | (show J _ _ _ (runS _ _ _ (⟨_, .assign _, _, _, _, _⟩ :: _)); refine j_assign rfl rfl ?_)) | refine j_nil ?_ | (show J _ _ _ (Code.wp _ _ _); first | refine j_seq ?_ | refine j_region ?_) | refine j_then ?_)
  refine j_lookupN (α := ByteArray) (β := Nat) (k := k) rfl rfl (by repeat constructor) rfl (fun hg => ?_) (fun p hg => ?_)
  · repeat' (first | (show J _ _ _ (runS _ _ _ (⟨_, _, _, _, _, none⟩ :: _)); first | (show J _ _ _ (runS _ _ _ (⟨_, .move _, _, _, _, _⟩ :: _)); refine j_move rfl rfl ?_) | (show J _ _ _ (runS _ _ _ (⟨_, .assign _, _, _, _, _⟩ :: _)); refine j_assign rfl rfl ?_) | (show J _ _ _ (runS _ _ _ (⟨_, .extract _ _, _, _, _, _⟩ :: _)); refine j_extract rfl rfl rfl ?_)) | refine j_nil ?_ | (show J _ _ _ (Code.wp _ _ _); first | refine j_seq ?_ | refine j_region ?_ | (show J _ _ _ (Code.wp _ (.cond _ _ _) _); (refine j_false rfl ?_)) | refine j_ret ?_ | refine j_skip ?_) | refine j_then ?_)
    refine j_undisk hn ?_
    have h2 := ptrs_none hg
    rw [hf] at h2 ⊢
    exact j_ret1 (M := [DiskA d s]) rfl rfl .refl ⟨by unfold sureN; rw [h2]; rfl, rfl⟩
  · obtain ⟨i, f, hi, h2⟩ := ptrs_some hg
    repeat' (first | (show J _ _ _ (runS _ _ _ (⟨_, _, _, _, _, none⟩ :: _)); first | (show J _ _ _ (runS _ _ _ (⟨_, .move _, _, _, _, _⟩ :: _)); refine j_move rfl rfl ?_) | (show J _ _ _ (runS _ _ _ (⟨_, .fieldAddr _ _ _, _, _, _, _⟩ :: _)); refine j_fieldAddr rfl rfl ?_) | (show J _ _ _ (runS _ _ _ (⟨_, .nilCheck _, _, _, _, _⟩ :: _)); ((refine j_nilCheck rfl rfl ?_))) | (show J _ _ _ (runS _ _ _ (⟨_, .assign _, _, _, _, _⟩ :: _)); refine j_assign rfl rfl ?_) | (show J _ _ _ (runS _ _ _ (⟨_, .extract _ _, _, _, _, _⟩ :: _)); refine j_extract rfl rfl rfl ?_)) | refine j_nil ?_ | (show J _ _ _ (Code.wp _ _ _); first | refine j_seq ?_ | refine j_region ?_ | (show J _ _ _ (Code.wp _ (.cond _ _ _) _); (refine j_true rfl ?_))) | refine j_then ?_)
    refine j_tk (A := All _) (by repeat constructor) (j_focus (plcs_get hi) (j_file (fun a c => ?_)))
    repeat' (first | (show J _ _ _ (runS _ _ _ (⟨_, _, _, _, _, none⟩ :: _)); first | (show J _ _ _ (runS _ _ _ (⟨_, .load _ _, _, _, _, _⟩ :: _)); ((refine j_load rfl rfl (by repeat constructor) rfl rfl ?_))) | (show J _ _ _ (runS _ _ _ (⟨_, .assign _, _, _, _, _⟩ :: _)); refine j_assign rfl rfl ?_)) | refine j_nil ?_ | (show J _ _ _ (Code.wp _ _ _); (refine j_ret ?_)) | refine j_then ?_ | refine j_then_ret ?_)
    refine j_unfile rfl (j_unfocus (by rw [plcs_len]; exact (List.getElem?_eq_some_iff.1 hi).1) ?_)
    rw [set_self (plcs_get hi)]
    refine j_tk (A := MapA m _) (by repeat constructor) (j_tk (A := blk d _ _) (by repeat constructor) (j_undisk hn ?_))
    rw [hf] at h2 ⊢
    exact j_ret1 (M := [DiskA d s]) rfl rfl .refl ⟨by unfold sureN; rw [h2]; rfl, rfl⟩

end Go.Proofs.Ytjneocpbpnbopaa
