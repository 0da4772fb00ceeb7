/- Disks: Read, Used, Files. -/
import Derived.Test.YtjneocpbpnbopaaDk2
set_option linter.unusedVariables false
set_option linter.unusedSimpArgs false
set_option maxRecDepth 100000
namespace Go.Proofs.Ytjneocpbpnbopaa
open Go
attribute [local irreducible] Exit.then Exit.inBlock Code.wp runS bodyPost postF J runT cutQ cutR Tr Sat blk Sl Old Star Ex Pu
attribute [local irreducible] MapA MapB IterA IterS All
open Kv Vv

theorem bclone_spec (a : Option Addr) (cap : Nat) (ls : List UInt8) (Lp : List HP) (hv : Sees Lp (fun w => Vw w a ls)) (hn : a = none → ls = []) (hb : ls.length ≤ 100000000) :
    Tr Try.prog 40 [.slice a ls.length cap] Lp (fun v M => ∃ a' cap', v = .slice a' ls.length cap' ∧ M = Sl 5 a' cap' ls :: Lp) := by
  refine tr_enter Try.func40 rfl Try.ntmps40 rfl (fun F => ?_)
  repeat' (first | (show J _ _ _ (runS _ _ _ (⟨_, _, _, _, _, none⟩ :: _)); first | (show J _ _ _ (runS _ _ _ (⟨_, .move _, _, _, _, _⟩ :: _)); refine j_move rfl rfl ?_) | (show J _ _ _ (runS _ _ _ (⟨_, .binOp _ _ _ _ _, _, _, _, _⟩ :: _)); ((refine j_eqnil rfl rfl rfl ?_))) | (show J _ _ _ (runS _ _ _ (⟨_, .assign _, _, _, _, _⟩ :: _)); refine j_assign rfl rfl ?_)) | refine j_nil ?_ | (show J _ _ _ (Code.wp _ _ _); first | refine j_seq ?_ | refine j_region ?_ | (show J _ _ _ (Code.wp _ (.cond _ _ _) _); (refine j_dec rfl (fun h => ?_) (fun h => ?_))) | refine j_ret ?_ | refine j_skip ?_) | refine j_then ?_ | refine j_then_ret ?_)
  · subst h
    obtain rfl := hn rfl
    exact j_sl0 (α := UInt8) 5 none (j_ret1 (M := Sl 5 none 0 ([] : List UInt8) :: Lp) rfl rfl .refl ⟨none, 0, rfl, rfl⟩)
  · refine j_lit0 (α := UInt8) rfl (fun b => ?_)
    repeat' ((show J _ _ _ (runS _ _ _ (⟨_, _, _, _, _, none⟩ :: _)); (show J _ _ _ (runS _ _ _ (⟨_, .move _, _, _, _, _⟩ :: _)); refine j_move rfl rfl ?_)))
    refine j_append (ls := []) (ms := ls) rfl rfl rfl (fun _ _ => .z) (M := Lp) (.drop .refl) hv rfl rfl (by unfold maxLen; simp; omega) (by simp; omega) rfl (fun a' cap' hnil => ?_)
    repeat' (first | (show J _ _ _ (runS _ _ _ (⟨_, _, _, _, _, none⟩ :: _)); (show J _ _ _ (runS _ _ _ (⟨_, .assign _, _, _, _, _⟩ :: _)); refine j_assign rfl rfl ?_)) | refine j_nil ?_ | (show J _ _ _ (Code.wp _ _ _); (refine j_ret ?_)) | refine j_then ?_)
    exact j_ret1 (M := Sl 5 a' cap' ls :: Lp) rfl rfl .refl ⟨a', cap', rfl, rfl⟩

def readB (s : DS) (k : ByteArray) : List UInt8 := ((getM s.fs k).map FileS.b).getD []
def readE (s : DS) (k : ByteArray) : Int := if (getM s.fs k).isSome then 0 else 10
def usedN (fs : List (ByteArray × FileS)) : Nat := (fs.map fun e => e.2.b.length).sum

theorem used_get {fs : List (ByteArray × FileS)} {k : ByteArray} {f : FileS} (h : getM fs k = some f) : f.b.length ≤ usedN fs := by
  unfold usedN
  induction fs with
  | nil => cases h
  | cons e fs ih =>
    unfold getM at h
    rw [List.find?_cons] at h
    rw [List.map_cons, List.sum_cons]
    by_cases he : e.1 = k
    · simp only [he, decide_true, Option.map_some, Option.some.injEq] at h
      rw [← h]; omega
    · simp only [he, decide_false] at h
      have := ih h; omega

theorem dread_spec (d : Nat) (s : DS) (k : ByteArray) (hu : usedN s.fs ≤ 1048576) : Tr Try.prog 15 [.pointer (some ⟨d, 0, none⟩), .string k] [DiskA d s] (fun v M => ∃ a' c', v = .tuple #[.slice a' (readB s k).length c', .int .i64 (readE s k)] ∧ M = [Sl 5 a' c' (readB s k), DiskA d s]) := by
  refine tr_enter Try.func15 rfl Try.ntmps15 rfl (fun F => ?_)
  refine j_disk (fun m l hf hn => ?_)
  repeat' (first | (show J _ _ _ (runS _ _ _ (⟨_, _, _, _, _, none⟩ :: _)); first | (show J _ _ _ (runS _ _ _ (⟨_, .move _, _, _, _, _⟩ :: _)); refine j_move rfl rfl ?_) | (show J _ _ _ (runS _ _ _ (⟨_, .load _ _, _, _, _, _⟩ :: _)); ((refine j_load rfl rfl (by repeat constructor) rfl rfl ?_))) | (show J _ _ _ (runS _ _ _ (⟨_, .fieldAddr _ _ _, _, _, _, _⟩ :: _)); refine j_fieldAddr rfl rfl ?_) | (show J _ _ _ (runS _ _ _ (⟨_, .nilCheck _, _, _, _, _⟩ :: _)); ((refine j_nilCheck rfl rfl ?_))) | (show J _ _ _ (runS _ _ _ (⟨_, .assign _, _, _, _, _⟩ :: _)); refine j_assign rfl rfl ?_)) | refine j_nil ?_ | (show J _ _ _ (Code.wp _ _ _); first | refine j_seq ?_ | refine j_region ?_) | refine j_then ?_)
  refine j_lookupN (α := ByteArray) (β := Nat) (k := k) rfl rfl (by repeat constructor) rfl (fun hg => ?_) (fun p hg => ?_)
  · repeat' (first | (show J _ _ _ (runS _ _ _ (⟨_, _, _, _, _, none⟩ :: _)); first | (show J _ _ _ (runS _ _ _ (⟨_, .move _, _, _, _, _⟩ :: _)); refine j_move rfl rfl ?_) | (show J _ _ _ (runS _ _ _ (⟨_, .assign _, _, _, _, _⟩ :: _)); refine j_assign rfl rfl ?_) | (show J _ _ _ (runS _ _ _ (⟨_, .unOp _ _ _, _, _, _, _⟩ :: _)); ((refine j_not_b rfl rfl ?_))) | (show J _ _ _ (runS _ _ _ (⟨_, .extract _ _, _, _, _, _⟩ :: _)); refine j_extract rfl rfl rfl ?_)) | refine j_nil ?_ | (show J _ _ _ (Code.wp _ _ _); first | refine j_seq ?_ | refine j_region ?_ | (show J _ _ _ (Code.wp _ (.cond _ _ _) _); (refine j_true rfl ?_)) | refine j_ret ?_) | refine j_then ?_ | refine j_then_ret ?_)
    refine j_undisk hn ?_
    have h2 := ptrs_none hg
    rw [hf] at h2 ⊢
    have e1 : readB s k = [] := by unfold readB; rw [h2]; rfl
    have e2 : readE s k = 10 := by unfold readE; rw [h2]; rfl
    rw [e1, e2]
    exact j_sl0 (α := UInt8) 5 none (j_ret2 (M := [Sl 5 none 0 ([] : List UInt8), DiskA d s]) rfl rfl rfl .refl ⟨none, 0, rfl, rfl⟩)
  · obtain ⟨i, f, hi, h2⟩ := ptrs_some hg
    rw [hf] at h2
    have e1 : readB s k = f.b := by unfold readB; rw [h2]; rfl
    have e2 : readE s k = 0 := by unfold readE; rw [h2]; rfl
    have hfb := used_get h2
    rw [e1, e2]
    repeat' (first | (show J _ _ _ (runS _ _ _ (⟨_, _, _, _, _, none⟩ :: _)); first | (show J _ _ _ (runS _ _ _ (⟨_, .move _, _, _, _, _⟩ :: _)); refine j_move rfl rfl ?_) | (show J _ _ _ (runS _ _ _ (⟨_, .fieldAddr _ _ _, _, _, _, _⟩ :: _)); refine j_fieldAddr rfl rfl ?_) | (show J _ _ _ (runS _ _ _ (⟨_, .nilCheck _, _, _, _, _⟩ :: _)); ((refine j_nilCheck rfl rfl ?_))) | (show J _ _ _ (runS _ _ _ (⟨_, .assign _, _, _, _, _⟩ :: _)); refine j_assign rfl rfl ?_) | (show J _ _ _ (runS _ _ _ (⟨_, .unOp _ _ _, _, _, _, _⟩ :: _)); ((refine j_not_b rfl rfl ?_))) | (show J _ _ _ (runS _ _ _ (⟨_, .extract _ _, _, _, _, _⟩ :: _)); refine j_extract rfl rfl rfl ?_)) | refine j_nil ?_ | (show J _ _ _ (Code.wp _ _ _); first | refine j_seq ?_ | refine j_region ?_ | (show J _ _ _ (Code.wp _ (.cond _ _ _) _); (refine j_false rfl ?_)) | refine j_skip ?_) | refine j_then ?_)
    refine j_tk (A := All _) (by repeat constructor) (j_focus (plcs_get hi) (j_file (fun a c => ?_)))
    repeat' ((show J _ _ _ (runS _ _ _ (⟨_, _, _, _, _, none⟩ :: _)); (show J _ _ _ (runS _ _ _ (⟨_, .load _ _, _, _, _, _⟩ :: _)); ((refine j_load rfl rfl (by repeat constructor) rfl rfl ?_)))))
    refine j_sl_none (ls := f.b) (by repeat constructor) (fun hnn => ?_)
    (refine j_call rfl rfl (bclone_spec a c f.b [Sl 5 a c f.b] sees_sl hnn (by omega)) ((by repeat (first | exact .refl | apply Pk.cons | constructor))) rfl (fun v M N h hN => ?_); obtain ⟨a', c', rfl, rfl⟩ := h; (try simp only [List.nil_append, List.cons_append, List.append_assoc] at hN); subst hN)
    repeat' (first | (show J _ _ _ (runS _ _ _ (⟨_, _, _, _, _, none⟩ :: _)); (show J _ _ _ (runS _ _ _ (⟨_, .assign _, _, _, _, _⟩ :: _)); refine j_assign rfl rfl ?_)) | refine j_nil ?_ | (show J _ _ _ (Code.wp _ _ _); (refine j_ret ?_)) | refine j_then ?_)
    refine j_tk (A := All _) (by repeat constructor) (j_tk (A := Sl 5 a c _) (by repeat constructor) (j_tk (A := blk p _ _) (by repeat constructor) (j_unfile rfl (j_unfocus (by rw [plcs_len]; exact (List.getElem?_eq_some_iff.1 hi).1) ?_))))
    rw [set_self (plcs_get hi)]
    refine j_tk (A := MapA m _) (by repeat constructor) (j_tk (A := blk d _ _) (by repeat constructor) (j_undisk hn ?_))
    rw [hf]
    exact j_ret2 (M := [Sl 5 a' c' f.b, DiskA d s]) rfl rfl rfl (by repeat (first | exact .refl | apply Pk.cons | constructor)) ⟨a', c', rfl, rfl⟩

/-- the bytes of the files at some places -/
def sumJ (l : Lst) (js : List Nat) : Nat := (js.map fun j => ((l[j]?).map fun e => e.2.2.b.length).getD 0).sum
theorem sumJ_snoc (l : Lst) (js : List Nat) {j : Nat} {e : ByteArray × Nat × FileS} (h : l[j]? = some e) : sumJ l (js ++ [j]) = sumJ l js + e.2.2.b.length := by
  unfold sumJ; rw [List.map_append, List.sum_append]; simp [h]
theorem sumJ_range (l : Lst) : sumJ l (List.range l.length) = usedN (fsOf l) := by
  unfold sumJ usedN fsOf
  rw [List.map_map]
  congr 1
  apply List.ext_getElem
  · simp
  · intro i h1 h2
    simp only [List.length_map, List.length_range] at h1
    simp [h1]
theorem range_perm {n : Nat} {js : List Nat} (hn : js.Nodup) (hl : ∀ j ∈ js, j < n) (ha : ∀ j, j < n → j ∈ js) : js.Perm (List.range n) :=
  (List.perm_ext_iff_of_nodup hn List.nodup_range).2 (fun a => ⟨fun h => List.mem_range.2 (hl a h), fun h => ha a (List.mem_range.1 h)⟩)
theorem sumJ_le {l : Lst} {js : List Nat} (hn : js.Nodup) (hl : ∀ j ∈ js, j < l.length) : sumJ l js ≤ usedN (fsOf l) := by
  have hp : (js ++ (List.range l.length).filter (fun j => decide (j ∉ js))).Perm (List.range l.length) := by
    refine (List.perm_ext_iff_of_nodup (List.nodup_append.2 ⟨hn, List.nodup_range.sublist List.filter_sublist, fun a ha b hb he => ?_⟩) List.nodup_range).2 (fun a => ⟨fun h => ?_, fun h => ?_⟩)
    · subst he
      have := (List.mem_filter.1 hb).2
      simp at this
      exact this ha
    · rcases List.mem_append.1 h with h | h
      · exact List.mem_range.2 (hl a h)
      · exact (List.mem_filter.1 h).1
    · by_cases hj : a ∈ js
      · exact List.mem_append.2 (.inl hj)
      · exact List.mem_append.2 (.inr (List.mem_filter.2 ⟨h, by simpa using hj⟩))
  have h2 := (hp.map fun j => ((l[j]?).map fun e => e.2.2.b.length).getD 0).sum_nat
  rw [List.map_append, List.sum_append] at h2
  rw [← sumJ_range]
  unfold sumJ
  omega
theorem nodup_le : ∀ (n : Nat) (js : List Nat), js.Nodup → (∀ j ∈ js, j < n) → js.length ≤ n
  | 0, js, _, h => by
    cases js with
    | nil => simp
    | cons j js => exact absurd (h j (by simp)) (by omega)
  | n + 1, js, hn, h => by
    have h1 := nodup_le n (js.erase n) (hn.erase n) (fun j hj => by
      have h2 := (List.Nodup.mem_erase_iff hn).1 hj
      have := h j h2.2
      have := h2.1
      omega)
    rw [List.length_erase] at h1
    split at h1 <;> omega
theorem nodup_len {n : Nat} {js : List Nat} {j : Nat} (hn : js.Nodup) (h : ∀ j ∈ js, j < n) (hj : j ∉ js) (hl : j < n) : js.length < n := by
  have := nodup_le n (j :: js) (List.nodup_cons.2 ⟨hj, hn⟩) (fun q hq => (List.mem_cons.1 hq).elim (fun e => e ▸ hl) (h q))
  simp at this
  omega
theorem nodup_snoc {js : List Nat} {j : Nat} (hn : js.Nodup) (hj : j ∉ js) : (js ++ [j]).Nodup := List.nodup_append.2 ⟨hn, by simp, fun q hq r hr he => hj (by simp at hr; subst hr; subst he; exact hq)⟩
theorem all_snoc' {n j : Nat} {js : List Nat} (h : ∀ q ∈ js, q < n) (hj : j < n) : ∀ q ∈ js ++ [j], q < n := fun q hq => (List.mem_append.1 hq).elim (h q) (fun h => by rw [List.mem_singleton.1 h]; exact hj)
theorem ptrs_get {l : Lst} {j : Nat} {p : ByteArray × Nat} (h : (ptrs l)[j]? = some p) : ∃ f, l[j]? = some (p.1, p.2, f) := by
  unfold ptrs at h
  rw [List.getElem?_map, Option.map_eq_some_iff] at h
  obtain ⟨e, h1, h2⟩ := h
  exact ⟨e.2.2, by rw [h1, ← h2]⟩
theorem ptrs_len (l : Lst) : (ptrs l).length = l.length := by simp [ptrs]

theorem dusedR_spec (d m : Nat) (s : DS) (l : Lst) (hu : usedN (fsOf l) ≤ 1048576) : Tr Try.prog 23 [.pointer (some ⟨d, 0, none⟩)] [blk d 65 [.int .i64 s.room, .map (some m), .bool s.down, .int .i64 s.arm], MapA m (ptrs l), All (plcs l)] (fun v M => v = .int .i64 (usedN (fsOf l) : Nat) ∧ M = [blk d 65 [.int .i64 s.room, .map (some m), .bool s.down, .int .i64 s.arm], MapA m (ptrs l), All (plcs l)]) := by
  refine tr_enter Try.func23 rfl Try.ntmps23 rfl (fun F => ?_)
  repeat' (first | (show J _ _ _ (runS _ _ _ (⟨_, _, _, _, _, none⟩ :: _)); first | (show J _ _ _ (runS _ _ _ (⟨_, .move _, _, _, _, _⟩ :: _)); refine j_move rfl rfl ?_) | (show J _ _ _ (runS _ _ _ (⟨_, .load _ _, _, _, _, _⟩ :: _)); ((refine j_load rfl rfl (by repeat constructor) rfl rfl ?_))) | (show J _ _ _ (runS _ _ _ (⟨_, .fieldAddr _ _ _, _, _, _, _⟩ :: _)); refine j_fieldAddr rfl rfl ?_) | (show J _ _ _ (runS _ _ _ (⟨_, .nilCheck _, _, _, _, _⟩ :: _)); ((refine j_nilCheck rfl rfl ?_))) | (show J _ _ _ (runS _ _ _ (⟨_, .assign _, _, _, _, _⟩ :: _)); refine j_assign rfl rfl ?_)) | refine j_nil ?_ | (show J _ _ _ (Code.wp _ _ _); first | refine j_seq ?_ | refine j_region ?_) | refine j_then ?_)
  refine j_tk (A := MapA m _) (by repeat constructor) (j_mapA (fun bs cl => ?_))
  refine j_range (α := ByteArray) (β := Nat) rfl .z rfl (fun it => ?_)
  repeat' (first | refine j_nil ?_ | refine j_then ?_)
  refine j_block ?_
  refine j_loop (X := { js : List Nat // js.Nodup ∧ ∀ j ∈ js, j < l.length }) (fun js => [(3, .int .i64 (sumJ l js.1 : Nat)), (10, .pointer (some ⟨it, 0, none⟩))]) (fun js => IterA it m bs cl js.1 :: MapB m (ptrs l) bs cl :: blk d 65 [.int .i64 s.room, .map (some m), .bool s.down, .int .i64 s.arm] :: All (plcs l) :: F) (fun js => l.length - js.1.length) ⟨[], List.nodup_nil, by simp⟩ ⟨rfl, rfl, trivial⟩ (by repeat ((exact .refl))) (fun js => ?_)
  obtain ⟨js, hjn, hjl⟩ := js
  have hle := sumJ_le hjn hjl
  dsimp only
  repeat' ((show J _ _ _ (Code.wp _ _ _); first | refine j_seq ?_ | refine j_region ?_))
  refine j_next (α := ByteArray) (β := Nat) rfl (by repeat constructor) (fun _ => .z) rfl (fun hall => ?_) (fun j p hp hnj => ?_)
  · have hsum : sumJ l js = usedN (fsOf l) := by
      rw [ptrs_len] at hall
      have hp := range_perm hjn hjl hall
      rw [← sumJ_range]
      exact (hp.map _).sum_nat
    repeat' (first | (show J _ _ _ (runS _ _ _ (⟨_, _, _, _, _, none⟩ :: _)); first | (show J _ _ _ (runS _ _ _ (⟨_, .move _, _, _, _, _⟩ :: _)); refine j_move rfl rfl ?_) | (show J _ _ _ (runS _ _ _ (⟨_, .assign _, _, _, _, _⟩ :: _)); refine j_assign rfl rfl ?_) | (show J _ _ _ (runS _ _ _ (⟨_, .extract _ _, _, _, _, _⟩ :: _)); refine j_extract rfl rfl rfl ?_)) | refine j_nil ?_ | (show J _ _ _ (Code.wp _ _ _); first | refine j_seq ?_ | refine j_region ?_ | (show J _ _ _ (Code.wp _ (.cond _ _ _) _); (refine j_false rfl ?_)) | refine j_ret ?_ | refine j_exit ?_) | refine j_then ?_ | refine j_then_exit ?_ | refine j_inb_here ?_)
    rw [hsum]
    refine j_tk (A := MapB m _ _ _) (by repeat constructor) (j_unmapA ?_)
    exact j_ret1 (M := [blk d 65 [.int .i64 s.room, .map (some m), .bool s.down, .int .i64 s.arm], MapA m (ptrs l), All (plcs l)]) rfl rfl (by repeat (first | exact .refl | apply Pk.cons | refine .drop ?_ | constructor)) ⟨rfl, rfl⟩
  · obtain ⟨f, hlj⟩ := ptrs_get hp
    have hjc := (List.getElem?_eq_some_iff.1 hlj).1
    have hlen := nodup_len hjn hjl hnj hjc
    have hsn := sumJ_snoc l js hlj
    have hle2 := sumJ_le (nodup_snoc hjn hnj) (all_snoc' hjl hjc)
    dsimp only at hsn
    repeat' (first | (show J _ _ _ (runS _ _ _ (⟨_, _, _, _, _, none⟩ :: _)); (show J _ _ _ (runS _ _ _ (⟨_, .extract _ _, _, _, _, _⟩ :: _)); refine j_extract rfl rfl rfl ?_)) | refine j_nil ?_ | (show J _ _ _ (Code.wp _ _ _); first | refine j_seq ?_ | refine j_region ?_ | refine j_block ?_ | (show J _ _ _ (Code.wp _ (.cond _ _ _) _); (refine j_true rfl ?_)) | refine j_skip ?_) | refine j_then ?_)
    refine j_entry (α := ByteArray) (β := Nat) rfl (by repeat constructor) .z hp rfl ?_
    repeat' (first | (show J _ _ _ (runS _ _ _ (⟨_, _, _, _, _, none⟩ :: _)); first | (show J _ _ _ (runS _ _ _ (⟨_, .move _, _, _, _, _⟩ :: _)); refine j_move rfl rfl ?_) | (show J _ _ _ (runS _ _ _ (⟨_, .fieldAddr _ _ _, _, _, _, _⟩ :: _)); refine j_fieldAddr rfl rfl ?_) | (show J _ _ _ (runS _ _ _ (⟨_, .nilCheck _, _, _, _, _⟩ :: _)); ((refine j_nilCheck rfl rfl ?_))) | (show J _ _ _ (runS _ _ _ (⟨_, .assign _, _, _, _, _⟩ :: _)); refine j_assign rfl rfl ?_) | (show J _ _ _ (runS _ _ _ (⟨_, .extract _ _, _, _, _, _⟩ :: _)); refine j_extract rfl rfl rfl ?_)) | refine j_nil ?_ | (show J _ _ _ (Code.wp _ _ _); (refine j_region ?_)) | refine j_then ?_)
    refine j_tk (A := All _) (by repeat constructor) (j_focus (plcs_get hlj) (j_file (fun a c => ?_)))
    repeat' (first | (show J _ _ _ (runS _ _ _ (⟨_, _, _, _, _, none⟩ :: _)); first | (show J _ _ _ (runS _ _ _ (⟨_, .load _ _, _, _, _, _⟩ :: _)); ((refine j_load rfl rfl (by repeat constructor) rfl rfl ?_))) | (show J _ _ _ (runS _ _ _ (⟨_, .binOp _ _ _ _ _, _, _, _, _⟩ :: _)); ((refine j_add rfl rfl (by omega) rfl ?_))) | (show J _ _ _ (runS _ _ _ (⟨_, .assign _, _, _, _, _⟩ :: _)); refine j_assign rfl rfl ?_) | (show J _ _ _ (runS _ _ _ (⟨_, .call ⟨.builtin .len, _, _⟩, _, _, _, _⟩ :: _)); ((refine j_len rfl rfl ?_)))) | refine j_nil ?_ | refine j_then ?_ | refine j_inb ?_)
    refine j_unfile rfl (j_unfocus (by rw [plcs_len]; exact hjc) ?_)
    rw [set_self (plcs_get hlj)]
    refine j_round ⟨js ++ [j], nodup_snoc hjn hnj, all_snoc' hjl hjc⟩ (by simp; omega) ⟨congrArg some (by rw [hsn]; congr 1), rfl, trivial⟩ (by repeat (first | exact .refl | apply Pk.cons | constructor))

attribute [local semireducible] Tr in
theorem dused_spec (d : Nat) (s : DS) (hu : usedN s.fs ≤ 1048576) : Tr Try.prog 23 [.pointer (some ⟨d, 0, none⟩)] [DiskA d s] (fun v M => v = .int .i64 (usedN s.fs : Nat) ∧ M = [DiskA d s]) := by
  intro F w hw
  obtain ⟨m, l, hf, hn, h2⟩ := sat_disk hw
  refine (dusedR_spec d m s l (by rw [hf]; exact hu) F w h2).mono fun e w' ⟨v, M, he, ⟨hv, hM⟩, hs⟩ => ⟨v, [DiskA d s], he, ⟨by rw [hv, hf], rfl⟩, ?_⟩
  subst hM
  exact sat_undisk hf hn hs

/-- the files' names, in order -/
def filesL (s : DS) : List ByteArray := sortB (s.fs.map Prod.fst)
theorem sortB_eq {l l' : List ByteArray} (h : l.Perm l') : sortB l = sortB l' := by
  unfold sortB
  congr 1
  refine List.Perm.eq_of_pairwise (le := fun x y => decide (x ≤ y) = true) (fun a b _ _ h1 h2 => ?_) ?_ ?_ (((List.mergeSort_perm _ _).trans (h.map _)).trans (List.mergeSort_perm _ _).symm)
  · exact List.le_antisymm (by simpa using h1) (by simpa using h2)
  · exact List.pairwise_mergeSort (fun a b c h1 h2 => by simpa using List.le_trans (by simpa using h1) (by simpa using h2)) (fun a b => by simpa using List.le_total a b) _
  · exact List.pairwise_mergeSort (fun a b c h1 h2 => by simpa using List.le_trans (by simpa using h1) (by simpa using h2)) (fun a b => by simpa using List.le_total a b) _
def nameJ (l : Lst) (js : List Nat) : List ByteArray := js.map fun j => ((l[j]?).map Prod.fst).getD ⟨#[]⟩
theorem nameJ_snoc (l : Lst) (js : List Nat) {j : Nat} {e : ByteArray × Nat × FileS} (h : l[j]? = some e) : nameJ l (js ++ [j]) = nameJ l js ++ [e.1] := by
  unfold nameJ; rw [List.map_append]; simp [h]
theorem nameJ_range (l : Lst) : nameJ l (List.range l.length) = l.map Prod.fst := by
  unfold nameJ
  apply List.ext_getElem
  · simp
  · intro i h1 h2
    simp only [List.length_map, List.length_range] at h1
    simp [h1]
theorem nameJ_len (l : Lst) (js : List Nat) : (nameJ l js).length = js.length := by simp [nameJ]

theorem dfiles_spec (d : Nat) (s : DS) (hb : s.fs.length ≤ 100000) : Tr Try.prog 21 [.pointer (some ⟨d, 0, none⟩)] [DiskA d s] (fun v M => ∃ a' c', v = .slice a' (filesL s).length c' ∧ M = [Sl 9 a' c' (filesL s), DiskA d s]) := by
  refine tr_enter Try.func21 rfl Try.ntmps21 rfl (fun F => ?_)
  refine j_disk (fun m l hf hn => ?_)
  have hll : l.length ≤ 100000 := by have := congrArg List.length hf; simp [fsOf] at this; omega
  repeat' (first | (show J _ _ _ (runS _ _ _ (⟨_, _, _, _, _, none⟩ :: _)); first | (show J _ _ _ (runS _ _ _ (⟨_, .move _, _, _, _, _⟩ :: _)); refine j_move rfl rfl ?_) | (show J _ _ _ (runS _ _ _ (⟨_, .load _ _, _, _, _, _⟩ :: _)); ((refine j_load rfl rfl (by repeat constructor) rfl rfl ?_))) | (show J _ _ _ (runS _ _ _ (⟨_, .fieldAddr _ _ _, _, _, _, _⟩ :: _)); refine j_fieldAddr rfl rfl ?_) | (show J _ _ _ (runS _ _ _ (⟨_, .nilCheck _, _, _, _, _⟩ :: _)); ((refine j_nilCheck rfl rfl ?_))) | (show J _ _ _ (runS _ _ _ (⟨_, .assign _, _, _, _, _⟩ :: _)); refine j_assign rfl rfl ?_)) | refine j_nil ?_ | (show J _ _ _ (Code.wp _ _ _); first | refine j_seq ?_ | refine j_region ?_) | refine j_then ?_)
  refine j_tk (A := MapA m _) (by repeat constructor) (j_mapA (fun bs cl => ?_))
  refine j_range (α := ByteArray) (β := Nat) rfl .z rfl (fun it => ?_)
  repeat' (first | refine j_nil ?_ | refine j_then ?_)
  refine j_sl0 (α := ByteArray) 9 none ?_
  refine j_cut (X := { x : Option Addr × Nat × List ByteArray // x.2.2.Perm (l.map Prod.fst) ∧ (x.1 = none → x.2.2 = []) }) (fun x => [(3, .slice x.1.1 x.1.2.2.length x.1.2.1)]) (fun x => Sl 9 x.1.1 x.1.2.1 x.1.2.2 :: DiskA d s :: F) ?_ (fun x => ?_)
  · refine j_block ?_
    refine j_loop (X := { x : List Nat × Option Addr × Nat // (x.1.Nodup ∧ ∀ j ∈ x.1, j < l.length) ∧ (x.2.1 = none → nameJ l x.1 = []) }) (fun x => [(3, .slice x.1.2.1 (nameJ l x.1.1).length x.1.2.2), (9, .pointer (some ⟨it, 0, none⟩))]) (fun x => Sl 9 x.1.2.1 x.1.2.2 (nameJ l x.1.1) :: IterA it m bs cl x.1.1 :: MapB m (ptrs l) bs cl :: blk d 65 [.int .i64 s.room, .map (some m), .bool s.down, .int .i64 s.arm] :: All (plcs l) :: F) (fun x => l.length - x.1.1.length) ⟨([], none, 0), ⟨List.nodup_nil, by simp⟩, fun _ => rfl⟩ ⟨rfl, rfl, trivial⟩ (by repeat ((exact .refl))) (fun x => ?_)
    obtain ⟨⟨js, a7, c7⟩, ⟨hjn, hjl⟩, hn7⟩ := x
    dsimp only at hjn hjl hn7 ⊢
    repeat' ((show J _ _ _ (Code.wp _ _ _); first | refine j_seq ?_ | refine j_region ?_))
    refine j_next (α := ByteArray) (β := Nat) rfl (by repeat constructor) (fun _ => (by repeat constructor)) rfl (fun hall => ?_) (fun j p hp hnj => ?_)
    · rw [ptrs_len] at hall
      have hp := range_perm hjn hjl hall
      have hpn : (nameJ l js).Perm (l.map Prod.fst) := by rw [← nameJ_range]; exact hp.map _
      repeat' (first | (show J _ _ _ (runS _ _ _ (⟨_, _, _, _, _, none⟩ :: _)); (show J _ _ _ (runS _ _ _ (⟨_, .extract _ _, _, _, _, _⟩ :: _)); refine j_extract rfl rfl rfl ?_)) | refine j_nil ?_ | (show J _ _ _ (Code.wp _ _ _); first | refine j_seq ?_ | (show J _ _ _ (Code.wp _ (.cond _ _ _) _); (refine j_false rfl ?_)) | refine j_exit ?_) | refine j_then ?_ | refine j_then_exit ?_ | refine j_inb_here ?_)
      refine j_tk (A := All _) (by repeat constructor) (j_tk (A := MapB m _ _ _) (by repeat constructor) (j_unmapA (j_tk (A := blk d _ _) (by repeat constructor) (j_undisk hn ?_))))
      rw [hf]
      exact j_cutend ⟨(a7, c7, nameJ l js), hpn, hn7⟩ ⟨rfl, trivial⟩ (by repeat (first | exact .refl | apply Pk.cons | refine .drop ?_ | constructor))
    · obtain ⟨f, hlj⟩ := ptrs_get hp
      have hjc := (List.getElem?_eq_some_iff.1 hlj).1
      have hlen := nodup_len hjn hjl hnj hjc
      have hsn := nameJ_snoc l js hlj
      have hnl := nameJ_len l js
      dsimp only at hsn
      repeat' (first | (show J _ _ _ (runS _ _ _ (⟨_, _, _, _, _, none⟩ :: _)); (show J _ _ _ (runS _ _ _ (⟨_, .extract _ _, _, _, _, _⟩ :: _)); refine j_extract rfl rfl rfl ?_)) | refine j_nil ?_ | (show J _ _ _ (Code.wp _ _ _); first | refine j_seq ?_ | refine j_region ?_ | refine j_block ?_ | (show J _ _ _ (Code.wp _ (.cond _ _ _) _); (refine j_true rfl ?_)) | refine j_skip ?_) | refine j_then ?_)
      refine j_entry (α := ByteArray) (β := Nat) rfl (by repeat constructor) (by repeat constructor) hp rfl ?_
      repeat' (first | (show J _ _ _ (runS _ _ _ (⟨_, _, _, _, _, none⟩ :: _)); first | (show J _ _ _ (runS _ _ _ (⟨_, .move _, _, _, _, _⟩ :: _)); refine j_move rfl rfl ?_) | (show J _ _ _ (runS _ _ _ (⟨_, .assign _, _, _, _, _⟩ :: _)); refine j_assign rfl rfl ?_) | (show J _ _ _ (runS _ _ _ (⟨_, .extract _ _, _, _, _, _⟩ :: _)); refine j_extract rfl rfl rfl ?_)) | refine j_nil ?_ | (show J _ _ _ (Code.wp _ _ _); (refine j_region ?_)) | refine j_then ?_)
      refine j_lit1 rfl rfl p.1 rfl (by decide) rfl (fun b7 => ?_)
      refine j_append (ls := nameJ l js) (ms := [p.1]) rfl rfl rfl (fun _ _ => (by repeat constructor)) (M := [blk _ _ _]) (by repeat ((exact .refl))) (sees_blk1 p.1) rfl rfl (by unfold maxLen; simp only [List.length_singleton]; omega) (by simp only [List.length_singleton]; omega) rfl (fun a8 c8 hnil8 => ?_)
      rw [← hsn] at hnil8 ⊢
      repeat' (first | (show J _ _ _ (runS _ _ _ (⟨_, _, _, _, _, none⟩ :: _)); (show J _ _ _ (runS _ _ _ (⟨_, .assign _, _, _, _, _⟩ :: _)); refine j_assign rfl rfl ?_)) | refine j_nil ?_ | refine j_then ?_ | refine j_inb ?_)
      exact j_round ⟨(js ++ [j], a8, c8), ⟨nodup_snoc hjn hnj, all_snoc' hjl hjc⟩, hnil8⟩ (by simp; omega) ⟨rfl, rfl, trivial⟩ (by repeat (first | exact .refl | apply Pk.cons | refine .drop ?_ | constructor))
  obtain ⟨⟨a7, c7, ns⟩, hp, hn7⟩ := x
  dsimp only at hp hn7 ⊢
  have hsrt : sortB ns = filesL s := by unfold filesL; rw [← hf, fsOf_names]; exact sortB_eq hp
  have hnl : ns.length ≤ 1000000 := by have := hp.length_eq; simp at this; omega
  repeat' (first | (show J _ _ _ (runS _ _ _ (⟨_, _, _, _, _, none⟩ :: _)); (show J _ _ _ (runS _ _ _ (⟨_, .move _, _, _, _, _⟩ :: _)); refine j_move rfl rfl ?_)) | (show J _ _ _ (Code.wp _ _ _); first | refine j_seq ?_ | refine j_region ?_) | refine j_then ?_)
  (refine j_call rfl rfl (sort_spec a7 c7 ns hnl) ((by repeat ((exact .refl)))) rfl (fun v M N h hN => ?_); obtain ⟨rfl, rfl⟩ := h; (try simp only [List.nil_append, List.cons_append, List.append_assoc] at hN); subst hN)
  repeat' (first | (show J _ _ _ (runS _ _ _ (⟨_, _, _, _, _, none⟩ :: _)); first | (show J _ _ _ (runS _ _ _ (⟨_, .move _, _, _, _, _⟩ :: _)); refine j_move rfl rfl ?_) | (show J _ _ _ (runS _ _ _ (⟨_, .assign _, _, _, _, _⟩ :: _)); refine j_assign rfl rfl ?_)) | refine j_nil ?_ | (show J _ _ _ (Code.wp _ _ _); first | refine j_seq ?_ | refine j_region ?_ | refine j_ret ?_) | refine j_then ?_)
  have hlen2 : ns.length = (filesL s).length := by rw [← hsrt, sortB_len]
  rw [hsrt, hlen2]
  exact j_ret1 (M := [Sl 9 a7 c7 (filesL s), DiskA d s]) rfl rfl .refl ⟨a7, c7, rfl, rfl⟩

end Go.Proofs.Ytjneocpbpnbopaa
