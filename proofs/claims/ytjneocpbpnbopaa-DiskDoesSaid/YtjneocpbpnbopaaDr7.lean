/- The document's disk: Append. -/
import Derived.Test.YtjneocpbpnbopaaDr6
set_option linter.unusedVariables false
set_option linter.unusedSimpArgs false
set_option maxRecDepth 100000
namespace Go.Proofs.Ytjneocpbpnbopaa
open Go
attribute [local irreducible] Exit.then Exit.inBlock Code.wp runS bodyPost postF J runT cutQ cutR Tr Sat blk Sl Old Star Ex Pu
attribute [local irreducible] MapA MapB IterA IterS All
attribute [local irreducible] cutK plApp

theorem putM_putM {β : Type} (l : List (ByteArray × β)) (k : ByteArray) (x y : β) : putM (putM l k x) k y = putM l k y := by
  by_cases h : k ∈ l.map Prod.fst
  · have h1 : k ∈ (putM l k x).map Prod.fst := by rw [putM_names h]; exact h
    unfold putM at h1 ⊢
    rw [if_pos h] at h1 ⊢
    rw [if_pos h1, if_pos h, List.map_map]
    refine List.map_congr_left fun p _ => ?_
    show (if (if p.1 = k then (k, x) else p).1 = k then (k, y) else (if p.1 = k then (k, x) else p)) = _
    by_cases hp : p.1 = k
    · rw [if_pos hp, if_pos rfl, if_pos hp]
    · rw [if_neg hp, if_neg hp]
  · have h1 : k ∈ (putM l k x).map Prod.fst := by unfold putM; rw [if_neg h]; simp
    unfold putM at h1 ⊢
    rw [if_neg h] at h1 ⊢
    rw [if_pos h1, if_neg h, List.map_append]
    congr 1
    · refine (List.map_congr_left fun p hp => ?_).trans (List.map_id _)
      rw [if_neg (fun e => h (by rw [← e]; exact List.mem_map_of_mem hp))]; rfl
    · simp

structure Stp (s : DS) (k : ByteArray) (s1 : DS) (fs1 : List RF) (i : Nat) (f : RF) : Prop where
  inv : DInv s1
  kv : fs1.map kvR = refL s1
  lt : i < fs1.length
  at' : fs1[i]? = some f
  nm : f.n = k
  rl : (refL s1)[i]? = some (k, ⟨f.b, f.s⟩)
  room : s1.room = s.room
  down : s1.down = s.down
  arm : s1.arm = s.arm
  fo : fileOf s k = ⟨f.b, f.s⟩
  put : ∀ F, putM s1.fs k F = putM s.fs k F
  ix : idxR fs1 k = i

theorem stp_old {s : DS} (hI : DInv s) {fs : List RF} (hf : fs.map kvR = refL s) {k : ByteArray} {g : FileS} (hg : getM s.fs k = some g) : ∃ i f, Stp s k s fs i f := by
  obtain ⟨i, f, hi, hix, hfi, hfn, hfb, hfs, hri⟩ := ridx_some hI hf hg
  have e : g = ⟨f.b, f.s⟩ := by rw [hfb, hfs]
  exact ⟨i, f, hI, hf, hi, hfi, hfn, by rw [hri, e], rfl, rfl, rfl, by unfold fileOf; rw [hg, e]; rfl, fun _ => rfl, hix⟩
theorem stp_new {s : DS} (hI : DInv s) {fs : List RF} (hf : fs.map kvR = refL s) {k : ByteArray} (hg : getM s.fs k = none) (hm : s.fs.length < 64) (hk : mayB k = true) : ∃ i f, Stp s k (withFs s (putM s.fs k ⟨[], 0⟩)) (insG RF.n fs ⟨k, none, 0, [], 0⟩) i f := by
  have hu := hI.used
  have hI1 : DInv (withFs s (putM s.fs k ⟨[], 0⟩)) := put_inv hI k ⟨[], 0⟩ (by simp) (by simp; omega) (fun _ => hm) hk
  have hf1 : (insG RF.n fs ⟨k, none, 0, [], 0⟩).map kvR = refL (withFs s (putM s.fs k ⟨[], 0⟩)) := by
    rw [insG_map RF.n Prod.fst kvR (fun _ => rfl), refL_put hI.nd, hf]
    congr 1
    refine (List.filter_eq_self.2 fun e he => ?_).symm
    obtain ⟨j, hj⟩ := List.getElem?_of_mem he
    obtain ⟨q, fq⟩ := e
    obtain ⟨_, _, g, hgg, _⟩ := refL_at hj
    have : q ≠ k := fun e => by rw [e, hg] at hgg; cases hgg
    simp [this]
  obtain ⟨i, f, h⟩ := stp_old hI1 hf1 (k := k) (g := ⟨[], 0⟩) (by show getM (putM s.fs k ⟨[], 0⟩) k = _; rw [getM_putM, if_pos rfl])
  refine ⟨i, f, hI1, hf1, h.lt, h.at', h.nm, h.rl, rfl, rfl, rfl, ?_, fun F => putM_putM _ _ _ _, h.ix⟩
  rw [← h.fo]
  unfold fileOf
  rw [hg]
  show _ = (getM (putM s.fs k ⟨[], 0⟩) k).getD _
  rw [getM_putM, if_pos rfl]; rfl

theorem rappend_spec (d : Nat) (s : DS) (k : ByteArray) (a2 : Option Addr) (c2 : Nat) (ms : List UInt8) (Lp : List HP) (hv : Sees Lp (fun w => Vw w a2 ms)) (hI : DInv s) (hc2 : ms.length ≤ c2) (hk : k.size ≤ 9223372036854775807) :
    Tr Try.prog 33 [.pointer (some ⟨d, 0, none⟩), .string k, .slice a2 ms.length c2] (RefA d s :: Lp) (fun v M => v = .int .i64 (appN s k ms).1 ∧ M = RefA d (appN s k ms).2 :: Lp) := by
  have hroom := hI.room
  have hused := hI.used
  have harm := hI.arm
  refine tr_enter Try.func33 rfl Try.ntmps33 rfl (fun F => ?_)
  refine j_ref (fun fs a c hf => ?_)
  have hl := kv_len hI hf
  have hsum := kv_sum hI hf
  repeat' (first | (show J _ _ _ (runS _ _ _ (⟨_, _, _, _, _, none⟩ :: _)); first | (show J _ _ _ (runS _ _ _ (⟨_, .move _, _, _, _, _⟩ :: _)); refine j_move rfl rfl ?_) | (show J _ _ _ (runS _ _ _ (⟨_, .assign _, _, _, _, _⟩ :: _)); refine j_assign rfl rfl ?_)) | refine j_nil ?_ | (show J _ _ _ (Code.wp _ _ _); first | refine j_seq ?_ | refine j_region ?_) | refine j_then ?_)
  (refine j_call rfl rfl (rbarred_spec d (.slice a fs.length c) s.room s.arm s.down k k hk hk) ((by repeat ((exact .refl)))) rfl (fun v M N h hN => ?_); obtain ⟨rfl, rfl⟩ := h; (try simp only [List.nil_append, List.cons_append, List.append_assoc] at hN); subst hN)
  rw [bar_one]
  rcases ready_cases s [k] with hr | hr | ⟨hr, hdn⟩
  · have hA : appN s k ms = (41, s) := by unfold appN; rw [if_pos (by rw [hr]; decide), hr]
    rw [hr, hA]
    repeat' (first | (show J _ _ _ (runS _ _ _ (⟨_, _, _, _, _, none⟩ :: _)); first | (show J _ _ _ (runS _ _ _ (⟨_, .move _, _, _, _, _⟩ :: _)); refine j_move rfl rfl ?_) | (show J _ _ _ (runS _ _ _ (⟨_, .binOp _ _ _ _ _, _, _, _, _⟩ :: _)); ((refine j_bin rfl rfl rfl rfl ?_))) | (show J _ _ _ (runS _ _ _ (⟨_, .assign _, _, _, _, _⟩ :: _)); refine j_assign rfl rfl ?_)) | refine j_nil ?_ | (show J _ _ _ (Code.wp _ _ _); first | refine j_seq ?_ | refine j_region ?_ | (show J _ _ _ (Code.wp _ (.cond _ _ _) _); (refine j_true rfl ?_)) | refine j_ret ?_) | refine j_then ?_ | refine j_then_ret ?_)
    ((refine j_tk (A := All _) (by repeat constructor) (j_tk (A := Sl 76 _ _ _) (by repeat constructor) (j_tk (A := blk d _ _) (by repeat constructor) (j_unref (s := s) hf rfl rfl rfl rfl ?_)))); exact j_ret1 (M := RefA d s :: Lp) rfl rfl (by repeat ((exact .refl))) ⟨rfl, rfl⟩)
  · have hA : appN s k ms = (5, s) := by unfold appN; rw [if_pos (by rw [hr]; decide), hr]
    rw [hr, hA]
    repeat' (first | (show J _ _ _ (runS _ _ _ (⟨_, _, _, _, _, none⟩ :: _)); first | (show J _ _ _ (runS _ _ _ (⟨_, .move _, _, _, _, _⟩ :: _)); refine j_move rfl rfl ?_) | (show J _ _ _ (runS _ _ _ (⟨_, .binOp _ _ _ _ _, _, _, _, _⟩ :: _)); ((refine j_bin rfl rfl rfl rfl ?_))) | (show J _ _ _ (runS _ _ _ (⟨_, .assign _, _, _, _, _⟩ :: _)); refine j_assign rfl rfl ?_)) | refine j_nil ?_ | (show J _ _ _ (Code.wp _ _ _); first | refine j_seq ?_ | refine j_region ?_ | (show J _ _ _ (Code.wp _ (.cond _ _ _) _); (refine j_true rfl ?_)) | refine j_ret ?_) | refine j_then ?_ | refine j_then_ret ?_)
    ((refine j_tk (A := All _) (by repeat constructor) (j_tk (A := Sl 76 _ _ _) (by repeat constructor) (j_tk (A := blk d _ _) (by repeat constructor) (j_unref (s := s) hf rfl rfl rfl rfl ?_)))); exact j_ret1 (M := RefA d s :: Lp) rfl rfl (by repeat ((exact .refl))) ⟨rfl, rfl⟩)
  have hr0 : ¬ readyE s [k] ≠ 0 := by rw [hr]; decide
  rw [hr]
  repeat' (first | (show J _ _ _ (runS _ _ _ (⟨_, _, _, _, _, none⟩ :: _)); first | (show J _ _ _ (runS _ _ _ (⟨_, .move _, _, _, _, _⟩ :: _)); refine j_move rfl rfl ?_) | (show J _ _ _ (runS _ _ _ (⟨_, .binOp _ _ _ _ _, _, _, _, _⟩ :: _)); ((refine j_bin rfl rfl rfl rfl ?_))) | (show J _ _ _ (runS _ _ _ (⟨_, .assign _, _, _, _, _⟩ :: _)); refine j_assign rfl rfl ?_)) | refine j_nil ?_ | (show J _ _ _ (Code.wp _ _ _); first | refine j_seq ?_ | refine j_region ?_ | (show J _ _ _ (Code.wp _ (.cond _ _ _) _); (refine j_false rfl ?_)) | refine j_skip ?_) | refine j_then ?_)
  (refine j_call rfl rfl (rfind_spec d fs a c s.room s.arm s.down k (by omega)) ((by repeat ((exact .refl)))) rfl (fun v M N h hN => ?_); obtain ⟨rfl, rfl⟩ := h; (try simp only [List.nil_append, List.cons_append, List.append_assoc] at hN); subst hN)
  rcases Decidable.em (getM s.fs k = none ∧ 64 ≤ s.fs.length) with hfull | hfull
  · have hA : appN s k ms = (3, s) := by unfold appN; rw [if_neg hr0, if_pos hfull]
    rw [ridx_none hf hfull.1, hA]
    repeat' (first | (show J _ _ _ (runS _ _ _ (⟨_, _, _, _, _, none⟩ :: _)); first | (show J _ _ _ (runS _ _ _ (⟨_, .move _, _, _, _, _⟩ :: _)); refine j_move rfl rfl ?_) | (show J _ _ _ (runS _ _ _ (⟨_, .load _ _, _, _, _, _⟩ :: _)); ((refine j_load rfl rfl (by repeat constructor) rfl rfl ?_))) | (show J _ _ _ (runS _ _ _ (⟨_, .fieldAddr _ _ _, _, _, _, _⟩ :: _)); refine j_fieldAddr rfl rfl ?_) | (show J _ _ _ (runS _ _ _ (⟨_, .nilCheck _, _, _, _, _⟩ :: _)); ((refine j_nilCheck rfl rfl ?_))) | (show J _ _ _ (runS _ _ _ (⟨_, .binOp _ _ _ _ _, _, _, _, _⟩ :: _)); ((refine j_bin rfl rfl rfl rfl ?_))) | (show J _ _ _ (runS _ _ _ (⟨_, .assign _, _, _, _, _⟩ :: _)); refine j_assign rfl rfl ?_) | (show J _ _ _ (runS _ _ _ (⟨_, .pick _ _ _, _, _, _, _⟩ :: _)); ((refine j_pick_t rfl rfl rfl ?_))) | (show J _ _ _ (runS _ _ _ (⟨_, .call ⟨.builtin .len, _, _⟩, _, _, _, _⟩ :: _)); ((refine j_len rfl rfl ?_)))) | refine j_nil ?_ | (show J _ _ _ (runS _ _ _ (⟨_, _, _, _, _, some _⟩ :: _)); (refine j_gyes rfl rfl rfl ?_)) | (show J _ _ _ (Code.wp _ _ _); first | refine j_seq ?_ | refine j_region ?_ | (show J _ _ _ (Code.wp _ (.cond _ _ _) _); (refine j_dec rfl (fun h => ?_) (fun h => ?_))) | refine j_ret ?_ | refine j_skip ?_) | refine j_then ?_ | refine j_then_ret ?_)
    · ((refine j_tk (A := All _) (by repeat constructor) (j_tk (A := Sl 76 _ _ _) (by repeat constructor) (j_tk (A := blk d _ _) (by repeat constructor) (j_unref (s := s) hf rfl rfl rfl rfl ?_)))); exact j_ret1 (M := RefA d s :: Lp) rfl rfl (by repeat ((exact .refl))) ⟨rfl, rfl⟩)
    · exfalso; omega
  refine j_assign rfl rfl ?_
  refine j_nil ?_
  refine j_then ?_
  refine j_seq ?_
  refine j_seq ?_
  refine j_cut (X := Unit) (fun _ => [(28, .bool false), (0, .pointer (some ⟨d, 0, none⟩)), (1, .string k), (2, .slice a2 ms.length c2), (8, .int .i64 (idxR fs k))]) (fun _ => blk d 40 [.slice a fs.length c, .int .i64 s.room, .bool s.down, .int .i64 s.arm] :: Sl 76 a c fs :: All (fs.map pcR) :: (Lp ++ F)) ?_ (fun _ => ?_)
  · cases hg : getM s.fs k with
    | none =>
      have hlen : ¬ 64 ≤ s.fs.length := fun h => hfull ⟨hg, h⟩
      rw [ridx_none hf hg]
      repeat' (first | (show J _ _ _ (runS _ _ _ (⟨_, _, _, _, _, none⟩ :: _)); first | (show J _ _ _ (runS _ _ _ (⟨_, .move _, _, _, _, _⟩ :: _)); refine j_move rfl rfl ?_) | (show J _ _ _ (runS _ _ _ (⟨_, .load _ _, _, _, _, _⟩ :: _)); ((refine j_load rfl rfl (by repeat constructor) rfl rfl ?_))) | (show J _ _ _ (runS _ _ _ (⟨_, .fieldAddr _ _ _, _, _, _, _⟩ :: _)); refine j_fieldAddr rfl rfl ?_) | (show J _ _ _ (runS _ _ _ (⟨_, .nilCheck _, _, _, _, _⟩ :: _)); ((refine j_nilCheck rfl rfl ?_))) | (show J _ _ _ (runS _ _ _ (⟨_, .binOp _ _ _ _ _, _, _, _, _⟩ :: _)); ((refine j_bin rfl rfl rfl rfl ?_))) | (show J _ _ _ (runS _ _ _ (⟨_, .pick _ _ _, _, _, _, _⟩ :: _)); ((refine j_pick_t rfl rfl rfl ?_))) | (show J _ _ _ (runS _ _ _ (⟨_, .call ⟨.builtin .len, _, _⟩, _, _, _, _⟩ :: _)); ((refine j_len rfl rfl ?_)))) | refine j_nil ?_ | (show J _ _ _ (runS _ _ _ (⟨_, _, _, _, _, some _⟩ :: _)); (refine j_gyes rfl rfl rfl ?_)) | (show J _ _ _ (Code.wp _ _ _); (refine j_region ?_)))
      exact j_cutend (Y := Unit) () ⟨congrArg some (vbfF (by omega)), rfl, rfl, rfl, rfl, trivial⟩ (by repeat ((exact .refl)))
    | some g =>
      obtain ⟨i, f, hi, hix, hfi, hfn, hfb, hfs, hri⟩ := ridx_some hI hf hg
      rw [hix]
      repeat' (first | (show J _ _ _ (runS _ _ _ (⟨_, _, _, _, _, none⟩ :: _)); first | (show J _ _ _ (runS _ _ _ (⟨_, .move _, _, _, _, _⟩ :: _)); refine j_move rfl rfl ?_) | (show J _ _ _ (runS _ _ _ (⟨_, .binOp _ _ _ _ _, _, _, _, _⟩ :: _)); ((refine j_bin rfl rfl rfl rfl ?_))) | (show J _ _ _ (runS _ _ _ (⟨_, .pick _ _ _, _, _, _, _⟩ :: _)); ((refine j_pick_f rfl rfl rfl ?_)))) | refine j_nil ?_ | (show J _ _ _ (runS _ _ _ (⟨_, _, _, _, _, some _⟩ :: _)); (refine j_gno_u rfl rfl rfl rfl ?_)) | (show J _ _ _ (Code.wp _ _ _); (refine j_region ?_)))
      exact j_cutend (Y := Unit) () ⟨rfl, rfl, rfl, rfl, rfl, trivial⟩ (by repeat ((exact .refl)))
  repeat' (first | (show J _ _ _ (Code.wp _ _ _); first | refine j_seq ?_ | (show J _ _ _ (Code.wp _ (.cond _ _ _) _); (refine j_false rfl ?_)) | refine j_skip ?_) | refine j_then ?_)
  refine j_cut (X := Unit) (fun _ => [(38, .bool (decide ((ms.length : Int) > s.room - (sumR fs : Nat)))), (0, .pointer (some ⟨d, 0, none⟩)), (1, .string k), (2, .slice a2 ms.length c2), (8, .int .i64 (idxR fs k))]) (fun _ => blk d 40 [.slice a fs.length c, .int .i64 s.room, .bool s.down, .int .i64 s.arm] :: Sl 76 a c fs :: All (fs.map pcR) :: (Lp ++ F)) ?_ (fun _ => ?_)
  · refine j_planM [0, 1, 0, 4, 12, 28, 0, 64, 252, 511] [0, 1, 0, 4, 8, 16, 0, 64, 160, 258] [508, 380, 195, 195, 195, 67, 63, 29, 3, 0] (.take 0 (.take 2 (.take 3 (.take 4 (.take 6 (plApp (.fork 1 (.fork 5 (.take 7 (.done)) (.fork 7 (.take 5 (.done)) (.stop))) (.fork 5 (.fork 1 (.take 7 (.done)) (.fork 7 (.take 1 (.done)) (.stop))) (.fork 7 (.take 1 (.take 5 (.done))) (.stop)))) (.take 8 (.take 9 (.done))))))))) (by decide +kernel) ?_
    repeat' (first | (show J _ _ _ (runS _ _ _ (⟨_, _, _, _, _, none⟩ :: _)); first | (show J _ _ _ (runS _ _ _ (⟨_, .move _, _, _, _, _⟩ :: _)); refine j_move rfl rfl ?_) | (show J _ _ _ (runS _ _ _ (⟨_, .fieldAddr _ _ _, _, _, _, _⟩ :: _)); refine j_fieldAddr rfl rfl ?_) | (show J _ _ _ (runS _ _ _ (⟨_, .nilCheck _, _, _, _, _⟩ :: _)); ((refine j_nilCheck rfl rfl ?_)))) | refine j_nil ?_ | (show J _ _ _ (runT _ _ _ _); (refine j_take rfl ?_)))
    refine j_app (X := Unit) (fun _ => [(30, .int .i64 (ms.length : Nat)), (34, .int .i64 s.room), (36, .int .i64 (sumR fs : Nat)), (0, .pointer (some ⟨d, 0, none⟩)), (1, .string k), (2, .slice a2 ms.length c2), (8, .int .i64 (idxR fs k))]) (fun _ => blk d 40 [.slice a fs.length c, .int .i64 s.room, .bool s.down, .int .i64 s.arm] :: Sl 76 a c fs :: All (fs.map pcR) :: (Lp ++ F)) ?_ (fun _ => ?_)
    · repeat' (first | (show J _ _ _ (runS _ _ _ (⟨_, _, _, _, _, none⟩ :: _)); first | (show J _ _ _ (runS _ _ _ (⟨_, .load _ _, _, _, _, _⟩ :: _)); ((refine j_load rfl rfl (by repeat constructor) rfl rfl ?_))) | (show J _ _ _ (runS _ _ _ (⟨_, .call ⟨.builtin .len, _, _⟩, _, _, _, _⟩ :: _)); ((refine j_len rfl rfl ?_)))) | refine j_nil ?_ | (show J _ _ _ (runT _ _ _ _); first | refine j_take rfl ?_ | refine j_fork rfl ?_ ?_ | exact j_stop | refine j_done ?_) | (refine j_call rfl rfl (rused_spec d fs a c s.room s.arm s.down (by omega) (by omega)) ((by repeat ((exact .refl)))) rfl (fun v M N h hN => ?_); obtain ⟨rfl, rfl⟩ := h; (try simp only [List.nil_append, List.cons_append, List.append_assoc] at hN); subst hN))
      all_goals exact j_appE () ⟨rfl, rfl, rfl, rfl, rfl, rfl, rfl, trivial⟩ (by repeat ((exact .refl)))
    repeat' (first | (show J _ _ _ (runS _ _ _ (⟨_, _, _, _, _, none⟩ :: _)); (show J _ _ _ (runS _ _ _ (⟨_, .binOp _ _ _ _ _, _, _, _, _⟩ :: _)); (first | refine j_sub_ rfl rfl (by omega) rfl ?_ | refine j_bin rfl rfl rfl rfl ?_))) | refine j_nil ?_ | (show J _ _ _ (runT _ _ _ _); first | refine j_take rfl ?_ | refine j_done ?_))
    exact j_cutend (Y := Unit) () ⟨rfl, rfl, rfl, rfl, rfl, trivial⟩ (by repeat ((exact .refl)))
  repeat' (first | (show J _ _ _ (Code.wp _ _ _); first | (show J _ _ _ (Code.wp _ (.cond _ _ _) _); (refine j_dec rfl (fun h => ?_) (fun h => ?_))) | refine j_skip ?_) | refine j_then ?_)
  · have hA : appN s k ms = (40, s) := by unfold appN; rw [if_neg hr0, if_neg hfull, if_pos (by omega)]
    rw [hA]
    repeat' (first | (show J _ _ _ (runS _ _ _ (⟨_, _, _, _, _, none⟩ :: _)); (show J _ _ _ (runS _ _ _ (⟨_, .assign _, _, _, _, _⟩ :: _)); refine j_assign rfl rfl ?_)) | refine j_nil ?_ | (show J _ _ _ (Code.wp _ _ _); first | refine j_seq ?_ | refine j_region ?_ | refine j_ret ?_) | refine j_then ?_ | refine j_then_ret ?_)
    ((refine j_tk (A := All _) (by repeat constructor) (j_tk (A := Sl 76 _ _ _) (by repeat constructor) (j_tk (A := blk d _ _) (by repeat constructor) (j_unref (s := s) hf rfl rfl rfl rfl ?_)))); exact j_ret1 (M := RefA d s :: Lp) rfl rfl (by repeat ((exact .refl))) ⟨rfl, rfl⟩)
  have hnu : ¬ s.room - (usedN s.fs : Nat) < ms.length := by omega
  refine j_seq ?_
  refine j_cut (X := { q : DS × List RF × Option Addr × Nat × Nat × RF // Stp s k q.1 q.2.1 q.2.2.2.2.1 q.2.2.2.2.2 }) (fun q => [(0, .pointer (some ⟨d, 0, none⟩)), (1, .string k), (2, .slice a2 ms.length c2), (8, .int .i64 (q.1.2.2.2.2.1 : Nat))]) (fun q => blk d 40 [.slice q.1.2.2.1 q.1.2.1.length q.1.2.2.2.1, .int .i64 s.room, .bool s.down, .int .i64 s.arm] :: Sl 76 q.1.2.2.1 q.1.2.2.2.1 q.1.2.1 :: All (q.1.2.1.map pcR) :: (Lp ++ F)) ?_ (fun q => ?_)
  · cases hg : getM s.fs k with
    | none =>
      have hlen : s.fs.length < 64 := Nat.lt_of_not_le fun h => hfull ⟨hg, h⟩
      have hmk : mayB k = true := ready_may hr0 (List.mem_singleton.2 rfl)
      obtain ⟨i, f, hst⟩ := stp_new hI hf hg hlen hmk
      rw [ridx_none hf hg]
      repeat' (first | (show J _ _ _ (runS _ _ _ (⟨_, _, _, _, _, none⟩ :: _)); first | (show J _ _ _ (runS _ _ _ (⟨_, .move _, _, _, _, _⟩ :: _)); refine j_move rfl rfl ?_) | (show J _ _ _ (runS _ _ _ (⟨_, .binOp _ _ _ _ _, _, _, _, _⟩ :: _)); ((refine j_bin rfl rfl rfl rfl ?_))) | (show J _ _ _ (runS _ _ _ (⟨_, .build _ _, _, _, _, _⟩ :: _)); refine j_build rfl (by repeat constructor) rfl ?_)) | refine j_nil ?_ | (show J _ _ _ (Code.wp _ _ _); first | refine j_seq ?_ | refine j_region ?_ | (show J _ _ _ (Code.wp _ (.cond _ _ _) _); (refine j_true rfl ?_))) | refine j_then ?_)
      (refine j_call rfl rfl (rput_spec d fs a c s.room s.arm s.down ⟨k, none, 0, [], 0⟩ (by omega)) ((by repeat ((exact .refl)))) rfl (fun v M N h hN => ?_); obtain ⟨a4, c4, fs4, rfl, hfs4, rfl⟩ := h; (try simp only [List.nil_append, List.cons_append, List.append_assoc] at hN); subst hN)
      have hl4 : fs4.length ≤ 1000 := by rw [hfs4, insG_len]; omega
      repeat' (first | (show J _ _ _ (runS _ _ _ (⟨_, _, _, _, _, none⟩ :: _)); (show J _ _ _ (runS _ _ _ (⟨_, .move _, _, _, _, _⟩ :: _)); refine j_move rfl rfl ?_)) | refine j_nil ?_ | (show J _ _ _ (Code.wp _ _ _); (refine j_region ?_)) | refine j_then ?_)
      (refine j_call rfl rfl (rfind_spec d fs4 a4 c4 s.room s.arm s.down k hl4) ((by repeat ((exact .refl)))) rfl (fun v M N h hN => ?_); obtain ⟨rfl, rfl⟩ := h; (try simp only [List.nil_append, List.cons_append, List.append_assoc] at hN); subst hN)
      rw [hfs4, hst.ix]
      repeat' (first | (show J _ _ _ (runS _ _ _ (⟨_, _, _, _, _, none⟩ :: _)); (show J _ _ _ (runS _ _ _ (⟨_, .assign _, _, _, _, _⟩ :: _)); refine j_assign rfl rfl ?_)) | refine j_nil ?_)
      refine j_sl0 (α := UInt8) 5 none (j_tk (A := All _) (by repeat constructor) (j_tk (A := Sl 5 none 0 ([] : List UInt8)) (by repeat constructor) (j_ins (posG RF.n fs ⟨k, none, 0, [], 0⟩) (by rw [List.length_map]; exact posG_le ..) ?_)))
      have e2 : (fs.map pcR).insertIdx (posG RF.n fs ⟨k, none, 0, [], 0⟩) (Sl 5 none 0 ([] : List UInt8)) = (insG RF.n fs ⟨k, none, 0, [], 0⟩).map pcR := by
        rw [insG_idx, map_ins]; rfl
      rw [e2]
      exact j_cutend (Y := { q : DS × List RF × Option Addr × Nat × Nat × RF // Stp s k q.1 q.2.1 q.2.2.2.2.1 q.2.2.2.2.2 }) ⟨(_, _, a4, c4, i, f), hst⟩ ⟨rfl, rfl, rfl, rfl, trivial⟩ (by repeat (first | exact .refl | apply Pk.cons | constructor))
    | some g =>
      obtain ⟨i, f, hst⟩ := stp_old hI hf hg
      rw [hst.ix]
      repeat' (first | (show J _ _ _ (runS _ _ _ (⟨_, _, _, _, _, none⟩ :: _)); first | (show J _ _ _ (runS _ _ _ (⟨_, .move _, _, _, _, _⟩ :: _)); refine j_move rfl rfl ?_) | (show J _ _ _ (runS _ _ _ (⟨_, .binOp _ _ _ _ _, _, _, _, _⟩ :: _)); ((refine j_bin rfl rfl rfl rfl ?_)))) | refine j_nil ?_ | (show J _ _ _ (Code.wp _ _ _); first | refine j_seq ?_ | refine j_region ?_ | (show J _ _ _ (Code.wp _ (.cond _ _ _) _); (refine j_false rfl ?_)) | refine j_skip ?_) | refine j_then ?_)
      exact j_cutend (Y := { q : DS × List RF × Option Addr × Nat × Nat × RF // Stp s k q.1 q.2.1 q.2.2.2.2.1 q.2.2.2.2.2 }) ⟨(_, _, a, c, i, f), hst⟩ ⟨rfl, rfl, rfl, rfl, trivial⟩ (by repeat ((exact .refl)))
  clear h hl hsum hf a c fs
  obtain ⟨⟨s1, fs, a, c, i, f⟩, hst⟩ := q
  dsimp only at hst ⊢
  have hl := kv_len hst.inv hst.kv
  have hi := hst.lt
  have hfi := hst.at'
  have hgl : f.b.length ≤ usedN s.fs := by
    have h1 := (fileOf_ok hI k).2
    have h2 := lenM_le hI k
    rw [hst.fo] at h1
    dsimp only at h1
    omega
  refine j_sl_some (α := RF) (ls := fs) (by repeat constructor) (by omega) (fun bf hbf => ?_)
  subst hbf
  refine j_tk (A := All _) (by repeat constructor) (j_focus (A := Sl 5 f.a f.c f.b) (pcR_get hfi) ?_)
  repeat' (first | (show J _ _ _ (runS _ _ _ (⟨_, _, _, _, _, none⟩ :: _)); (show J _ _ _ (runS _ _ _ (⟨_, .move _, _, _, _, _⟩ :: _)); refine j_move rfl rfl ?_)) | (show J _ _ _ (Code.wp _ _ _); first | refine j_seq ?_ | refine j_region ?_) | refine j_then ?_)
  (refine j_call rfl rfl (rfails_spec d (.slice (some ⟨bf, 0, none⟩) fs.length c) s hdn harm) ((by repeat (first | exact .refl | apply Pk.cons | constructor))) rfl (fun v M N h hN => ?_); obtain ⟨rfl, rfl⟩ := h; (try simp only [List.nil_append, List.cons_append, List.append_assoc] at hN); subst hN)
  repeat' (first | refine j_nil ?_ | (show J _ _ _ (Code.wp _ _ _); first | refine j_seq ?_ | (show J _ _ _ (Code.wp _ (.cond _ _ _) _); (refine j_dec rfl (fun h => ?_) (fun h => ?_))) | refine j_skip ?_) | refine j_then ?_)
  · have hA : appN s k ms = (41, withFs (failS s) (putM s.fs k ⟨f.b ++ ms.take (ms.length / 2), f.s⟩)) := by unfold appN; rw [if_neg hr0, if_neg hfull, if_neg hnu, if_pos h, hst.fo]
    rw [hA]
    refine j_cut (X := { q : Option Addr × Nat // True }) (fun q => [(0, .pointer (some ⟨d, 0, none⟩)), (8, .int .i64 (i : Nat))]) (fun q => Sl 76 (some ⟨bf, 0, none⟩) c (fs.set i ⟨f.n, q.1.1, q.1.2, f.b ++ ms.take (ms.length / 2), f.s⟩) :: Sl 5 q.1.1 q.1.2 (f.b ++ ms.take (ms.length / 2)) :: blk d 40 [.slice (some ⟨bf, 0, none⟩) fs.length c, .int .i64 (failS s).room, .bool (failS s).down, .int .i64 (failS s).arm] :: All ((fs.map pcR).set i Emp) :: (Lp ++ F)) ?_ (fun q => ?_)
    · refine j_planM [0, 1, 3, 7, 0, 0, 0, 64, 192, 448, 0, 1984, 4032, 8128, 16352, 0, 0, 65536, 196608, 491520, 1048544, 2097151, 4194303, 8388607] [0, 1, 2, 4, 0, 0, 0, 64, 128, 256, 0, 1536, 2048, 4096, 8224, 0, 0, 65536, 131072, 294912, 540672, 2097151, 4194303, 6291455] [2097136, 2097136, 2097136, 1032176, 2097135, 892375, 1016895, 1016895, 1016895, 1016895, 1016831, 1015871, 1015871, 1015871, 884759, 491519, 65535, 49151, 65535, 32767, 23, 0, 0, 0] (.take 0 (.take 1 (.take 2 (.take 4 (.take 6 (.take 7 (.take 8 (.take 9 (.take 10 (.take 11 (.take 12 (.take 13 (.take 15 (.take 16 (plApp (.fork 3 (.fork 5 (.fork 14 (.take 17 (.take 18 (.take 19 (.take 20 (.done))))) (.fork 17 (.take 14 (.take 18 (.take 19 (.take 20 (.done))))) (.stop))) (.fork 17 (.take 5 (.take 14 (.take 18 (.take 19 (.take 20 (.done)))))) (.stop))) (.fork 5 (.fork 3 (.fork 14 (.take 17 (.take 18 (.take 19 (.take 20 (.done))))) (.fork 17 (.take 14 (.take 18 (.take 19 (.take 20 (.done))))) (.stop))) (.fork 14 (.take 17 (.take 18 (.take 19 (.fork 3 (.take 20 (.done)) (.fork 20 (.take 3 (.done)) (.stop)))))) (.fork 17 (.take 18 (.take 19 (.fork 3 (.take 14 (.take 20 (.done))) (.fork 14 (.fork 3 (.take 20 (.done)) (.fork 20 (.take 3 (.done)) (.stop))) (.stop))))) (.stop)))) (.fork 17 (.take 18 (.take 19 (.fork 3 (.take 5 (.take 14 (.take 20 (.done)))) (.fork 5 (.fork 3 (.take 14 (.take 20 (.done))) (.fork 14 (.fork 3 (.take 20 (.done)) (.fork 20 (.take 3 (.done)) (.stop))) (.stop))) (.stop))))) (.stop)))) (.take 21 (.take 22 (.take 23 (.done))))))))))))))))))) (by decide +kernel) ?_
      repeat' (first | (show J _ _ _ (runS _ _ _ (⟨_, _, _, _, _, none⟩ :: _)); first | (show J _ _ _ (runS _ _ _ (⟨_, .move _, _, _, _, _⟩ :: _)); refine j_move rfl rfl ?_) | (show J _ _ _ (runS _ _ _ (⟨_, .load _ _, _, _, _, _⟩ :: _)); ((refine j_load rfl rfl (by repeat constructor) rfl rfl ?_))) | (show J _ _ _ (runS _ _ _ (⟨_, .fieldAddr _ _ _, _, _, _, _⟩ :: _)); refine j_fieldAddr rfl rfl ?_) | (show J _ _ _ (runS _ _ _ (⟨_, .nilCheck _, _, _, _, _⟩ :: _)); ((refine j_nilCheck rfl rfl ?_)))) | refine j_nil ?_ | (show J _ _ _ (runT _ _ _ _); (refine j_take rfl ?_)) | ((show J _ _ _ (runS _ _ _ (⟨_, .indexAddr _ _ _, _, _, _, _⟩ :: _))); refine j_idxS (α := RF) (ls := fs) rfl rfl (by repeat constructor) rfl i rfl hi rfl ?_) | ((show J _ _ _ (runS _ _ _ (⟨_, .load 28 _, _, _, _, _⟩ :: _))); refine j_ldS (α := RF) (ls := fs) (y := f) (v := .slice f.a f.b.length f.c) rfl (by repeat constructor) i hfi 1 rfl rfl rfl rfl ?_))
      refine j_app (X := { q : Option Addr × Nat // True }) (fun q => [(53, .slice (some ⟨bf, 0, none⟩) fs.length c), (54, .int .i64 (i : Nat)), (70, .slice q.1.1 (f.b ++ ms.take (ms.length / 2)).length q.1.2), (0, .pointer (some ⟨d, 0, none⟩)), (8, .int .i64 (i : Nat))]) (fun q => Sl 76 (some ⟨bf, 0, none⟩) c fs :: Sl 5 q.1.1 q.1.2 (f.b ++ ms.take (ms.length / 2)) :: blk d 40 [.slice (some ⟨bf, 0, none⟩) fs.length c, .int .i64 (failS s).room, .bool (failS s).down, .int .i64 (failS s).arm] :: All ((fs.map pcR).set i Emp) :: (Lp ++ F)) ?_ (fun q => ?_)
      · repeat' (first | (show J _ _ _ (runS _ _ _ (⟨_, _, _, _, _, none⟩ :: _)); first | (show J _ _ _ (runS _ _ _ (⟨_, .load _ _, _, _, _, _⟩ :: _)); ((refine j_load rfl rfl (by repeat constructor) rfl rfl ?_))) | (show J _ _ _ (runS _ _ _ (⟨_, .binOp _ _ _ _ _, _, _, _, _⟩ :: _)); ((refine j_quo rfl rfl (by omega) rfl ?_))) | (show J _ _ _ (runS _ _ _ (⟨_, .call ⟨.builtin .len, _, _⟩, _, _, _, _⟩ :: _)); ((refine j_len rfl rfl ?_)))) | refine j_nil ?_ | (show J _ _ _ (runT _ _ _ _); first | refine j_take rfl ?_ | refine j_fork rfl ?_ ?_ | exact j_stop | refine j_done ?_) | ((show J _ _ _ (runS _ _ _ (⟨_, .buildSlice _ 0 _, _, _, _, _⟩ :: _))); refine j_lit0 (α := UInt8) rfl (fun b0 => ?_)) | ((show J _ _ _ (runS _ _ _ (⟨_, .slice _ _ _ _ _, _, _, _, _⟩ :: _))); refine j_slice 0 (ms.length / 2) c2 rfl (.inl ⟨rfl, rfl⟩) (.inr ⟨_, _, _, rfl, rfl, half_wrap _ (by omega), (by omega)⟩) (.inl ⟨rfl, rfl⟩) rfl ?_; simp only [Nat.sub_zero]) | (((show J _ _ _ (runS _ _ _ (⟨_, .call ⟨.builtin .append, #[.tmp 55, _], _⟩, _, _, _, _⟩ :: _)))); refine j_append (α := UInt8) (ls := []) (ms := f.b) rfl rfl rfl (fun _ _ => (by repeat constructor)) (M := [Sl 5 f.a f.c f.b]) (by repeat (first | exact .refl | apply Pk.cons | constructor)) sees_sl rfl rfl (by unfold maxLen; simp; omega) (by simp; omega) rfl (fun a8 c8 _ => ?_); rw [List.nil_append]) | (((show J _ _ _ (runS _ _ _ (⟨_, .call ⟨.builtin .append, #[.tmp 64, _], _⟩, _, _, _, _⟩ :: _)))); refine j_append (α := UInt8) (ls := f.b) (ms := ms.take (ms.length / 2)) rfl rfl rfl (fun _ _ => (by repeat constructor)) (M := Lp) (by repeat (first | exact .refl | refine .drop ?_)) (by (exact (hv.off 0 c2 hc2).take _)) rfl (by (simp; omega)) (by unfold maxLen; (simp; omega)) (by (simp; omega)) rfl (fun a9 c9 _ => ?_)))
        all_goals exact j_appE (⟨(a9, c9), trivial⟩ : { q : Option Addr × Nat // True }) ⟨rfl, rfl, rfl, rfl, rfl, trivial⟩ (by repeat (first | exact .refl | apply Pk.cons | refine .drop ?_ | constructor))
      obtain ⟨⟨a9, c9⟩, _⟩ := q
      dsimp only
      repeat' (first | (show J _ _ _ (runS _ _ _ (⟨_, _, _, _, _, none⟩ :: _)); (show J _ _ _ (runS _ _ _ (⟨_, .fieldAddr _ _ _, _, _, _, _⟩ :: _)); refine j_fieldAddr rfl rfl ?_)) | refine j_nil ?_ | (show J _ _ _ (runT _ _ _ _); first | refine j_take rfl ?_ | refine j_done ?_) | ((show J _ _ _ (runS _ _ _ (⟨_, .indexAddr _ _ _, _, _, _, _⟩ :: _))); refine j_idxS (α := RF) (ls := fs) rfl rfl (by repeat constructor) rfl i rfl hi rfl ?_) | ((show J _ _ _ (runS _ _ _ (⟨_, .store _ _ _, _, _, _, _⟩ :: _))); refine j_set_sl (α := RF) (ls := fs) rfl rfl rfl rfl i 1 hi rfl (by decide) ⟨f.n, a9, c9, f.b ++ ms.take (ms.length / 2), f.s⟩ (by rw [(List.getElem?_eq_some_iff.1 hfi).2]; rfl) (by repeat constructor) ?_))
      exact j_cutend (Y := { q : Option Addr × Nat // True }) ⟨(a9, c9), trivial⟩ ⟨rfl, rfl, trivial⟩ (by repeat ((exact .refl)))
    obtain ⟨⟨a8, c8⟩, _⟩ := q
    dsimp only
    refine j_tk (A := All _) (by repeat constructor) (j_tk (A := Sl 5 a8 c8 _) (by repeat constructor) (j_unfocus (A' := Sl 5 a8 c8 (f.b ++ ms.take (ms.length / 2))) (by simpa using hi) ?_))
    rw [pcR_set fs i ⟨f.n, a8, c8, f.b ++ ms.take (ms.length / 2), f.s⟩]
    repeat' (first | (show J _ _ _ (runS _ _ _ (⟨_, _, _, _, _, none⟩ :: _)); (show J _ _ _ (runS _ _ _ (⟨_, .assign _, _, _, _, _⟩ :: _)); refine j_assign rfl rfl ?_)) | refine j_nil ?_ | (show J _ _ _ (Code.wp _ _ _); first | refine j_seq ?_ | refine j_region ?_ | refine j_ret ?_) | refine j_then ?_ | refine j_then_ret ?_)
    have hkv : (fs.set i ⟨f.n, a8, c8, f.b ++ ms.take (ms.length / 2), f.s⟩).map kvR = refL (withFs (failS s) (putM s.fs k ⟨f.b ++ ms.take (ms.length / 2), f.s⟩)) := kv_set hst.inv hst.kv hst.rl ⟨f.n, a8, c8, f.b ++ ms.take (ms.length / 2), f.s⟩ hst.nm (by rw [hst.put]; rfl)
    (refine j_tk (A := All _) (by repeat constructor) (j_tk (A := Sl 76 _ _ _) (by repeat constructor) (j_tk (A := blk d _ _) (by repeat constructor) (j_unref (s := withFs (failS s) (putM s.fs k ⟨f.b ++ ms.take (ms.length / 2), f.s⟩)) hkv (List.length_set ..).symm rfl rfl rfl ?_))))
    exact j_ret1 (M := RefA d _ :: Lp) rfl rfl (by repeat ((exact .refl))) ⟨rfl, rfl⟩
  · have hA : appN s k ms = (0, withFs (failS s) (putM s.fs k ⟨f.b ++ ms, f.s⟩)) := by unfold appN; rw [if_neg hr0, if_neg hfull, if_neg hnu, if_neg h, hst.fo]
    rw [hA]
    refine j_cut (X := { q : Option Addr × Nat // True }) (fun q => [(0, .pointer (some ⟨d, 0, none⟩)), (8, .int .i64 (i : Nat))]) (fun q => Sl 76 (some ⟨bf, 0, none⟩) c (fs.set i ⟨f.n, q.1.1, q.1.2, f.b ++ ms, f.s⟩) :: Sl 5 q.1.1 q.1.2 (f.b ++ ms) :: blk d 40 [.slice (some ⟨bf, 0, none⟩) fs.length c, .int .i64 (failS s).room, .bool (failS s).down, .int .i64 (failS s).arm] :: All ((fs.map pcR).set i Emp) :: (Lp ++ F)) ?_ (fun q => ?_)
    · refine j_planM [0, 1, 3, 7, 0, 0, 0, 64, 192, 448, 0, 1984, 4032, 8128, 16352, 0, 65504, 131071, 262143, 524287] [0, 1, 2, 4, 0, 0, 0, 64, 128, 256, 0, 1536, 2048, 4096, 8224, 0, 49152, 131071, 262143, 393215] [131056, 131056, 131056, 49136, 131055, 40407, 33855, 33855, 33855, 33855, 33791, 32831, 32831, 32831, 32791, 32767, 23, 0, 0, 0] (.take 0 (.take 1 (.take 2 (.take 4 (.take 6 (.take 7 (.take 8 (.take 9 (.take 10 (.take 11 (.take 12 (.take 13 (.take 15 (plApp (.fork 3 (.take 5 (.take 14 (.take 16 (.done)))) (.fork 5 (.fork 3 (.take 14 (.take 16 (.done))) (.fork 14 (.fork 3 (.take 16 (.done)) (.fork 16 (.take 3 (.done)) (.stop))) (.stop))) (.stop))) (.take 17 (.take 18 (.take 19 (.done)))))))))))))))))) (by decide +kernel) ?_
      repeat' (first | (show J _ _ _ (runS _ _ _ (⟨_, _, _, _, _, none⟩ :: _)); first | (show J _ _ _ (runS _ _ _ (⟨_, .move _, _, _, _, _⟩ :: _)); refine j_move rfl rfl ?_) | (show J _ _ _ (runS _ _ _ (⟨_, .load _ _, _, _, _, _⟩ :: _)); ((refine j_load rfl rfl (by repeat constructor) rfl rfl ?_))) | (show J _ _ _ (runS _ _ _ (⟨_, .fieldAddr _ _ _, _, _, _, _⟩ :: _)); refine j_fieldAddr rfl rfl ?_) | (show J _ _ _ (runS _ _ _ (⟨_, .nilCheck _, _, _, _, _⟩ :: _)); ((refine j_nilCheck rfl rfl ?_)))) | refine j_nil ?_ | (show J _ _ _ (runT _ _ _ _); (refine j_take rfl ?_)) | ((show J _ _ _ (runS _ _ _ (⟨_, .indexAddr _ _ _, _, _, _, _⟩ :: _))); refine j_idxS (α := RF) (ls := fs) rfl rfl (by repeat constructor) rfl i rfl hi rfl ?_) | ((show J _ _ _ (runS _ _ _ (⟨_, .load 28 _, _, _, _, _⟩ :: _))); refine j_ldS (α := RF) (ls := fs) (y := f) (v := .slice f.a f.b.length f.c) rfl (by repeat constructor) i hfi 1 rfl rfl rfl rfl ?_))
      refine j_app (X := { q : Option Addr × Nat // True }) (fun q => [(76, .slice (some ⟨bf, 0, none⟩) fs.length c), (77, .int .i64 (i : Nat)), (89, .slice q.1.1 (f.b ++ ms).length q.1.2), (0, .pointer (some ⟨d, 0, none⟩)), (8, .int .i64 (i : Nat))]) (fun q => Sl 76 (some ⟨bf, 0, none⟩) c fs :: Sl 5 q.1.1 q.1.2 (f.b ++ ms) :: blk d 40 [.slice (some ⟨bf, 0, none⟩) fs.length c, .int .i64 (failS s).room, .bool (failS s).down, .int .i64 (failS s).arm] :: All ((fs.map pcR).set i Emp) :: (Lp ++ F)) ?_ (fun q => ?_)
      · repeat' (first | (show J _ _ _ (runS _ _ _ (⟨_, _, _, _, _, none⟩ :: _)); (show J _ _ _ (runS _ _ _ (⟨_, .load _ _, _, _, _, _⟩ :: _)); ((refine j_load rfl rfl (by repeat constructor) rfl rfl ?_)))) | refine j_nil ?_ | (show J _ _ _ (runT _ _ _ _); first | refine j_take rfl ?_ | refine j_fork rfl ?_ ?_ | exact j_stop | refine j_done ?_) | ((show J _ _ _ (runS _ _ _ (⟨_, .buildSlice _ 0 _, _, _, _, _⟩ :: _))); refine j_lit0 (α := UInt8) rfl (fun b0 => ?_)) | (((show J _ _ _ (runS _ _ _ (⟨_, .call ⟨.builtin .append, #[.tmp 78, _], _⟩, _, _, _, _⟩ :: _)))); refine j_append (α := UInt8) (ls := []) (ms := f.b) rfl rfl rfl (fun _ _ => (by repeat constructor)) (M := [Sl 5 f.a f.c f.b]) (by repeat (first | exact .refl | apply Pk.cons | constructor)) sees_sl rfl rfl (by unfold maxLen; simp; omega) (by simp; omega) rfl (fun a8 c8 _ => ?_); rw [List.nil_append]) | (((show J _ _ _ (runS _ _ _ (⟨_, .call ⟨.builtin .append, #[.tmp 87, _], _⟩, _, _, _, _⟩ :: _)))); refine j_append (α := UInt8) (ls := f.b) (ms := ms) rfl rfl rfl (fun _ _ => (by repeat constructor)) (M := Lp) (by repeat (first | exact .refl | refine .drop ?_)) (by (exact hv)) rfl (by (rfl)) (by unfold maxLen; (omega)) (by (omega)) rfl (fun a9 c9 _ => ?_)))
        all_goals exact j_appE (⟨(a9, c9), trivial⟩ : { q : Option Addr × Nat // True }) ⟨rfl, rfl, rfl, rfl, rfl, trivial⟩ (by repeat (first | exact .refl | apply Pk.cons | refine .drop ?_ | constructor))
      obtain ⟨⟨a9, c9⟩, _⟩ := q
      dsimp only
      repeat' (first | (show J _ _ _ (runS _ _ _ (⟨_, _, _, _, _, none⟩ :: _)); (show J _ _ _ (runS _ _ _ (⟨_, .fieldAddr _ _ _, _, _, _, _⟩ :: _)); refine j_fieldAddr rfl rfl ?_)) | refine j_nil ?_ | (show J _ _ _ (runT _ _ _ _); first | refine j_take rfl ?_ | refine j_done ?_) | ((show J _ _ _ (runS _ _ _ (⟨_, .indexAddr _ _ _, _, _, _, _⟩ :: _))); refine j_idxS (α := RF) (ls := fs) rfl rfl (by repeat constructor) rfl i rfl hi rfl ?_) | ((show J _ _ _ (runS _ _ _ (⟨_, .store _ _ _, _, _, _, _⟩ :: _))); refine j_set_sl (α := RF) (ls := fs) rfl rfl rfl rfl i 1 hi rfl (by decide) ⟨f.n, a9, c9, f.b ++ ms, f.s⟩ (by rw [(List.getElem?_eq_some_iff.1 hfi).2]; rfl) (by repeat constructor) ?_))
      exact j_cutend (Y := { q : Option Addr × Nat // True }) ⟨(a9, c9), trivial⟩ ⟨rfl, rfl, trivial⟩ (by repeat ((exact .refl)))
    obtain ⟨⟨a8, c8⟩, _⟩ := q
    dsimp only
    refine j_tk (A := All _) (by repeat constructor) (j_tk (A := Sl 5 a8 c8 _) (by repeat constructor) (j_unfocus (A' := Sl 5 a8 c8 (f.b ++ ms)) (by simpa using hi) ?_))
    rw [pcR_set fs i ⟨f.n, a8, c8, f.b ++ ms, f.s⟩]
    repeat' (first | (show J _ _ _ (runS _ _ _ (⟨_, _, _, _, _, none⟩ :: _)); (show J _ _ _ (runS _ _ _ (⟨_, .assign _, _, _, _, _⟩ :: _)); refine j_assign rfl rfl ?_)) | refine j_nil ?_ | (show J _ _ _ (Code.wp _ _ _); first | refine j_seq ?_ | refine j_region ?_ | refine j_ret ?_) | refine j_then ?_)
    have hkv : (fs.set i ⟨f.n, a8, c8, f.b ++ ms, f.s⟩).map kvR = refL (withFs (failS s) (putM s.fs k ⟨f.b ++ ms, f.s⟩)) := kv_set hst.inv hst.kv hst.rl ⟨f.n, a8, c8, f.b ++ ms, f.s⟩ hst.nm (by rw [hst.put]; rfl)
    (refine j_tk (A := All _) (by repeat constructor) (j_tk (A := Sl 76 _ _ _) (by repeat constructor) (j_tk (A := blk d _ _) (by repeat constructor) (j_unref (s := withFs (failS s) (putM s.fs k ⟨f.b ++ ms, f.s⟩)) hkv (List.length_set ..).symm rfl rfl rfl ?_))))
    exact j_ret1 (M := RefA d _ :: Lp) rfl rfl (by repeat ((exact .refl))) ⟨rfl, rfl⟩
end Go.Proofs.Ytjneocpbpnbopaa
