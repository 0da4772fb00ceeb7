/- The document's disk: New, Arm, Read, Sure, Files, Used, Sync, Drop, told of whole disks. -/
import Derived.Test.YtjneocpbpnbopaaDr3
set_option linter.unusedVariables false
set_option linter.unusedSimpArgs false
set_option maxRecDepth 100000
namespace Go.Proofs.Ytjneocpbpnbopaa
open Go
attribute [local irreducible] Exit.then Exit.inBlock Code.wp runS bodyPost postF J runT cutQ cutR Tr Sat blk Sl Old Star Ex Pu
attribute [local irreducible] MapA MapB IterA IterS All

/-! ### what the place of a name tells -/
theorem kv_get {fs : List RF} {s : DS} (hf : fs.map kvR = refL s) {i : Nat} {f : RF} (h : fs[i]? = some f) : (refL s)[i]? = some (f.n, ⟨f.b, f.s⟩) := by
  rw [← hf, List.getElem?_map, h]; rfl
theorem ridx_none {fs : List RF} {s : DS} (hf : fs.map kvR = refL s) {k : ByteArray} (h : getM s.fs k = none) : idxR fs k = -1 := by
  refine idxR_none fun j hj e => ?_
  obtain ⟨_, _, g, hg, _⟩ := refL_at (kv_get hf (List.getElem?_eq_getElem hj))
  rw [e, h] at hg
  cases hg
theorem ridx_some {fs : List RF} {s : DS} (hI : DInv s) (hf : fs.map kvR = refL s) {k : ByteArray} {g : FileS} (h : getM s.fs k = some g) : ∃ (i : Nat) (f : RF), i < fs.length ∧ idxR fs k = i ∧ fs[i]? = some f ∧ f.n = k ∧ f.b = g.b ∧ f.s = g.s ∧ (refL s)[i]? = some (k, g) := by
  obtain ⟨i, hi⟩ := refL_has h
  have h2 := hi
  rw [← hf, List.getElem?_map, Option.map_eq_some_iff] at h2
  obtain ⟨f, hfi, hkv⟩ := h2
  obtain ⟨hlt, hfe⟩ := List.getElem?_eq_some_iff.1 hfi
  unfold kvR at hkv
  injection hkv with h3 h4
  subst h3
  subst h4
  refine ⟨i, f, hlt, idxR_some hlt (fun j hj e => ?_) (by rw [hfe]), hfi, rfl, rfl, rfl, hi⟩
  obtain ⟨_, h5, _⟩ := refL_at (kv_get hf (List.getElem?_eq_getElem (show j < fs.length by omega)))
  obtain ⟨_, h6, _⟩ := refL_at hi
  obtain ⟨h7, h8⟩ := List.getElem?_eq_some_iff.1 h5
  obtain ⟨h9, h10⟩ := List.getElem?_eq_some_iff.1 h6
  have := (List.getElem_inj (files_nodup hI)).1 ((h8.trans e).trans h10.symm)
  omega
theorem kv_len {fs : List RF} {s : DS} (hI : DInv s) (hf : fs.map kvR = refL s) : fs.length = s.fs.length ∧ fs.length ≤ 64 := by
  have h1 := congrArg List.length hf
  rw [List.length_map, refL_len] at h1
  have := hI.many
  exact ⟨h1, by omega⟩
theorem kv_sum {fs : List RF} {s : DS} (hI : DInv s) (hf : fs.map kvR = refL s) : sumR fs = usedN s.fs := by
  rw [← sumK_used hI]
  unfold sumR sumK
  have h1 : fs.map (fun f => f.b.length) = (fs.map kvR).map fun e => e.2.b.length := by rw [List.map_map]; rfl
  rw [h1, hf]
  unfold refL
  rw [List.map_map]
  congr 1
  refine List.map_congr_left fun k hk => ?_
  show (fileOf s k).b.length = (readB s k).length
  unfold fileOf readB
  cases getM s.fs k <;> rfl
theorem kv_names {fs : List RF} {s : DS} (hf : fs.map kvR = refL s) : fs.map RF.n = filesL s := by
  rw [← refL_names, ← hf, List.map_map]; rfl
theorem bar_one (s : DS) (k : ByteArray) : barE s.down k k = readyE s [k] := by
  unfold barE readyE badN
  split
  · rfl
  · cases hk : mayB k <;> simp [hk]
theorem bar_two (s : DS) (k t : ByteArray) : barE s.down k t = readyE s [k, t] := by
  unfold barE readyE badN
  split
  · rfl
  · cases hk : mayB k <;> cases ht : mayB t <;> simp [hk, ht]
theorem ready_cases (s : DS) (ks : List ByteArray) : readyE s ks = 41 ∨ readyE s ks = 5 ∨ (readyE s ks = 0 ∧ s.down = false) := by
  unfold readyE
  split
  · exact .inl rfl
  · rename_i h
    split
    · exact .inr (.inl rfl)
    · exact .inr (.inr ⟨rfl, by simpa using h⟩)
theorem known_bad {s : DS} {ks : List ByteArray} {k : ByteArray} {e : Int} (h : readyE s ks = e) (he : e ≠ 0) : knownE s ks k = e := by unfold knownE; rw [if_pos (by rw [h]; exact he), h]
theorem known_none {s : DS} {ks : List ByteArray} {k : ByteArray} (h : readyE s ks = 0) (hg : getM s.fs k = none) : knownE s ks k = 10 := by unfold knownE; rw [if_neg (by rw [h]; simp), if_pos hg]
theorem known_some {s : DS} {ks : List ByteArray} {k : ByteArray} {g : FileS} (h : readyE s ks = 0) (hg : getM s.fs k = some g) : knownE s ks k = 0 := by unfold knownE; rw [if_neg (by rw [h]; simp), if_neg (by rw [hg]; simp)]
theorem pcR_get {fs : List RF} {i : Nat} {f : RF} (h : fs[i]? = some f) : (fs.map pcR)[i]? = some (Sl 5 f.a f.c f.b) := by rw [List.getElem?_map, h]; rfl
theorem pcR_set (fs : List RF) (i : Nat) (f : RF) : (fs.map pcR).set i (Sl 5 f.a f.c f.b) = (fs.set i f).map pcR := by rw [List.map_set]; rfl
theorem kv_set {fs : List RF} {s s' : DS} (hI : DInv s) (hf : fs.map kvR = refL s) {i : Nat} {k : ByteArray} {g : FileS} (hi : (refL s)[i]? = some (k, g)) (f' : RF) (hn : f'.n = k) (hs : refL s' = refL (withFs s (putM s.fs k ⟨f'.b, f'.s⟩))) : (fs.set i f').map kvR = refL s' := by
  rw [hs, refL_set hI hi, ← hf, List.map_set]
  unfold kvR
  rw [hn]

theorem sat_ref {L : List HP} {w : World} {d : Nat} {s : DS} (h : Sat (RefA d s :: L) w) : ∃ fs a c, fs.map kvR = refL s ∧ Sat (blk d 40 [.slice a fs.length c, .int .i64 s.room, .bool s.down, .int .i64 s.arm] :: Sl 76 a c fs :: All (fs.map pcR) :: L) w := by
  obtain ⟨q, hq⟩ := h.ex
  obtain ⟨hp, h2⟩ := hq.star.pu
  refine ⟨q.1, q.2.1, q.2.2, hp, ?_⟩
  exact (((h2.star.tk (.s .z)).star.tk (.s .z)).tk (.s (.s .z))).pk (.cons .z (.cons (.s .z) (.cons .z .refl)))
theorem sat_unref {L : List HP} {w : World} {d : Nat} {s : DS} {fs : List RF} {a : Option Addr} {c : Nat} (hf : fs.map kvR = refL s) (h : Sat (blk d 40 [.slice a fs.length c, .int .i64 s.room, .bool s.down, .int .i64 s.arm] :: Sl 76 a c fs :: All (fs.map pcR) :: L) w) : Sat (RefA d s :: L) w := by
  have h1 := (((h.tk (.s .z)).tk (.s (.s .z))).tk (.s .z)).unstar
  have h2 := (h1.tk (.s .z)).unstar
  have h3 := (h2.unpu (p := fs.map kvR = refL s) hf).unstar
  exact h3.unex (α := List RF × Option Addr × Nat) (A := fun q => Star (Pu (q.1.map kvR = refL s)) (Star (blk d 40 [.slice q.2.1 q.1.length q.2.2, .int .i64 s.room, .bool s.down, .int .i64 s.arm]) (Star (Sl 76 q.2.1 q.2.2 q.1) (All (q.1.map pcR))))) (fs, a, c)
theorem tk_mid : ∀ (M : List HP) (A : HP) (F : List HP), Tk (M ++ A :: F) A (M ++ F)
  | [], _, _ => .z
  | _ :: M, A, F => .s (tk_mid M A F)
attribute [local semireducible] Tr in
theorem tr_ref {f : FuncId} {d : Nat} {s : DS} {R : Value → List HP → Prop} {vs : List Value} (h : ∀ fs a c, fs.map kvR = refL s → Tr Try.prog f vs [blk d 40 [.slice a fs.length c, .int .i64 s.room, .bool s.down, .int .i64 s.arm], Sl 76 a c fs] (fun v M => ∃ M', M = blk d 40 [.slice a fs.length c, .int .i64 s.room, .bool s.down, .int .i64 s.arm] :: Sl 76 a c fs :: M' ∧ R v (RefA d s :: M'))) : Tr Try.prog f vs [RefA d s] R := by
  intro F w hw
  obtain ⟨fs, a, c, hf, h1⟩ := sat_ref hw
  refine (h fs a c hf (All (fs.map pcR) :: F) w h1).mono fun e w' ⟨v, M, he, ⟨M', hM, hR⟩, h2⟩ => ⟨v, RefA d s :: M', he, hR, ?_⟩
  subst hM
  refine sat_unref hf (h2.pk (.cons .z (.cons .z ?_)))
  exact .cons (tk_mid M' _ F) .refl
theorem rnew_ok (room : Int) (h : 0 ≤ room ∧ room ≤ 1048576) : Tr Try.prog 12 [.int .i64 room] [] (fun v M => ∃ d, v = .pointer (some ⟨d, 0, none⟩) ∧ M = [RefA d ⟨room, false, -1, []⟩]) := by
  refine tr_enter Try.func12 rfl Try.ntmps12 rfl (fun F => ?_)
  repeat' (first | (show J _ _ _ (runS _ _ _ (⟨_, _, _, _, _, none⟩ :: _)); first | (show J _ _ _ (runS _ _ _ (⟨_, .move _, _, _, _, _⟩ :: _)); refine j_move rfl rfl ?_) | (show J _ _ _ (runS _ _ _ (⟨_, .binOp _ _ _ _ _, _, _, _, _⟩ :: _)); ((refine j_bin rfl rfl rfl rfl ?_))) | (show J _ _ _ (runS _ _ _ (⟨_, .assign _, _, _, _, _⟩ :: _)); refine j_assign rfl rfl ?_) | (show J _ _ _ (runS _ _ _ (⟨_, .pick _ _ _, _, _, _, _⟩ :: _)); (first | refine j_pick_t rfl rfl rfl ?_ | refine j_pick_f rfl rfl rfl ?_)) | (show J _ _ _ (runS _ _ _ (⟨_, .build _ _, _, _, _, _⟩ :: _)); refine j_build rfl (by repeat constructor) rfl ?_) | (show J _ _ _ (runS _ _ _ (⟨_, .box _ _, _, _, _, _⟩ :: _)); refine j_box rfl rfl (fun b => ?_))) | refine j_nil ?_ | (show J _ _ _ (runS _ _ _ (⟨_, _, _, _, _, some _⟩ :: _)); first | refine j_gno_u rfl rfl rfl rfl ?_ | refine j_gyes rfl rfl rfl ?_ | refine j_gsplit_dec rfl rfl (fun h => ?_) (fun h => ?_)) | (show J _ _ _ (Code.wp _ _ _); first | refine j_seq ?_ | refine j_region ?_ | (show J _ _ _ (Code.wp _ (.cond _ _ _) _); first | refine j_true rfl ?_ | refine j_dec rfl (fun h => ?_) (fun h => ?_)) | refine j_ret ?_ | refine j_skip ?_) | refine j_then ?_ | refine j_then_ret ?_)
  iterate 2
    · exfalso; omega
  refine j_all0 (j_sl0 (α := RF) 76 none ?_)
  rename_i b
  refine j_tk (A := blk b _ _) (by repeat constructor) (j_unref (s := ⟨room, false, -1, []⟩) (fs := []) (refL_nil room (-1) false).symm rfl rfl rfl rfl ?_)
  exact j_ret1 (M := [RefA b ⟨room, false, -1, []⟩]) rfl rfl .refl ⟨b, rfl, rfl⟩
theorem rnew_no (room : Int) (h : ¬ (0 ≤ room ∧ room ≤ 1048576)) : Tr Try.prog 12 [.int .i64 room] [] (fun v M => v = .pointer none ∧ M = []) := by
  refine tr_enter Try.func12 rfl Try.ntmps12 rfl (fun F => ?_)
  repeat' (first | (show J _ _ _ (runS _ _ _ (⟨_, _, _, _, _, none⟩ :: _)); first | (show J _ _ _ (runS _ _ _ (⟨_, .move _, _, _, _, _⟩ :: _)); refine j_move rfl rfl ?_) | (show J _ _ _ (runS _ _ _ (⟨_, .binOp _ _ _ _ _, _, _, _, _⟩ :: _)); ((refine j_bin rfl rfl rfl rfl ?_))) | (show J _ _ _ (runS _ _ _ (⟨_, .assign _, _, _, _, _⟩ :: _)); refine j_assign rfl rfl ?_) | (show J _ _ _ (runS _ _ _ (⟨_, .pick _ _ _, _, _, _, _⟩ :: _)); (first | refine j_pick_t rfl rfl rfl ?_ | refine j_pick_f rfl rfl rfl ?_)) | (show J _ _ _ (runS _ _ _ (⟨_, .build _ _, _, _, _, _⟩ :: _)); refine j_build rfl (by repeat constructor) rfl ?_) | (show J _ _ _ (runS _ _ _ (⟨_, .box _ _, _, _, _, _⟩ :: _)); refine j_box rfl rfl (fun b => ?_))) | refine j_nil ?_ | (show J _ _ _ (runS _ _ _ (⟨_, _, _, _, _, some _⟩ :: _)); first | refine j_gno_u rfl rfl rfl rfl ?_ | refine j_gyes rfl rfl rfl ?_ | refine j_gsplit_dec rfl rfl (fun h => ?_) (fun h => ?_)) | (show J _ _ _ (Code.wp _ _ _); first | refine j_seq ?_ | refine j_region ?_ | (show J _ _ _ (Code.wp _ (.cond _ _ _) _); first | refine j_true rfl ?_ | refine j_dec rfl (fun h => ?_) (fun h => ?_)) | refine j_ret ?_ | refine j_skip ?_) | refine j_then ?_ | refine j_then_ret ?_)
  iterate 2
    · exact j_ret1 (M := []) rfl rfl .refl ⟨rfl, rfl⟩
  exfalso; omega

theorem rarm_spec (d : Nat) (s : DS) (n : Int) : Tr Try.prog 38 [.pointer (some ⟨d, 0, none⟩), .int .i64 n] [RefA d s] (fun v M => v = .tuple #[] ∧ M = [RefA d ⟨s.room, s.down, armN n, s.fs⟩]) := by
  refine tr_enter Try.func38 rfl Try.ntmps38 rfl (fun F => ?_)
  refine j_ref (fun fs a c hf => ?_)
  repeat' (first | (show J _ _ _ (runS _ _ _ (⟨_, _, _, _, _, none⟩ :: _)); first | (show J _ _ _ (runS _ _ _ (⟨_, .move _, _, _, _, _⟩ :: _)); refine j_move rfl rfl ?_) | (show J _ _ _ (runS _ _ _ (⟨_, .fieldAddr _ _ _, _, _, _, _⟩ :: _)); refine j_fieldAddr rfl rfl ?_) | (show J _ _ _ (runS _ _ _ (⟨_, .nilCheck _, _, _, _, _⟩ :: _)); ((refine j_nilCheck rfl rfl ?_))) | (show J _ _ _ (runS _ _ _ (⟨_, .binOp _ _ _ _ _, _, _, _, _⟩ :: _)); ((refine j_bin rfl rfl rfl rfl ?_))) | (show J _ _ _ (runS _ _ _ (⟨_, .store _ _ _, _, _, _, _⟩ :: _)); ((refine j_set rfl rfl rfl (by rfl) (by repeat constructor) (by repeat constructor) ?_)))) | refine j_nil ?_ | (show J _ _ _ (Code.wp _ _ _); first | refine j_seq ?_ | refine j_region ?_ | (show J _ _ _ (Code.wp _ (.cond _ _ _) _); (refine j_dec rfl (fun h => ?_) (fun h => ?_))) | refine j_skip ?_) | refine j_then ?_ | refine j_retn ?_)
  · refine j_unref (s := ⟨s.room, s.down, armN n, s.fs⟩) hf rfl rfl rfl (by unfold armN; dsimp only; split <;> omega) ?_
    exact j_ret0 (M := [RefA d ⟨s.room, s.down, armN n, s.fs⟩]) rfl .refl ⟨rfl, rfl⟩
  · refine j_unref (s := ⟨s.room, s.down, armN n, s.fs⟩) hf rfl rfl rfl (by unfold armN; dsimp only; split <;> omega) ?_
    exact j_ret0 (M := [RefA d ⟨s.room, s.down, armN n, s.fs⟩]) rfl .refl ⟨rfl, rfl⟩

theorem rsure_spec (d : Nat) (s : DS) (k : ByteArray) (hI : DInv s) : Tr Try.prog 18 [.pointer (some ⟨d, 0, none⟩), .string k] [RefA d s] (fun v M => v = .int .i64 (sureN s k) ∧ M = [RefA d s]) := by
  refine tr_enter Try.func18 rfl Try.ntmps18 rfl (fun F => ?_)
  refine j_ref (fun fs a c hf => ?_)
  have hl := kv_len hI hf
  repeat' (first | (show J _ _ _ (runS _ _ _ (⟨_, _, _, _, _, none⟩ :: _)); first | (show J _ _ _ (runS _ _ _ (⟨_, .move _, _, _, _, _⟩ :: _)); refine j_move rfl rfl ?_) | (show J _ _ _ (runS _ _ _ (⟨_, .assign _, _, _, _, _⟩ :: _)); refine j_assign rfl rfl ?_)) | refine j_nil ?_ | (show J _ _ _ (Code.wp _ _ _); first | refine j_seq ?_ | refine j_region ?_) | refine j_then ?_)
  (refine j_call rfl rfl (rfind_spec d fs a c s.room s.arm s.down k (by omega)) ((by repeat ((exact .refl)))) rfl (fun v M N h hN => ?_); obtain ⟨rfl, rfl⟩ := h; (try simp only [List.nil_append, List.cons_append, List.append_assoc] at hN); subst hN)
  cases hg : getM s.fs k with
  | none =>
    rw [ridx_none hf hg]
    repeat' (first | (show J _ _ _ (runS _ _ _ (⟨_, _, _, _, _, none⟩ :: _)); first | (show J _ _ _ (runS _ _ _ (⟨_, .move _, _, _, _, _⟩ :: _)); refine j_move rfl rfl ?_) | (show J _ _ _ (runS _ _ _ (⟨_, .binOp _ _ _ _ _, _, _, _, _⟩ :: _)); ((refine j_bin rfl rfl rfl rfl ?_))) | (show J _ _ _ (runS _ _ _ (⟨_, .assign _, _, _, _, _⟩ :: _)); refine j_assign rfl rfl ?_)) | refine j_nil ?_ | (show J _ _ _ (Code.wp _ _ _); first | refine j_seq ?_ | refine j_region ?_ | (show J _ _ _ (Code.wp _ (.cond _ _ _) _); (refine j_true rfl ?_)) | refine j_ret ?_) | refine j_then ?_ | refine j_then_ret ?_)
    (refine j_tk (A := All _) (by repeat constructor) (j_tk (A := Sl 76 _ _ _) (by repeat constructor) (j_tk (A := blk d _ _) (by repeat constructor) (j_unref (s := s) hf rfl rfl rfl rfl ?_))))
    exact j_ret1 (M := [RefA d s]) rfl rfl (by repeat ((exact .refl))) ⟨by unfold sureN; rw [hg]; rfl, rfl⟩
  | some g =>
    obtain ⟨i, f, hi, hix, hfi, hfn, hfb, hfs, hri⟩   := ridx_some hI hf hg
    rw [hix]
    (refine j_sl_some (α := RF) (ls := fs) (by repeat constructor) (by omega) (fun bf hbf => ?_); subst hbf)
    repeat' (first | (show J _ _ _ (runS _ _ _ (⟨_, _, _, _, _, none⟩ :: _)); first | (show J _ _ _ (runS _ _ _ (⟨_, .move _, _, _, _, _⟩ :: _)); refine j_move rfl rfl ?_) | (show J _ _ _ (runS _ _ _ (⟨_, .load _ _, _, _, _, _⟩ :: _)); ((refine j_load rfl rfl (by repeat constructor) rfl rfl ?_))) | (show J _ _ _ (runS _ _ _ (⟨_, .fieldAddr _ _ _, _, _, _, _⟩ :: _)); refine j_fieldAddr rfl rfl ?_) | (show J _ _ _ (runS _ _ _ (⟨_, .nilCheck _, _, _, _, _⟩ :: _)); ((refine j_nilCheck rfl rfl ?_))) | (show J _ _ _ (runS _ _ _ (⟨_, .binOp _ _ _ _ _, _, _, _, _⟩ :: _)); ((refine j_bin rfl rfl rfl rfl ?_))) | (show J _ _ _ (runS _ _ _ (⟨_, .assign _, _, _, _, _⟩ :: _)); refine j_assign rfl rfl ?_)) | refine j_nil ?_ | (show J _ _ _ (Code.wp _ _ _); first | refine j_seq ?_ | refine j_region ?_ | (show J _ _ _ (Code.wp _ (.cond _ _ _) _); (refine j_false rfl ?_)) | refine j_skip ?_) | refine j_then ?_)
    (refine j_idxS (α := RF) (ls := fs) rfl rfl (by repeat constructor) rfl i rfl hi rfl ?_; (repeat' ((show J _ _ _ (runS _ _ _ (⟨_, _, _, _, _, none⟩ :: _)); (show J _ _ _ (runS _ _ _ (⟨_, .fieldAddr _ _ _, _, _, _, _⟩ :: _)); refine j_fieldAddr rfl rfl ?_)))))
    refine j_ldS (α := RF) (ls := fs) (y := f) (v := .int .i64 f.s) rfl (by repeat constructor) i hfi 2 rfl rfl rfl rfl ?_
    repeat' (first | (show J _ _ _ (runS _ _ _ (⟨_, _, _, _, _, none⟩ :: _)); (show J _ _ _ (runS _ _ _ (⟨_, .assign _, _, _, _, _⟩ :: _)); refine j_assign rfl rfl ?_)) | refine j_nil ?_ | (show J _ _ _ (Code.wp _ _ _); (refine j_ret ?_)) | refine j_then ?_)
    (refine j_tk (A := All _) (by repeat constructor) (j_tk (A := Sl 76 _ _ _) (by repeat constructor) (j_tk (A := blk d _ _) (by repeat constructor) (j_unref (s := s) hf rfl rfl rfl rfl ?_))))
    exact j_ret1 (M := [RefA d s]) rfl rfl (by repeat ((exact .refl))) ⟨by unfold sureN; rw [hg, hfs]; rfl, rfl⟩

theorem rread_spec (d : Nat) (s : DS) (k : ByteArray) (hI : DInv s) : Tr Try.prog 16 [.pointer (some ⟨d, 0, none⟩), .string k] [RefA d s] (fun v M => ∃ a' c', v = .tuple #[.slice a' (readB s k).length c', .int .i64 (readE s k)] ∧ M = [RefA d s, Sl 5 a' c' (readB s k)]) := by
  refine tr_enter Try.func16 rfl Try.ntmps16 rfl (fun F => ?_)
  refine j_ref (fun fs a c hf => ?_)
  have hl := kv_len hI hf
  repeat' (first | (show J _ _ _ (runS _ _ _ (⟨_, _, _, _, _, none⟩ :: _)); first | (show J _ _ _ (runS _ _ _ (⟨_, .move _, _, _, _, _⟩ :: _)); refine j_move rfl rfl ?_) | (show J _ _ _ (runS _ _ _ (⟨_, .assign _, _, _, _, _⟩ :: _)); refine j_assign rfl rfl ?_)) | refine j_nil ?_ | (show J _ _ _ (Code.wp _ _ _); first | refine j_seq ?_ | refine j_region ?_) | refine j_then ?_)
  (refine j_call rfl rfl (rfind_spec d fs a c s.room s.arm s.down k (by omega)) ((by repeat ((exact .refl)))) rfl (fun v M N h hN => ?_); obtain ⟨rfl, rfl⟩ := h; (try simp only [List.nil_append, List.cons_append, List.append_assoc] at hN); subst hN)
  cases hg : getM s.fs k with
  | none =>
    rw [ridx_none hf hg]
    repeat' (first | (show J _ _ _ (runS _ _ _ (⟨_, _, _, _, _, none⟩ :: _)); first | (show J _ _ _ (runS _ _ _ (⟨_, .move _, _, _, _, _⟩ :: _)); refine j_move rfl rfl ?_) | (show J _ _ _ (runS _ _ _ (⟨_, .binOp _ _ _ _ _, _, _, _, _⟩ :: _)); ((refine j_bin rfl rfl rfl rfl ?_))) | (show J _ _ _ (runS _ _ _ (⟨_, .assign _, _, _, _, _⟩ :: _)); refine j_assign rfl rfl ?_)) | refine j_nil ?_ | (show J _ _ _ (Code.wp _ _ _); first | refine j_seq ?_ | refine j_region ?_ | (show J _ _ _ (Code.wp _ (.cond _ _ _) _); (refine j_true rfl ?_)) | refine j_ret ?_) | refine j_then ?_ | refine j_then_ret ?_)
    (refine j_tk (A := All _) (by repeat constructor) (j_tk (A := Sl 76 _ _ _) (by repeat constructor) (j_tk (A := blk d _ _) (by repeat constructor) (j_unref (s := s) hf rfl rfl rfl rfl ?_))))
    refine j_sl0 (α := UInt8) 5 none ?_
    exact j_ret2 (M := [RefA d s, Sl 5 none 0 ([] : List UInt8)]) rfl rfl rfl (by repeat (first | exact .refl | apply Pk.cons | constructor)) ⟨none, 0, by unfold readB readE; rw [hg]; rfl, by unfold readB; rw [hg]; rfl⟩
  | some g =>
    obtain ⟨i, f, hi, hix, hfi, hfn, hfb, hfs, hri⟩   := ridx_some hI hf hg
    have hgl := used_get hg
    rw [← hfb] at hgl
    have hu1 := hI.used
    have hu2 := hI.room
    rw [hix]
    (refine j_sl_some (α := RF) (ls := fs) (by repeat constructor) (by omega) (fun bf hbf => ?_); subst hbf)
    repeat' (first | (show J _ _ _ (runS _ _ _ (⟨_, _, _, _, _, none⟩ :: _)); first | (show J _ _ _ (runS _ _ _ (⟨_, .move _, _, _, _, _⟩ :: _)); refine j_move rfl rfl ?_) | (show J _ _ _ (runS _ _ _ (⟨_, .binOp _ _ _ _ _, _, _, _, _⟩ :: _)); ((refine j_bin rfl rfl rfl rfl ?_))) | (show J _ _ _ (runS _ _ _ (⟨_, .assign _, _, _, _, _⟩ :: _)); refine j_assign rfl rfl ?_)) | refine j_nil ?_ | (show J _ _ _ (Code.wp _ _ _); first | refine j_seq ?_ | refine j_region ?_ | (show J _ _ _ (Code.wp _ (.cond _ _ _) _); (refine j_false rfl ?_)) | refine j_skip ?_) | refine j_then ?_)
    refine j_lit0 (α := UInt8) rfl (fun b0 => ?_)
    repeat' ((show J _ _ _ (runS _ _ _ (⟨_, _, _, _, _, none⟩ :: _)); first | (show J _ _ _ (runS _ _ _ (⟨_, .move _, _, _, _, _⟩ :: _)); refine j_move rfl rfl ?_) | (show J _ _ _ (runS _ _ _ (⟨_, .load _ _, _, _, _, _⟩ :: _)); ((refine j_load rfl rfl (by repeat constructor) rfl rfl ?_))) | (show J _ _ _ (runS _ _ _ (⟨_, .fieldAddr _ _ _, _, _, _, _⟩ :: _)); refine j_fieldAddr rfl rfl ?_) | (show J _ _ _ (runS _ _ _ (⟨_, .nilCheck _, _, _, _, _⟩ :: _)); ((refine j_nilCheck rfl rfl ?_)))))
    (refine j_idxS (α := RF) (ls := fs) rfl rfl (by repeat constructor) rfl i rfl hi rfl ?_; (repeat' ((show J _ _ _ (runS _ _ _ (⟨_, _, _, _, _, none⟩ :: _)); (show J _ _ _ (runS _ _ _ (⟨_, .fieldAddr _ _ _, _, _, _, _⟩ :: _)); refine j_fieldAddr rfl rfl ?_)))))
    refine j_ldS (α := RF) (ls := fs) (y := f) (v := .slice f.a f.b.length f.c) rfl (by repeat constructor) i hfi 1 rfl rfl rfl rfl ?_
    refine j_tk (A := All _) (by repeat constructor) (j_focus (A := Sl 5 f.a f.c f.b) (pcR_get hfi) ?_)
    refine j_append (α := UInt8) (ls := []) (ms := f.b) rfl rfl rfl (fun _ _ => (by repeat constructor)) (M := [Sl 5 f.a f.c f.b]) (by repeat ((exact .refl))) sees_sl rfl rfl (by unfold maxLen; simp; omega) (by simp; omega) rfl (fun a2 c2 _ => ?_)
    rw [List.nil_append]
    refine j_tk (A := All _) (by repeat constructor) (j_tk (A := Sl 5 f.a f.c f.b) (by repeat constructor) (j_unfocus (A' := Sl 5 f.a f.c f.b) (by simpa using hi) ?_))
    rw [set_self (pcR_get hfi)]
    repeat' (first | (show J _ _ _ (runS _ _ _ (⟨_, _, _, _, _, none⟩ :: _)); (show J _ _ _ (runS _ _ _ (⟨_, .assign _, _, _, _, _⟩ :: _)); refine j_assign rfl rfl ?_)) | refine j_nil ?_ | (show J _ _ _ (Code.wp _ _ _); (refine j_ret ?_)) | refine j_then ?_)
    (refine j_tk (A := All _) (by repeat constructor) (j_tk (A := Sl 76 _ _ _) (by repeat constructor) (j_tk (A := blk d _ _) (by repeat constructor) (j_unref (s := s) hf rfl rfl rfl rfl ?_))))
    exact j_ret2 (M := [RefA d s, Sl 5 a2 c2 f.b]) rfl rfl rfl (by repeat ((exact .refl))) ⟨a2, c2, by unfold readB readE; rw [hg, hfb]; rfl, by unfold readB; rw [hg, hfb]; rfl⟩

theorem rfileS_spec (d : Nat) (s : DS) (hI : DInv s) : Tr Try.prog 42 [.pointer (some ⟨d, 0, none⟩)] [RefA d s] (fun v M => ∃ a' c', v = .slice a' (filesL s).length c' ∧ M = [RefA d s, Sl 9 a' c' (filesL s)]) :=
  tr_ref (fun fs a c hf => (rfiles_spec d fs a c s.room s.arm s.down (by have := kv_len hI hf; omega)).mono fun v M ⟨a', c', hv, hM⟩ => by
    rw [kv_names hf] at hv hM
    exact ⟨[Sl 9 a' c' (filesL s)], hM, ⟨a', c', hv, rfl⟩⟩)
theorem rusedS_spec (d : Nat) (s : DS) (hI : DInv s) : Tr Try.prog 43 [.pointer (some ⟨d, 0, none⟩)] [RefA d s] (fun v M => v = .int .i64 (usedN s.fs : Nat) ∧ M = [RefA d s]) := 
  tr_ref (fun fs a c hf => (rused_spec d fs a c s.room s.arm s.down (by have := kv_len hI hf; omega) (by rw [kv_sum hI hf]; have := hI.used; have := hI.room; omega)).mono fun v M ⟨hv, hM⟩ => by
    rw [kv_sum hI hf] at hv
    exact ⟨[], hM, hv, rfl⟩)

theorem rsync_spec (d : Nat) (s : DS) (k : ByteArray) (hI : DInv s) (hk : k.size ≤ 9223372036854775807) : Tr Try.prog 34 [.pointer (some ⟨d, 0, none⟩), .string k] [RefA d s] (fun v M => v = .int .i64 (syncN s k).1 ∧ M = [RefA d (syncN s k).2]) := by
  refine tr_enter Try.func34 rfl Try.ntmps34 rfl (fun F => ?_)
  refine j_ref (fun fs a c hf => ?_)
  have hl := kv_len hI hf
  repeat' (first | (show J _ _ _ (runS _ _ _ (⟨_, _, _, _, _, none⟩ :: _)); first | (show J _ _ _ (runS _ _ _ (⟨_, .move _, _, _, _, _⟩ :: _)); refine j_move rfl rfl ?_) | (show J _ _ _ (runS _ _ _ (⟨_, .assign _, _, _, _, _⟩ :: _)); refine j_assign rfl rfl ?_)) | refine j_nil ?_ | (show J _ _ _ (Code.wp _ _ _); first | refine j_seq ?_ | refine j_region ?_) | refine j_then ?_)
  (refine j_call rfl rfl (rbarred_spec d (.slice a fs.length c) s.room s.arm s.down k k hk hk) ((by repeat ((exact .refl)))) rfl (fun v M N h hN => ?_); obtain ⟨rfl, rfl⟩ := h; (try simp only [List.nil_append, List.cons_append, List.append_assoc] at hN); subst hN)
  rw [bar_one]
  repeat' (first | (show J _ _ _ (runS _ _ _ (⟨_, _, _, _, _, none⟩ :: _)); first | (show J _ _ _ (runS _ _ _ (⟨_, .move _, _, _, _, _⟩ :: _)); refine j_move rfl rfl ?_) | (show J _ _ _ (runS _ _ _ (⟨_, .assign _, _, _, _, _⟩ :: _)); refine j_assign rfl rfl ?_)) | refine j_nil ?_ | (show J _ _ _ (Code.wp _ _ _); first | refine j_seq ?_ | refine j_region ?_) | refine j_then ?_)
  (refine j_call rfl rfl (rfind_spec d fs a c s.room s.arm s.down k (by omega)) ((by repeat ((exact .refl)))) rfl (fun v M N h hN => ?_); obtain ⟨rfl, rfl⟩ := h; (try simp only [List.nil_append, List.cons_append, List.append_assoc] at hN); subst hN)
  rcases ready_cases s [k] with hr | hr | ⟨hr, hdn⟩
  · have hS : syncN s k = (41, s) := by unfold syncN; rw [known_bad hr (by decide), if_pos (by decide)]
    rw [hr, hS]
    repeat' (first | (show J _ _ _ (runS _ _ _ (⟨_, _, _, _, _, none⟩ :: _)); first | (show J _ _ _ (runS _ _ _ (⟨_, .move _, _, _, _, _⟩ :: _)); refine j_move rfl rfl ?_) | (show J _ _ _ (runS _ _ _ (⟨_, .binOp _ _ _ _ _, _, _, _, _⟩ :: _)); ((refine j_bin rfl rfl rfl rfl ?_))) | (show J _ _ _ (runS _ _ _ (⟨_, .assign _, _, _, _, _⟩ :: _)); refine j_assign rfl rfl ?_) | (show J _ _ _ (runS _ _ _ (⟨_, .pick _ _ _, _, _, _, _⟩ :: _)); ((refine j_pick_f rfl rfl rfl ?_)))) | refine j_nil ?_ | (show J _ _ _ (runS _ _ _ (⟨_, _, _, _, _, some _⟩ :: _)); (refine j_gno_u rfl rfl rfl rfl ?_)) | (show J _ _ _ (Code.wp _ _ _); first | refine j_seq ?_ | refine j_region ?_ | (show J _ _ _ (Code.wp _ (.cond _ _ _) _); (refine j_false rfl ?_)) | refine j_ret ?_ | refine j_skip ?_) | refine j_then ?_)
    (refine j_tk (A := All _) (by repeat constructor) (j_tk (A := Sl 76 _ _ _) (by repeat constructor) (j_tk (A := blk d _ _) (by repeat constructor) (j_unref (s := s) hf rfl rfl rfl rfl ?_))))
    exact j_ret1 (M := [RefA d s]) rfl rfl (by repeat ((exact .refl))) ⟨rfl, rfl⟩
  · have hS : syncN s k = (5, s) := by unfold syncN; rw [known_bad hr (by decide), if_pos (by decide)]
    rw [hr, hS]
    repeat' (first | (show J _ _ _ (runS _ _ _ (⟨_, _, _, _, _, none⟩ :: _)); first | (show J _ _ _ (runS _ _ _ (⟨_, .move _, _, _, _, _⟩ :: _)); refine j_move rfl rfl ?_) | (show J _ _ _ (runS _ _ _ (⟨_, .binOp _ _ _ _ _, _, _, _, _⟩ :: _)); ((refine j_bin rfl rfl rfl rfl ?_))) | (show J _ _ _ (runS _ _ _ (⟨_, .assign _, _, _, _, _⟩ :: _)); refine j_assign rfl rfl ?_) | (show J _ _ _ (runS _ _ _ (⟨_, .pick _ _ _, _, _, _, _⟩ :: _)); ((refine j_pick_f rfl rfl rfl ?_)))) | refine j_nil ?_ | (show J _ _ _ (runS _ _ _ (⟨_, _, _, _, _, some _⟩ :: _)); (refine j_gno_u rfl rfl rfl rfl ?_)) | (show J _ _ _ (Code.wp _ _ _); first | refine j_seq ?_ | refine j_region ?_ | (show J _ _ _ (Code.wp _ (.cond _ _ _) _); (refine j_false rfl ?_)) | refine j_ret ?_ | refine j_skip ?_) | refine j_then ?_)
    (refine j_tk (A := All _) (by repeat constructor) (j_tk (A := Sl 76 _ _ _) (by repeat constructor) (j_tk (A := blk d _ _) (by repeat constructor) (j_unref (s := s) hf rfl rfl rfl rfl ?_))))
    exact j_ret1 (M := [RefA d s]) rfl rfl (by repeat ((exact .refl))) ⟨rfl, rfl⟩
  rw [hr]
  cases hg : getM s.fs k with
  | none =>
    have hS : syncN s k = (10, s) := by unfold syncN; rw [known_none hr hg, if_pos (by decide)]
    rw [ridx_none hf hg, hS]
    repeat' (first | (show J _ _ _ (runS _ _ _ (⟨_, _, _, _, _, none⟩ :: _)); first | (show J _ _ _ (runS _ _ _ (⟨_, .move _, _, _, _, _⟩ :: _)); refine j_move rfl rfl ?_) | (show J _ _ _ (runS _ _ _ (⟨_, .binOp _ _ _ _ _, _, _, _, _⟩ :: _)); ((refine j_bin rfl rfl rfl rfl ?_))) | (show J _ _ _ (runS _ _ _ (⟨_, .assign _, _, _, _, _⟩ :: _)); refine j_assign rfl rfl ?_) | (show J _ _ _ (runS _ _ _ (⟨_, .pick _ _ _, _, _, _, _⟩ :: _)); (first | refine j_pick_t rfl rfl rfl ?_ | refine j_pick_f rfl rfl rfl ?_))) | refine j_nil ?_ | (show J _ _ _ (runS _ _ _ (⟨_, _, _, _, _, some _⟩ :: _)); first | refine j_gno_u rfl rfl rfl rfl ?_ | refine j_gyes rfl rfl rfl ?_) | (show J _ _ _ (Code.wp _ _ _); first | refine j_seq ?_ | refine j_region ?_ | (show J _ _ _ (Code.wp _ (.cond _ _ _) _); first | refine j_true rfl ?_ | refine j_false rfl ?_) | refine j_ret ?_ | refine j_skip ?_) | refine j_then ?_)
    (refine j_tk (A := All _) (by repeat constructor) (j_tk (A := Sl 76 _ _ _) (by repeat constructor) (j_tk (A := blk d _ _) (by repeat constructor) (j_unref (s := s) hf rfl rfl rfl rfl ?_))))
    exact j_ret1 (M := [RefA d s]) rfl rfl (by repeat ((exact .refl))) ⟨rfl, rfl⟩
  | some g =>
    obtain ⟨i, f, hi, hix, hfi, hfn, hfb, hfs, hri⟩ := ridx_some hI hf hg
    have hfo : fileOf s k = g := by unfold fileOf; rw [hg]; rfl
    rw [hix]
    (refine j_sl_some (α := RF) (ls := fs) (by repeat constructor) (by omega) (fun bf hbf => ?_); subst hbf)
    repeat' (first | (show J _ _ _ (runS _ _ _ (⟨_, _, _, _, _, none⟩ :: _)); first | (show J _ _ _ (runS _ _ _ (⟨_, .move _, _, _, _, _⟩ :: _)); refine j_move rfl rfl ?_) | (show J _ _ _ (runS _ _ _ (⟨_, .binOp _ _ _ _ _, _, _, _, _⟩ :: _)); ((refine j_bin rfl rfl rfl rfl ?_))) | (show J _ _ _ (runS _ _ _ (⟨_, .assign _, _, _, _, _⟩ :: _)); refine j_assign rfl rfl ?_) | (show J _ _ _ (runS _ _ _ (⟨_, .pick _ _ _, _, _, _, _⟩ :: _)); ((refine j_pick_t rfl rfl rfl ?_)))) | refine j_nil ?_ | (show J _ _ _ (runS _ _ _ (⟨_, _, _, _, _, some _⟩ :: _)); (refine j_gyes rfl rfl rfl ?_)) | (show J _ _ _ (Code.wp _ _ _); first | refine j_seq ?_ | refine j_region ?_ | (show J _ _ _ (Code.wp _ (.cond _ _ _) _); (refine j_false rfl ?_)) | refine j_skip ?_) | refine j_then ?_)
    (refine j_call rfl rfl (rfails_spec d (.slice (some ⟨bf, 0, none⟩) fs.length c) s hdn hI.arm) ((by repeat ((exact .refl)))) rfl (fun v M N h hN => ?_); obtain ⟨rfl, rfl⟩ := h; (try simp only [List.nil_append, List.cons_append, List.append_assoc] at hN); subst hN)
    repeat' (first | (show J _ _ _ (runS _ _ _ (⟨_, _, _, _, _, none⟩ :: _)); first | (show J _ _ _ (runS _ _ _ (⟨_, .move _, _, _, _, _⟩ :: _)); refine j_move rfl rfl ?_) | (show J _ _ _ (runS _ _ _ (⟨_, .load _ _, _, _, _, _⟩ :: _)); ((refine j_load rfl rfl (by repeat constructor) rfl rfl ?_))) | (show J _ _ _ (runS _ _ _ (⟨_, .fieldAddr _ _ _, _, _, _, _⟩ :: _)); refine j_fieldAddr rfl rfl ?_) | (show J _ _ _ (runS _ _ _ (⟨_, .nilCheck _, _, _, _, _⟩ :: _)); ((refine j_nilCheck rfl rfl ?_))) | (show J _ _ _ (runS _ _ _ (⟨_, .binOp _ _ _ _ _, _, _, _, _⟩ :: _)); ((refine j_bin rfl rfl rfl rfl ?_))) | (show J _ _ _ (runS _ _ _ (⟨_, .assign _, _, _, _, _⟩ :: _)); refine j_assign rfl rfl ?_) | (show J _ _ _ (runS _ _ _ (⟨_, .pick _ _ _, _, _, _, _⟩ :: _)); ((refine j_pick_t rfl rfl rfl ?_)))) | refine j_nil ?_ | (show J _ _ _ (Code.wp _ _ _); first | refine j_seq ?_ | refine j_region ?_ | (show J _ _ _ (Code.wp _ (.cond _ _ _) _); first | refine j_true rfl ?_ | refine j_false rfl ?_ | refine j_dec rfl (fun h => ?_) (fun h => ?_)) | refine j_ret ?_ | refine j_skip ?_ | refine j_draw (by decide +kernel) ?_) | refine j_then ?_)
    · have hS : syncN s k = (41, failS s) := by unfold syncN; rw [known_some hr hg, if_neg (by decide), if_pos h]
      rw [hS]
      (refine j_tk (A := All _) (by repeat constructor) (j_tk (A := Sl 76 _ _ _) (by repeat constructor) (j_tk (A := blk d _ _) (by repeat constructor) (j_unref (s := failS s) (show fs.map kvR = refL (failS s) from hf) rfl rfl rfl rfl ?_))))
      exact j_ret1 (M := [RefA d (failS s)]) rfl rfl (by repeat ((exact .refl))) ⟨rfl, rfl⟩
    have hS : syncN s k = (0, withFs (failS s) (putM s.fs k ⟨g.b, g.b.length⟩)) := by unfold syncN; rw [known_some hr hg, if_neg (by decide), if_neg h, hfo]
    rw [hS]
    (refine j_idxS (α := RF) (ls := fs) rfl rfl (by repeat constructor) rfl i rfl hi rfl ?_; (repeat' ((show J _ _ _ (runS _ _ _ (⟨_, _, _, _, _, none⟩ :: _)); (show J _ _ _ (runS _ _ _ (⟨_, .fieldAddr _ _ _, _, _, _, _⟩ :: _)); refine j_fieldAddr rfl rfl ?_)))))
    refine j_ldS (α := RF) (ls := fs) (y := f) (v := .slice f.a f.b.length f.c) rfl (by repeat constructor) i hfi 1 rfl rfl rfl rfl ?_
    repeat' ((show J _ _ _ (runS _ _ _ (⟨_, _, _, _, _, none⟩ :: _)); (show J _ _ _ (runS _ _ _ (⟨_, .call ⟨.builtin .len, _, _⟩, _, _, _, _⟩ :: _)); ((refine j_len rfl rfl ?_)))))
    (refine j_idxS (α := RF) (ls := fs) rfl rfl (by repeat constructor) rfl i rfl hi rfl ?_; (repeat' ((show J _ _ _ (runS _ _ _ (⟨_, _, _, _, _, none⟩ :: _)); (show J _ _ _ (runS _ _ _ (⟨_, .fieldAddr _ _ _, _, _, _, _⟩ :: _)); refine j_fieldAddr rfl rfl ?_)))))
    (refine j_set_sl (α := RF) (ls := fs) rfl rfl rfl rfl i 2 hi rfl (by decide) ⟨f.n, f.a, f.c, f.b, f.b.length⟩ (by rw [(List.getElem?_eq_some_iff.1 hfi).2]; rfl) (by repeat constructor) ?_)
    rw [show fs.map pcR = (fs.set i ⟨f.n, f.a, f.c, f.b, f.b.length⟩).map pcR from (set_self (pcR_get hfi)).symm.trans (pcR_set fs i ⟨f.n, f.a, f.c, f.b, f.b.length⟩)]
    repeat' (first | (show J _ _ _ (runS _ _ _ (⟨_, _, _, _, _, none⟩ :: _)); first | (show J _ _ _ (runS _ _ _ (⟨_, .move _, _, _, _, _⟩ :: _)); refine j_move rfl rfl ?_) | (show J _ _ _ (runS _ _ _ (⟨_, .assign _, _, _, _, _⟩ :: _)); refine j_assign rfl rfl ?_)) | refine j_nil ?_ | (show J _ _ _ (Code.wp _ _ _); first | refine j_seq ?_ | refine j_region ?_ | refine j_ret ?_) | refine j_then ?_)
    have hkv : (fs.set i ⟨f.n, f.a, f.c, f.b, f.b.length⟩).map kvR = refL (withFs (failS s) (putM s.fs k ⟨g.b, g.b.length⟩)) := kv_set hI hf hri ⟨f.n, f.a, f.c, f.b, f.b.length⟩ hfn (by rw [← hfb]; rfl)
    (refine j_tk (A := All _) (by repeat constructor) (j_tk (A := Sl 76 _ _ _) (by repeat constructor) (j_tk (A := blk d _ _) (by repeat constructor) (j_unref (s := withFs (failS s) (putM s.fs k ⟨g.b, g.b.length⟩)) hkv (List.length_set ..).symm rfl rfl rfl ?_))))
    exact j_ret1 (M := [RefA d _]) rfl rfl (by repeat ((exact .refl))) ⟨rfl, rfl⟩
end Go.Proofs.Ytjneocpbpnbopaa
