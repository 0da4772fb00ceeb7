/- The document's disk: Crash. -/
import Derived.Test.YtjneocpbpnbopaaDr7
set_option linter.unusedVariables false
set_option linter.unusedSimpArgs false
set_option maxRecDepth 100000
namespace Go.Proofs.Ytjneocpbpnbopaa
open Go
attribute [local irreducible] Exit.then Exit.inBlock Code.wp runS bodyPost postF J runT cutQ cutR Tr Sat blk Sl Old Star Ex Pu
attribute [local irreducible] MapA MapB IterA IterS All
attribute [local irreducible] cutK plApp

/-- what a crash leaves, a byte at a time -/
def ownK (f : RF) (K sn : Nat) (z : Bool) (k : Nat) : List UInt8 := f.b.take (min (sn + k) K) ++ if z = true then List.replicate (sn + k - K) 0 else []
theorem ownK_start {f : RF} {K sn : Nat} {z : Bool} (h : sn ≤ K) : ownK f K sn z 0 = f.b.take sn := by
  unfold ownK
  rw [show min (sn + 0) K = sn from by omega, show sn + 0 - K = 0 from by omega]
  simp
theorem ownK_keep {f : RF} {K sn : Nat} {z : Bool} {k : Nat} (h : sn + k < K) (h2 : sn + k < f.b.length) : ownK f K sn z (k + 1) = ownK f K sn z k ++ [f.b[sn + k]] := by
  unfold ownK
  rw [show min (sn + (k + 1)) K = sn + k + 1 from by omega, show min (sn + k) K = sn + k from by omega, show sn + (k + 1) - K = 0 from by omega, show sn + k - K = 0 from by omega, List.take_add_one, List.getElem?_eq_getElem h2]
  simp
theorem ownK_zero {f : RF} {K sn : Nat} {z : Bool} {k : Nat} (h : K ≤ sn + k) (hz : z = true) : ownK f K sn z (k + 1) = ownK f K sn z k ++ [0] := by
  unfold ownK
  rw [hz, if_pos rfl, if_pos rfl, show min (sn + (k + 1)) K = min (sn + k) K from by omega, show sn + (k + 1) - K = (sn + k - K) + 1 from by omega, List.replicate_succ', List.append_assoc]
theorem ownK_none {f : RF} {K sn : Nat} {z : Bool} {k : Nat} (h : K ≤ sn + k) (hz : ¬ z = true) : ownK f K sn z (k + 1) = ownK f K sn z k := by
  unfold ownK
  rw [if_neg hz, if_neg hz, show min (sn + (k + 1)) K = min (sn + k) K from by omega]
theorem ownK_len (f : RF) (K sn : Nat) (z : Bool) (k : Nat) : (ownK f K sn z k).length ≤ sn + k := by
  unfold ownK
  split <;> simp <;> omega
theorem ownK_all {f : RF} {x : LeftS} {K sn : Nat} (hs : f.s = sn) (hl : sn ≤ f.b.length) (hK : crashK ⟨f.b, f.s⟩ x = K) : (⟨ownK f K sn x.zero (f.b.length - sn), (ownK f K sn x.zero (f.b.length - sn)).length⟩ : FileS) = crashF ⟨f.b, f.s⟩ x := by
  have h1 := crashK_le (f := ⟨f.b, f.s⟩) (x := x) ⟨by dsimp only; omega, by dsimp only; omega⟩
  dsimp only at h1
  unfold crashF ownK
  rw [hK]
  dsimp only
  rw [Int.toNat_natCast, show min (sn + (f.b.length - sn)) K = K from by omega, show sn + (f.b.length - sn) - K = f.b.length - K from by omega]
  split
  · congr 1
    simp; omega
  · rw [List.append_nil]
    congr 1
    simp; omega

structure Cr (s : DS) (l : List LeftS) (i : Nat) (fs : List RF) : Prop where
  len : fs.length = (refL s).length
  kv : ∀ (j : Nat) (f : RF) e, fs[j]? = some f → (refL s)[j]? = some e → kvR f = if j < i then (e.1, crashF e.2 ((l[j]?).getD ⟨0, false⟩)) else e
theorem cr_start {s : DS} {l : List LeftS} {fs : List RF} (hf : fs.map kvR = refL s) : Cr s l 0 fs := by
  refine ⟨by rw [← hf, List.length_map], fun j f e hj he => ?_⟩
  rw [← hf, List.getElem?_map, hj] at he
  rw [if_neg (by omega)]
  simpa using he
theorem cr_end {s : DS} (hI : DInv s) {l : List LeftS} {fs : List RF} (h : Cr s l fs.length fs) : fs.map kvR = refL (crashS s l) := by
  rw [refL_crash hI]
  apply List.ext_getElem?
  intro j
  rw [List.getElem?_map, List.getElem?_mapIdx]
  rcases Nat.lt_or_ge j fs.length with hj | hj
  · have h1 : (refL s)[j]? = some ((refL s)[j]'(by rw [← h.len]; exact hj)) := List.getElem?_eq_getElem _
    have := h.kv j _ _ (List.getElem?_eq_getElem hj) h1
    rw [List.getElem?_eq_getElem hj, h1]
    simp only [Option.map_some]
    rw [this, if_pos hj]
  · rw [List.getElem?_eq_none hj, List.getElem?_eq_none (l := refL s) (by rw [← h.len]; exact hj)]; rfl
theorem cr_step {s : DS} {l : List LeftS} {i : Nat} {fs : List RF} (h : Cr s l i fs) {f f' : RF} (hfi : fs[i]? = some f) (hn : f'.n = f.n) (hc : (⟨f'.b, f'.s⟩ : FileS) = crashF ⟨f.b, f.s⟩ ((l[i]?).getD ⟨0, false⟩)) : Cr s l (i + 1) (fs.set i f') := by
  refine ⟨by rw [List.length_set]; exact h.len, fun j g e hj he => ?_⟩
  rw [List.getElem?_set] at hj
  split at hj
  · rename_i hij
    subst hij
    split at hj
    · injection hj with hj
      subst hj
      have := h.kv i f e hfi he
      rw [if_neg (by omega)] at this
      rw [if_pos (by omega), ← this]
      unfold kvR
      rw [hn, hc]
    · cases hj
  · rename_i hij
    have := h.kv j g e hj he
    rw [this]
    by_cases hji : j < i
    · rw [if_pos hji, if_pos (by omega)]
    · rw [if_neg hji, if_neg (by omega)]
theorem cr_at {s : DS} (hI : DInv s) {l : List LeftS} {i : Nat} {fs : List RF} (h : Cr s l i fs) {f : RF} (hfi : fs[i]? = some f) : (0 ≤ f.s ∧ f.s ≤ f.b.length) ∧ f.b.length ≤ 1048576 := by
  have hlt := (List.getElem?_eq_some_iff.1 hfi).1
  have h1 : (refL s)[i]? = some ((refL s)[i]'(by rw [← h.len]; exact hlt)) := List.getElem?_eq_getElem _
  have h2 := h.kv i f _ hfi h1
  rw [if_neg (by omega)] at h2
  obtain ⟨k, g, hkg⟩ : ∃ k g, (refL s)[i]'(by rw [← h.len]; exact hlt) = (k, g) := ⟨_, _, rfl⟩
  rw [hkg] at h1 h2
  obtain ⟨_, _, g', hg, hg'⟩ := refL_at h1
  have h3 := (refL_at h1).1
  rw [hg'] at h3
  subst h3
  unfold kvR at h2
  injection h2 with h4 h5
  have h6 := hI.sure _ (getM_mem hg)
  have h7 := used_get hg
  have := hI.used
  have := hI.room
  rw [← h5] at h6 h7
  exact ⟨h6, by dsimp only at h7; omega⟩

theorem rcrash_spec (d : Nat) (s : DS) (al : Option Addr) (cl : Nat) (l : List LeftS) (Lp : List HP) (hv : Sees Lp (fun w => Vw w al l)) (hI : DInv s) :
    Tr Try.prog 39 [.pointer (some ⟨d, 0, none⟩), .slice al l.length cl] (RefA d s :: Lp) (fun v M => v = .tuple #[] ∧ M = RefA d (crashS s l) :: Lp) := by
  refine tr_enter Try.func39 rfl Try.ntmps39 rfl (fun F => ?_)
  refine j_ref (fun fs0 a c hf => ?_)
  have hl0 := kv_len hI hf
  repeat' (first | (show J _ _ _ (runS _ _ _ (⟨_, _, _, _, _, none⟩ :: _)); (show J _ _ _ (runS _ _ _ (⟨_, .assign _, _, _, _, _⟩ :: _)); refine j_assign rfl rfl ?_)) | refine j_nil ?_ | (show J _ _ _ (Code.wp _ _ _); first | refine j_seq ?_ | refine j_region ?_) | refine j_then ?_)
  refine j_block ?_
  refine j_loop (X := { q : Nat × List RF // q.1 ≤ q.2.length ∧ Cr s l q.1 q.2 }) (fun q => [(0, .pointer (some ⟨d, 0, none⟩)), (1, .slice al l.length cl), (4, .int .i64 (q.1.1 : Nat))]) (fun q => blk d 40 [.slice a q.1.2.length c, .int .i64 s.room, .bool s.down, .int .i64 s.arm] :: Sl 76 a c q.1.2 :: All (q.1.2.map pcR) :: (Lp ++ F)) (fun q => q.1.2.length - q.1.1) ⟨(0, fs0), by omega, cr_start hf⟩ ⟨rfl, rfl, rfl, trivial⟩ (by repeat ((exact .refl))) (fun q => ?_)
  obtain ⟨⟨i, fs⟩, hi0, hcr⟩ := q
  dsimp only at hi0 hcr ⊢
  have hlen : fs.length ≤ 64 := by rw [hcr.len, refL_len]; exact hI.many
  repeat' (first | (show J _ _ _ (runS _ _ _ (⟨_, _, _, _, _, none⟩ :: _)); first | (show J _ _ _ (runS _ _ _ (⟨_, .move _, _, _, _, _⟩ :: _)); refine j_move rfl rfl ?_) | (show J _ _ _ (runS _ _ _ (⟨_, .load _ _, _, _, _, _⟩ :: _)); ((refine j_load rfl rfl (by repeat constructor) rfl rfl ?_))) | (show J _ _ _ (runS _ _ _ (⟨_, .fieldAddr _ _ _, _, _, _, _⟩ :: _)); refine j_fieldAddr rfl rfl ?_) | (show J _ _ _ (runS _ _ _ (⟨_, .nilCheck _, _, _, _, _⟩ :: _)); ((refine j_nilCheck rfl rfl ?_))) | (show J _ _ _ (runS _ _ _ (⟨_, .binOp _ _ _ _ _, _, _, _, _⟩ :: _)); ((refine j_bin rfl rfl rfl rfl ?_))) | (show J _ _ _ (runS _ _ _ (⟨_, .store _ _ _, _, _, _, _⟩ :: _)); ((refine j_set rfl rfl rfl (by rfl) (by repeat constructor) (by repeat constructor) ?_))) | (show J _ _ _ (runS _ _ _ (⟨_, .call ⟨.builtin .len, _, _⟩, _, _, _, _⟩ :: _)); ((refine j_len rfl rfl ?_)))) | refine j_nil ?_ | (show J _ _ _ (Code.wp _ _ _); first | refine j_seq ?_ | refine j_region ?_ | (show J _ _ _ (Code.wp _ (.cond _ _ _) _); (refine j_dec rfl (fun h => ?_) (fun h => ?_))) | refine j_skip ?_ | refine j_exit ?_) | refine j_then ?_ | refine j_then_exit ?_ | refine j_inb_here ?_ | refine j_retn ?_)
  · have hi : i < fs.length := by omega
    obtain ⟨f, hfi⟩ : ∃ f, fs[i]? = some f := ⟨fs[i], List.getElem?_eq_getElem hi⟩
    obtain ⟨⟨hs1, hs2⟩, hfb⟩ := cr_at hI hcr hfi
    obtain ⟨sn, hsn⟩ : ∃ sn : Nat, f.s = sn := ⟨f.s.toNat, by omega⟩
    refine j_sl_some (α := RF) (ls := fs) (by repeat constructor) (by omega) (fun bf hbf => ?_)
    subst hbf
    refine j_tk (A := All _) (by repeat constructor) (j_focus (A := Sl 5 f.a f.c f.b) (pcR_get hfi) ?_)
    refine j_lens_sl (α := UInt8) (ls := f.b) (by repeat constructor) (fun hc1 hc2 => ?_)
    obtain ⟨x, hx⟩ : ∃ x, x = (l[i]?).getD ⟨0, false⟩ := ⟨_, rfl⟩
    refine j_block ?_
    (repeat refine j_seq ?_)
    repeat' (first | (show J _ _ _ (runS _ _ _ (⟨_, _, _, _, _, none⟩ :: _)); first | (show J _ _ _ (runS _ _ _ (⟨_, .store _ _ _, _, _, _, _⟩ :: _)); ((refine j_sets rfl rfl rfl (by rfl) (by repeat constructor) (by repeat constructor) (by rfl) ?_))) | (show J _ _ _ (runS _ _ _ (⟨_, .build _ _, _, _, _, _⟩ :: _)); refine j_build rfl (by repeat constructor) rfl ?_) | (show J _ _ _ (runS _ _ _ (⟨_, .alloc _, _, _, _, _⟩ :: _)); refine j_alloc rfl (fun b => ?_))) | refine j_nil ?_ | (show J _ _ _ (Code.wp _ _ _); (refine j_region ?_)) | refine j_then ?_)
    refine j_seq ?_
    refine j_cut (X := Unit) (fun _ => [(0, .pointer (some ⟨d, 0, none⟩)), (1, .slice al l.length cl), (4, .int .i64 (i : Nat)), (5, .pointer (some ⟨b, 0, none⟩))]) (fun _ => blk b 68 [.int .i64 x.keep, .bool x.zero] :: Sl 5 f.a f.c f.b :: All ((fs.map pcR).set i Emp) :: blk d 40 [.slice (some ⟨bf, 0, none⟩) fs.length c, .int .i64 s.room, .bool s.down, .int .i64 s.arm] :: Sl 76 (some ⟨bf, 0, none⟩) c fs :: (Lp ++ F)) ?_ (fun _ => ?_)
    · repeat' (first | (show J _ _ _ (runS _ _ _ (⟨_, _, _, _, _, none⟩ :: _)); first | (show J _ _ _ (runS _ _ _ (⟨_, .move _, _, _, _, _⟩ :: _)); refine j_move rfl rfl ?_) | (show J _ _ _ (runS _ _ _ (⟨_, .binOp _ _ _ _ _, _, _, _, _⟩ :: _)); ((refine j_bin rfl rfl rfl rfl ?_))) | (show J _ _ _ (runS _ _ _ (⟨_, .call ⟨.builtin .len, _, _⟩, _, _, _, _⟩ :: _)); ((refine j_len rfl rfl ?_)))) | refine j_nil ?_ | (show J _ _ _ (Code.wp _ _ _); first | refine j_seq ?_ | refine j_region ?_ | (show J _ _ _ (Code.wp _ (.cond _ _ _) _); (refine j_dec rfl (fun h => ?_) (fun h => ?_))) | refine j_skip ?_) | refine j_then ?_)
      · have hil : i < l.length := by omega
        rw [List.getElem?_eq_getElem hil, Option.getD_some] at hx
        refine j_idx (α := LeftS) (M := Lp) rfl rfl (by repeat (first | exact .refl | refine .drop ?_)) hv rfl i rfl hil rfl (fun b3 o3 ha3 hc3 => ?_)
        refine j_loadsv (M := Lp) [.int .i64 l[i].keep, .bool l[i].zero] rfl rfl rfl (by repeat (first | exact .refl | refine .drop ?_)) (fun w hw q v hq => hc3 q v hq w hw) rfl ?_
        repeat' (first | (show J _ _ _ (runS _ _ _ (⟨_, _, _, _, _, none⟩ :: _)); (show J _ _ _ (runS _ _ _ (⟨_, .store _ _ _, _, _, _, _⟩ :: _)); ((refine j_sets rfl rfl rfl (by rfl) (by repeat constructor) (by repeat constructor) (by rfl) ?_)))) | refine j_nil ?_)
        rw [← hx]
        exact j_cutend (Y := Unit) () ⟨rfl, rfl, rfl, rfl, trivial⟩ (by repeat ((exact .refl)))
      · rw [List.getElem?_eq_none (by omega)] at hx
        subst hx
        exact j_cutend (Y := Unit) () ⟨rfl, rfl, rfl, rfl, trivial⟩ (by repeat ((exact .refl)))
    repeat' (first | (show J _ _ _ (Code.wp _ _ _); (refine j_seq ?_)) | refine j_then ?_)
    refine j_planM [0, 0, 2, 6, 14, 0, 62, 126, 254, 0, 512, 1536, 3584, 0, 15872, 32256, 65024, 131070, 262143, 524287] [0, 0, 2, 4, 8, 0, 48, 64, 128, 0, 512, 1024, 2048, 0, 12288, 16384, 32768, 65792, 131073, 524287] [192238, 130593, 130593, 130593, 130593, 130591, 130561, 130561, 130561, 8703, 8703, 8703, 8703, 8191, 511, 511, 511, 1, 0, 0] (.take 1 (.take 2 (.take 3 (.take 4 (.take 5 (.take 6 (.take 7 (.take 8 (.take 9 (.take 10 (.take 11 (.take 12 (.take 13 (.take 14 (.take 15 (.take 16 (.take 0 (.take 17 (.take 18 (.take 19 (.done))))))))))))))))))))) (by decide +kernel) ?_
    repeat' (first | (show J _ _ _ (runS _ _ _ (⟨_, _, _, _, _, none⟩ :: _)); first | (show J _ _ _ (runS _ _ _ (⟨_, .move _, _, _, _, _⟩ :: _)); refine j_move rfl rfl ?_) | (show J _ _ _ (runS _ _ _ (⟨_, .load _ _, _, _, _, _⟩ :: _)); ((refine j_load rfl rfl (by repeat constructor) rfl rfl ?_))) | (show J _ _ _ (runS _ _ _ (⟨_, .fieldAddr _ _ _, _, _, _, _⟩ :: _)); refine j_fieldAddr rfl rfl ?_) | (show J _ _ _ (runS _ _ _ (⟨_, .nilCheck _, _, _, _, _⟩ :: _)); ((refine j_nilCheck rfl rfl ?_))) | (show J _ _ _ (runS _ _ _ (⟨_, .assign _, _, _, _, _⟩ :: _)); refine j_assign rfl rfl ?_)) | refine j_nil ?_ | (show J _ _ _ (Code.wp _ _ _); first | refine j_seq ?_ | refine j_region ?_ | refine j_block ?_ | refine j_draw (by decide +kernel) ?_) | (show J _ _ _ (runT _ _ _ _); first | refine j_take rfl ?_ | refine j_done ?_) | refine j_then ?_ | ((show J _ _ _ (runS _ _ _ (⟨_, .buildSlice _ 0 _, _, _, _, _⟩ :: _))); refine j_lit0 (α := UInt8) rfl (fun b0 => ?_)) | ((show J _ _ _ (runS _ _ _ (⟨_, .indexAddr _ _ _, _, _, _, _⟩ :: _))); refine j_idxS (α := RF) (ls := fs) rfl rfl (by repeat constructor) rfl i rfl hi rfl ?_) | ((show J _ _ _ (runS _ _ _ (⟨_, .load 28 _, _, _, _, _⟩ :: _))); refine j_ldS (α := RF) (ls := fs) (y := f) (v := .slice f.a f.b.length f.c) rfl (by repeat constructor) i hfi 1 rfl rfl rfl rfl ?_) | ((show J _ _ _ (runS _ _ _ (⟨_, .load 3 _, _, _, _, _⟩ :: _))); refine j_ldS (α := RF) (ls := fs) (y := f) (v := .int .i64 f.s) rfl (by repeat constructor) i hfi 2 rfl rfl rfl rfl ?_) | ((show J _ _ _ (runS _ _ _ (⟨_, .slice _ _ _ _ _, _, _, _, _⟩ :: _))); first | (refine j_slice 0 sn f.c rfl (.inl ⟨rfl, rfl⟩) (.inr ⟨_, _, _, rfl, rfl, hsn, (by omega)⟩) (.inl ⟨rfl, rfl⟩) rfl ?_; simp only [Nat.sub_zero]) | refine j_slice sn f.b.length f.c rfl (.inl ⟨rfl, rfl⟩) (.inl ⟨rfl, rfl, rfl⟩) (.inr ⟨_, _, _, rfl, rfl, hsn, (by omega)⟩) rfl ?_) | ((show J _ _ _ (runS _ _ _ (⟨_, .call ⟨.builtin .append, _, _⟩, _, _, _, _⟩ :: _))); refine j_append (α := UInt8) (ls := []) (ms := f.b.take sn) rfl rfl rfl (fun _ _ => (by repeat constructor)) (M := [Sl 5 f.a f.c f.b]) (by repeat (first | exact .refl | apply Pk.cons | constructor)) ((sees_sl.off 0 f.c hc1).take sn) rfl (by simp; omega) (by unfold maxLen; simp; omega) (by simp; omega) rfl (fun a2 c2 _ => ?_); rw [List.nil_append]))
    obtain ⟨K, hK⟩ : ∃ K : Nat, crashK ⟨f.b, f.s⟩ x = K := ⟨(crashK ⟨f.b, f.s⟩ x).toNat, by have := crashK_le (f := ⟨f.b, f.s⟩) (x := x) ⟨hs1, hs2⟩; dsimp only at this; omega⟩
    have hKb := crashK_le (f := ⟨f.b, f.s⟩) (x := x) ⟨hs1, hs2⟩
    dsimp only at hKb
    rw [hK] at hKb
    have hKk : ∀ k : Nat, sn + k < f.b.length → ((k : Int) < x.keep ↔ sn + k < K) := fun k hk => by
      unfold crashK at hK
      dsimp only at hK
      split at hK <;> split at hK <;> omega
    have hall := ownK_all (f := f) (x := x) (K := K) (sn := sn) hsn (by omega) hK
    rw [← ownK_start (f := f) (K := K) (z := x.zero) (show sn ≤ K by omega)]
    refine j_loop (X := { q : Nat × Option Addr × Nat // q.1 ≤ f.b.length - sn }) (fun q => [(0, .pointer (some ⟨d, 0, none⟩)), (1, .slice al l.length cl), (4, .int .i64 (i : Nat)), (5, .pointer (some ⟨b, 0, none⟩)), (6, .slice q.1.2.1 (ownK f K sn x.zero q.1.1).length q.1.2.2), (7, .slice (offA f.a sn f.c 1) (f.b.length - sn) (f.c - sn)), (8, .int .i64 (q.1.1 : Nat))]) (fun q => Sl 5 q.1.2.1 q.1.2.2 (ownK f K sn x.zero q.1.1) :: blk b 68 [.int .i64 x.keep, .bool x.zero] :: Sl 5 f.a f.c f.b :: All ((fs.map pcR).set i Emp) :: blk d 40 [.slice (some ⟨bf, 0, none⟩) fs.length c, .int .i64 s.room, .bool s.down, .int .i64 s.arm] :: Sl 76 (some ⟨bf, 0, none⟩) c fs :: (Lp ++ F)) (fun q => f.b.length - sn - q.1.1) ⟨(0, a2, c2), by omega⟩ ⟨rfl, rfl, rfl, rfl, rfl, rfl, rfl, trivial⟩ (by repeat ((exact .refl))) (fun q => ?_)
    obtain ⟨⟨k, a6, c6⟩, hk⟩ := q
    dsimp only at hk ⊢
    have hol := ownK_len f K sn x.zero k
    repeat' (first | (show J _ _ _ (runS _ _ _ (⟨_, _, _, _, _, none⟩ :: _)); first | (show J _ _ _ (runS _ _ _ (⟨_, .move _, _, _, _, _⟩ :: _)); refine j_move rfl rfl ?_) | (show J _ _ _ (runS _ _ _ (⟨_, .load _ _, _, _, _, _⟩ :: _)); ((refine j_load rfl rfl (by repeat constructor) rfl rfl ?_))) | (show J _ _ _ (runS _ _ _ (⟨_, .fieldAddr _ _ _, _, _, _, _⟩ :: _)); refine j_fieldAddr rfl rfl ?_) | (show J _ _ _ (runS _ _ _ (⟨_, .nilCheck _, _, _, _, _⟩ :: _)); ((refine j_nilCheck rfl rfl ?_))) | (show J _ _ _ (runS _ _ _ (⟨_, .binOp _ _ _ _ _, _, _, _, _⟩ :: _)); (first | refine j_add rfl rfl (by omega) rfl ?_ | refine j_bin rfl rfl rfl rfl ?_)) | (show J _ _ _ (runS _ _ _ (⟨_, .assign _, _, _, _, _⟩ :: _)); refine j_assign rfl rfl ?_) | (show J _ _ _ (runS _ _ _ (⟨_, .call ⟨.builtin .len, _, _⟩, _, _, _, _⟩ :: _)); ((refine j_len rfl rfl ?_)))) | refine j_nil ?_ | (show J _ _ _ (Code.wp _ _ _); first | refine j_seq ?_ | refine j_region ?_ | refine j_block ?_ | (show J _ _ _ (Code.wp _ (.cond _ _ _) _); first | refine j_dec rfl (fun h => ?_) (fun h => ?_) | refine j_bool rfl (fun h => ?_) (fun h => ?_)) | refine j_skip ?_ | refine j_exit ?_) | refine j_then ?_ | refine j_then_exit ?_ | refine j_inb ?_ | refine j_inb_here ?_)
    · have hk2 : sn + k < f.b.length := by omega
      have hst := ownK_keep (f := f) (z := x.zero) ((hKk k hk2).1 h) hk2
      refine j_idx (α := UInt8) (M := [Sl 5 f.a f.c f.b]) rfl rfl (by repeat (first | exact .refl | apply Pk.cons | constructor)) (sees_sl.off sn f.c hc1) (by simp) k rfl (by simp; omega) rfl (fun b3 o3 ha3 hc3 => ?_)
      have hbe : (f.b.drop sn)[k]'(by simp; omega) = f.b[sn + k] := List.getElem_drop ..
      refine j_loadv (M := [Sl 5 f.a f.c f.b]) (v := .int .u8 (f.b[sn + k].toNat : Nat)) rfl rfl (by repeat (first | exact .refl | apply Pk.cons | constructor)) (fun w hw => hc3 0 _ (by rw [hbe]; rfl) w hw) rfl ?_
      refine j_lit1 (α := UInt8) rfl rfl f.b[sn + k] rfl (by decide) rfl (fun bh => ?_)
      refine j_append (α := UInt8) (ls := ownK f K sn x.zero k) (ms := [f.b[sn + k]]) rfl rfl rfl (fun _ _ => (by repeat constructor)) (M := [blk bh 5 [.int .u8 (f.b[sn + k].toNat : Nat)]]) (by repeat ((exact .refl))) (sees_blk1 f.b[sn + k]) rfl rfl (by unfold maxLen; simp only [List.length_singleton]; omega) (by simp only [List.length_singleton]; omega) rfl (fun a7 c7 _ => ?_)
      rw [← hst]
      repeat' (first | (show J _ _ _ (runS _ _ _ (⟨_, _, _, _, _, none⟩ :: _)); first | (show J _ _ _ (runS _ _ _ (⟨_, .move _, _, _, _, _⟩ :: _)); refine j_move rfl rfl ?_) | (show J _ _ _ (runS _ _ _ (⟨_, .binOp _ _ _ _ _, _, _, _, _⟩ :: _)); ((refine j_add rfl rfl (by omega) rfl ?_))) | (show J _ _ _ (runS _ _ _ (⟨_, .assign _, _, _, _, _⟩ :: _)); refine j_assign rfl rfl ?_)) | refine j_nil ?_ | (show J _ _ _ (Code.wp _ _ _); (refine j_region ?_)) | refine j_then ?_ | refine j_inb ?_)
      exact j_round ⟨(k + 1, a7, c7), by dsimp only; omega⟩ (by dsimp only; omega) ⟨rfl, rfl, rfl, rfl, rfl, rfl, rfl, trivial⟩ (by repeat (first | exact .refl | apply Pk.cons | refine .drop ?_ | constructor))
    · have hk2 : sn + k < f.b.length := by omega
      have hkk : K ≤ sn + k := Nat.le_of_not_lt fun h2 => by have := (hKk k hk2).2 h2; omega
      have hst := ownK_zero (f := f) (sn := sn) hkk h
      refine j_lit1 (α := UInt8) rfl rfl 0 rfl (by decide) rfl (fun bh => ?_)
      refine j_append (α := UInt8) (ls := ownK f K sn x.zero k) (ms := [0]) rfl rfl rfl (fun _ _ => (by repeat constructor)) (M := [blk bh 5 [.int .u8 0]]) (by repeat ((exact .refl))) (sees_blk1 (0 : UInt8)) rfl rfl (by unfold maxLen; simp only [List.length_singleton]; omega) (by simp only [List.length_singleton]; omega) rfl (fun a7 c7 _ => ?_)
      rw [← hst]
      repeat' (first | (show J _ _ _ (runS _ _ _ (⟨_, _, _, _, _, none⟩ :: _)); first | (show J _ _ _ (runS _ _ _ (⟨_, .move _, _, _, _, _⟩ :: _)); refine j_move rfl rfl ?_) | (show J _ _ _ (runS _ _ _ (⟨_, .binOp _ _ _ _ _, _, _, _, _⟩ :: _)); ((refine j_add rfl rfl (by omega) rfl ?_))) | (show J _ _ _ (runS _ _ _ (⟨_, .assign _, _, _, _, _⟩ :: _)); refine j_assign rfl rfl ?_)) | refine j_nil ?_ | (show J _ _ _ (Code.wp _ _ _); (refine j_region ?_)) | refine j_then ?_ | refine j_inb ?_)
      exact j_round ⟨(k + 1, a7, c7), by dsimp only; omega⟩ (by dsimp only; omega) ⟨rfl, rfl, rfl, rfl, rfl, rfl, rfl, trivial⟩ (by repeat (first | exact .refl | apply Pk.cons | refine .drop ?_ | constructor))
    · have hk2 : sn + k < f.b.length := by omega
      have hkk : K ≤ sn + k := Nat.le_of_not_lt fun h2 => by have := (hKk k hk2).2 h2; omega
      have hst := ownK_none (f := f) (sn := sn) (z := x.zero) hkk (by rw [h]; simp)
      exact j_round ⟨(k + 1, a6, c6), by dsimp only; omega⟩ (by dsimp only; omega) ⟨rfl, rfl, rfl, rfl, (by rw [hst]; rfl), rfl, rfl, trivial⟩ (by rw [hst]; exact (by repeat ((exact .refl))))
    · have hke : k = f.b.length - sn := by omega
      subst hke
      obtain ⟨own, hown⟩ : ∃ own, own = ownK f K sn x.zero (f.b.length - sn) := ⟨_, rfl⟩
      rw [← hown] at hall hol ⊢
      refine j_idxS (α := RF) (ls := fs) rfl rfl (by repeat constructor) rfl i rfl hi rfl ?_
      repeat' ((show J _ _ _ (runS _ _ _ (⟨_, _, _, _, _, none⟩ :: _)); (show J _ _ _ (runS _ _ _ (⟨_, .fieldAddr _ _ _, _, _, _, _⟩ :: _)); refine j_fieldAddr rfl rfl ?_)))
      refine j_set_sl (α := RF) (ls := fs) rfl rfl rfl rfl i 1 hi rfl (by decide) ⟨f.n, a6, c6, own, f.s⟩ (by rw [(List.getElem?_eq_some_iff.1 hfi).2]; rfl) (by repeat constructor) ?_
      have hi1 : i < (fs.set i ⟨f.n, a6, c6, own, f.s⟩).length := by simpa using hi
      have hfi1 : (fs.set i ⟨f.n, a6, c6, own, f.s⟩)[i]? = some ⟨f.n, a6, c6, own, f.s⟩ := by rw [List.getElem?_set, if_pos rfl, if_pos hi]
      have hl1 : fs.length = (fs.set i ⟨f.n, a6, c6, own, f.s⟩).length := (List.length_set ..).symm
      repeat' (first | (show J _ _ _ (runS _ _ _ (⟨_, _, _, _, _, none⟩ :: _)); first | (show J _ _ _ (runS _ _ _ (⟨_, .move _, _, _, _, _⟩ :: _)); refine j_move rfl rfl ?_) | (show J _ _ _ (runS _ _ _ (⟨_, .load _ _, _, _, _, _⟩ :: _)); ((refine j_load rfl rfl (by repeat constructor) rfl rfl ?_))) | (show J _ _ _ (runS _ _ _ (⟨_, .fieldAddr _ _ _, _, _, _, _⟩ :: _)); refine j_fieldAddr rfl rfl ?_) | (show J _ _ _ (runS _ _ _ (⟨_, .nilCheck _, _, _, _, _⟩ :: _)); ((refine j_nilCheck rfl rfl ?_))) | (show J _ _ _ (runS _ _ _ (⟨_, .call ⟨.builtin .len, _, _⟩, _, _, _, _⟩ :: _)); ((refine j_len rfl rfl ?_)))) | refine j_nil ?_ | (show J _ _ _ (Code.wp _ _ _); (refine j_region ?_)) | refine j_then ?_)
      refine j_idxS (α := RF) (ls := fs.set i ⟨f.n, a6, c6, own, f.s⟩) rfl rfl (by repeat constructor) hl1 i rfl hi1 rfl ?_
      repeat' ((show J _ _ _ (runS _ _ _ (⟨_, _, _, _, _, none⟩ :: _)); (show J _ _ _ (runS _ _ _ (⟨_, .fieldAddr _ _ _, _, _, _, _⟩ :: _)); refine j_fieldAddr rfl rfl ?_)))
      refine j_set_sl (α := RF) (ls := fs.set i ⟨f.n, a6, c6, own, f.s⟩) rfl rfl rfl rfl i 2 hi1 rfl (by decide) ⟨f.n, a6, c6, own, own.length⟩ (by rw [(List.getElem?_eq_some_iff.1 hfi1).2]; rfl) (by repeat constructor) ?_
      rw [List.set_set]
      refine j_tk (A := All _) (by repeat constructor) (j_tk (A := Sl 5 a6 c6 own) (by repeat constructor) (j_unfocus (A' := Sl 5 a6 c6 own) (by simpa using hi) ?_))
      rw [pcR_set fs i ⟨f.n, a6, c6, own, own.length⟩]
      repeat' (first | (show J _ _ _ (runS _ _ _ (⟨_, _, _, _, _, none⟩ :: _)); first | (show J _ _ _ (runS _ _ _ (⟨_, .move _, _, _, _, _⟩ :: _)); refine j_move rfl rfl ?_) | (show J _ _ _ (runS _ _ _ (⟨_, .binOp _ _ _ _ _, _, _, _, _⟩ :: _)); ((refine j_add rfl rfl (by omega) rfl ?_))) | (show J _ _ _ (runS _ _ _ (⟨_, .assign _, _, _, _, _⟩ :: _)); refine j_assign rfl rfl ?_)) | refine j_nil ?_ | (show J _ _ _ (Code.wp _ _ _); (refine j_region ?_)) | refine j_then ?_ | refine j_inb ?_)
      refine j_round ⟨(i + 1, fs.set i ⟨f.n, a6, c6, own, own.length⟩), ?_, cr_step hcr hfi rfl (by rw [hall, hx])⟩ (by dsimp only; rw [List.length_set]; omega) ⟨rfl, rfl, rfl, trivial⟩ (by dsimp only; rw [List.length_set]; exact (by repeat (first | exact .refl | apply Pk.cons | refine .drop ?_ | constructor)))
      dsimp only; rw [List.length_set]; omega
  · repeat' (fail)
    have : i = fs.length := by omega
    subst this
    refine j_tk (A := All _) (by repeat constructor) (j_tk (A := Sl 76 _ _ _) (by repeat constructor) (j_tk (A := blk d _ _) (by repeat constructor) (j_unref (s := crashS s l) (cr_end hI hcr) rfl rfl rfl rfl ?_)))
    exact j_ret0 (M := RefA d (crashS s l) :: Lp) rfl .refl ⟨rfl, rfl⟩
end Go.Proofs.Ytjneocpbpnbopaa
