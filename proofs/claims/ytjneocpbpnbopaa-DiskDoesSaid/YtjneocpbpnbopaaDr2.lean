/- The document's disk: how it stands in memory; find, Used, Files, what bars, what fails. -/
import Derived.Test.YtjneocpbpnbopaaDr1
set_option linter.unusedVariables false
set_option linter.unusedSimpArgs false
set_option maxRecDepth 100000
namespace Go.Proofs.Ytjneocpbpnbopaa
open Go
attribute [local irreducible] Exit.then Exit.inBlock Code.wp runS bodyPost postF J runT cutQ cutR Tr Sat blk Sl Old Star Ex Pu
attribute [local irreducible] MapA MapB IterA IterS All

/-- a file, with where its bytes lie -/
structure RF where
  n : ByteArray
  a : Option Addr
  c : Nat
  b : List UInt8
  s : Int
instance : Enc RF := ⟨fun f => [.string f.n, .slice f.a f.b.length f.c, .int .i64 f.s], 3, fun _ => rfl, by decide, fun x u hu => by simp at hu; rcases hu with rfl | rfl | rfl <;> rfl⟩
def kvR (f : RF) : ByteArray × FileS := (f.n, ⟨f.b, f.s⟩)
def pcR (f : RF) : HP := Sl 5 f.a f.c f.b
instance (f : RF) : Loc (pcR f) := inferInstanceAs (Loc (Sl _ _ _ _))
def RefA (d : Nat) (s : DS) : HP := Ex fun (q : List RF × Option Addr × Nat) => Star (Pu (q.1.map kvR = refL s)) (Star (blk d 40 [.slice q.2.1 q.1.length q.2.2, .int .i64 s.room, .bool s.down, .int .i64 s.arm]) (Star (Sl 76 q.2.1 q.2.2 q.1) (All (q.1.map pcR))))
instance (d : Nat) (s : DS) : Loc (RefA d s) := inferInstanceAs (Loc (Ex _))
theorem j_ref {n : Nat} {fm : Fm} {L : List HP} {X : Act → World → Prop} {d : Nat} {s : DS} (h : ∀ fs a c, fs.map kvR = refL s → J n fm (blk d 40 [.slice a fs.length c, .int .i64 s.room, .bool s.down, .int .i64 s.arm] :: Sl 76 a c fs :: All (fs.map pcR) :: L) X) : J n fm (RefA d s :: L) X :=
  j_ex (fun q => j_star (j_pu (fun hp => j_star (j_tk (.s .z) (j_star (j_tk (.s (.s .z)) (h q.1 q.2.1 q.2.2 hp)))))))
theorem j_unref {n : Nat} {fm : Fm} {L : List HP} {X : Act → World → Prop} {d : Nat} {s : DS} {fs : List RF} {a : Option Addr} {c len : Nat} {room good : Int} {gone : Bool} (hf : fs.map kvR = refL s) (hl : len = fs.length) (h1 : room = s.room) (h2 : gone = s.down) (h3 : good = s.arm) (h : J n fm (RefA d s :: L) X) : J n fm (blk d 40 [.slice a len c, .int .i64 room, .bool gone, .int .i64 good] :: Sl 76 a c fs :: All (fs.map pcR) :: L) X := by
  subst hl h1 h2 h3
  exact j_tk (.s .z) (j_tk (.s (.s .z)) (j_tk (.s .z) (j_unstar (j_tk (.s .z) (j_unstar (j_unpu (p := fs.map kvR = refL s) hf (j_unstar (j_unex (α := List RF × Option Addr × Nat) (A := fun q => Star (Pu (q.1.map kvR = refL s)) (Star (blk d 40 [.slice q.2.1 q.1.length q.2.2, .int .i64 s.room, .bool s.down, .int .i64 s.arm]) (Star (Sl 76 q.2.1 q.2.2 q.1) (All (q.1.map pcR))))) (fs, a, c) h)))))))) 

/-- the place of a name -/
def idxR (fs : List RF) (k : ByteArray) : Int := match fs.findIdx? (fun f => f.n = k) with | some i => (i : Int) | none => -1
theorem idxR_some {fs : List RF} {k : ByteArray} {i : Nat} (hi : i < fs.length) (h0 : ∀ j, (h : j < i) → (fs[j]'(by omega)).n ≠ k) (h : (fs[i]).n = k) : idxR fs k = i := by
  have : fs.findIdx? (fun f => f.n = k) = some i := by
    rw [List.findIdx?_eq_some_iff_getElem]
    exact ⟨hi, by simp [h], fun j hj => by simpa using h0 j hj⟩
  unfold idxR; rw [this]
theorem idxR_none {fs : List RF} {k : ByteArray} (h : ∀ j, (h : j < fs.length) → (fs[j]).n ≠ k) : idxR fs k = -1 := by
  have : fs.findIdx? (fun f => f.n = k) = none := by
    rw [List.findIdx?_eq_none_iff]
    intro f hf
    obtain ⟨j, hj, rfl⟩ := List.getElem_of_mem hf
    simpa using h j hj
  unfold idxR; rw [this]

theorem rfind_spec (d : Nat) (fs : List RF) (a : Option Addr) (c : Nat) (room good : Int) (gone : Bool) (k : ByteArray) (hm : fs.length ≤ 1000) : Tr Try.prog 41 [.pointer (some ⟨d, 0, none⟩), .string k] [blk d 40 [.slice a fs.length c, .int .i64 room, .bool gone, .int .i64 good], Sl 76 a c fs] (fun v M => v = .int .i64 (idxR fs k) ∧ M = [blk d 40 [.slice a fs.length c, .int .i64 room, .bool gone, .int .i64 good], Sl 76 a c fs]) := by
  refine tr_enter Try.func41 rfl Try.ntmps41 rfl (fun F => ?_)
  repeat' (first | (show J _ _ _ (runS _ _ _ (⟨_, _, _, _, _, none⟩ :: _)); (show J _ _ _ (runS _ _ _ (⟨_, .assign _, _, _, _, _⟩ :: _)); refine j_assign rfl rfl ?_)) | refine j_nil ?_ | (show J _ _ _ (Code.wp _ _ _); first | refine j_seq ?_ | refine j_region ?_) | refine j_then ?_)
  refine j_block ?_
  refine j_loop (X := { i : Nat // i ≤ fs.length ∧ ∀ j, (h : j < i) → (h2 : j < fs.length) → (fs[j]).n ≠ k }) (fun i => [(0, .pointer (some ⟨d, 0, none⟩)), (1, .string k), (5, .int .i64 (i.1 : Nat))]) (fun _ => [blk d 40 [.slice a fs.length c, .int .i64 room, .bool gone, .int .i64 good], Sl 76 a c fs] ++ F) (fun i => fs.length - i.1) ⟨0, by omega, fun j hj => by omega⟩ ⟨rfl, rfl, rfl, trivial⟩ .refl (fun i => ?_)
  obtain ⟨i, hi, hn⟩ := i
  dsimp only at hi hn ⊢
  repeat' (first | (show J _ _ _ (runS _ _ _ (⟨_, _, _, _, _, none⟩ :: _)); first | (show J _ _ _ (runS _ _ _ (⟨_, .move _, _, _, _, _⟩ :: _)); refine j_move rfl rfl ?_) | (show J _ _ _ (runS _ _ _ (⟨_, .load _ _, _, _, _, _⟩ :: _)); ((refine j_load rfl rfl (by repeat constructor) rfl rfl ?_))) | (show J _ _ _ (runS _ _ _ (⟨_, .fieldAddr _ _ _, _, _, _, _⟩ :: _)); refine j_fieldAddr rfl rfl ?_) | (show J _ _ _ (runS _ _ _ (⟨_, .nilCheck _, _, _, _, _⟩ :: _)); ((refine j_nilCheck rfl rfl ?_))) | (show J _ _ _ (runS _ _ _ (⟨_, .binOp _ _ _ _ _, _, _, _, _⟩ :: _)); ((refine j_bin rfl rfl rfl rfl ?_))) | (show J _ _ _ (runS _ _ _ (⟨_, .assign _, _, _, _, _⟩ :: _)); refine j_assign rfl rfl ?_) | (show J _ _ _ (runS _ _ _ (⟨_, .call ⟨.builtin .len, _, _⟩, _, _, _, _⟩ :: _)); ((refine j_len rfl rfl ?_)))) | refine j_nil ?_ | (show J _ _ _ (Code.wp _ _ _); first | refine j_seq ?_ | refine j_region ?_ | refine j_block ?_ | (show J _ _ _ (Code.wp _ (.cond _ _ _) _); (refine j_dec rfl (fun h => ?_) (fun h => ?_))) | refine j_ret ?_ | refine j_skip ?_ | refine j_exit ?_) | refine j_then ?_ | refine j_then_exit ?_ | refine j_inb_here ?_)
  · have hi2 : i < fs.length := by omega
    (refine j_idx (α := RF) (M := [Sl 76 a c fs]) rfl rfl (by repeat (first | exact .refl | apply Pk.cons | constructor)) sees_sl rfl i rfl hi2 rfl (fun b3 o3 ha3 hc3 => ?_); (repeat' ((show J _ _ _ (runS _ _ _ (⟨_, _, _, _, _, none⟩ :: _)); (show J _ _ _ (runS _ _ _ (⟨_, .fieldAddr _ _ _, _, _, _, _⟩ :: _)); refine j_fieldAddr rfl rfl ?_)))))
    refine j_loadv (M := [Sl 76 a c fs]) (v := .string fs[i].n) rfl rfl (by repeat (first | exact .refl | apply Pk.cons | constructor)) (fun w hw => hc3 0 _ rfl w hw) rfl ?_
    repeat' (first | (show J _ _ _ (runS _ _ _ (⟨_, _, _, _, _, none⟩ :: _)); first | (show J _ _ _ (runS _ _ _ (⟨_, .move _, _, _, _, _⟩ :: _)); refine j_move rfl rfl ?_) | (show J _ _ _ (runS _ _ _ (⟨_, .binOp _ _ _ _ _, _, _, _, _⟩ :: _)); (first | refine j_add rfl rfl (by omega) rfl ?_ | refine j_eqstr rfl rfl rfl ?_)) | (show J _ _ _ (runS _ _ _ (⟨_, .assign _, _, _, _, _⟩ :: _)); refine j_assign rfl rfl ?_)) | refine j_nil ?_ | (show J _ _ _ (Code.wp _ _ _); first | refine j_seq ?_ | refine j_region ?_ | (show J _ _ _ (Code.wp _ (.cond _ _ _) _); (refine j_dec rfl (fun h => ?_) (fun h => ?_))) | refine j_ret ?_ | refine j_skip ?_) | refine j_then ?_ | refine j_then_ret ?_ | refine j_inb ?_ | refine j_inb_ret ?_)
    · exact j_ret1 (M := [blk d 40 [.slice a fs.length c, .int .i64 room, .bool gone, .int .i64 good], Sl 76 a c fs]) rfl rfl .refl ⟨congrArg (Value.int .i64) (idxR_some hi2 (fun j hj => hn j hj (by omega)) h).symm, rfl⟩
    · exact j_round ⟨i + 1, hi2, fun j hj h2 => (Nat.lt_or_ge j i).elim (fun h3 => hn j h3 h2) (fun h3 => by have e : j = i := (by omega); subst e; exact h)⟩ (by dsimp only; omega) ⟨rfl, rfl, rfl, trivial⟩ .refl
  · exact j_ret1 (M := [blk d 40 [.slice a fs.length c, .int .i64 room, .bool gone, .int .i64 good], Sl 76 a c fs]) rfl rfl .refl ⟨congrArg (Value.int .i64) (idxR_none fun j hj => hn j (by omega) hj).symm, rfl⟩

def sumR (fs : List RF) : Nat := (fs.map fun f => f.b.length).sum
theorem sumR_snoc (fs : List RF) {i : Nat} (h : i < fs.length) : sumR (fs.take (i + 1)) = sumR (fs.take i) + fs[i].b.length := by
  unfold sumR
  rw [List.take_add_one, List.getElem?_eq_getElem h, List.map_append, List.sum_append]
  simp
theorem sumR_le (fs : List RF) (i : Nat) : sumR (fs.take i) ≤ sumR fs := by
  have : sumR fs = sumR (fs.take i) + sumR (fs.drop i) := by
    unfold sumR
    rw [← List.sum_append, ← List.map_append, List.take_append_drop]
  omega
theorem rused_spec (d : Nat) (fs : List RF) (a : Option Addr) (c : Nat) (room good : Int) (gone : Bool) (hm : fs.length ≤ 1000) (hu : sumR fs ≤ 1048576) : Tr Try.prog 43 [.pointer (some ⟨d, 0, none⟩)] [blk d 40 [.slice a fs.length c, .int .i64 room, .bool gone, .int .i64 good], Sl 76 a c fs] (fun v M => v = .int .i64 (sumR fs : Nat) ∧ M = [blk d 40 [.slice a fs.length c, .int .i64 room, .bool gone, .int .i64 good], Sl 76 a c fs]) := by
  refine tr_enter Try.func43 rfl Try.ntmps43 rfl (fun F => ?_)
  repeat' (first | (show J _ _ _ (runS _ _ _ (⟨_, _, _, _, _, none⟩ :: _)); (show J _ _ _ (runS _ _ _ (⟨_, .assign _, _, _, _, _⟩ :: _)); refine j_assign rfl rfl ?_)) | refine j_nil ?_ | (show J _ _ _ (Code.wp _ _ _); first | refine j_seq ?_ | refine j_region ?_) | refine j_then ?_)
  refine j_block ?_
  refine j_loop (X := { i : Nat // i ≤ fs.length }) (fun i => [(0, .pointer (some ⟨d, 0, none⟩)), (3, .int .i64 (sumR (fs.take i.1) : Nat)), (4, .int .i64 (i.1 : Nat))]) (fun _ => [blk d 40 [.slice a fs.length c, .int .i64 room, .bool gone, .int .i64 good], Sl 76 a c fs] ++ F) (fun i => fs.length - i.1) ⟨0, by omega⟩ ⟨rfl, rfl, rfl, trivial⟩ .refl (fun i => ?_)
  obtain ⟨i, hi⟩ := i
  dsimp only at hi ⊢
  have h1 := sumR_le fs i
  repeat' (first | (show J _ _ _ (runS _ _ _ (⟨_, _, _, _, _, none⟩ :: _)); first | (show J _ _ _ (runS _ _ _ (⟨_, .move _, _, _, _, _⟩ :: _)); refine j_move rfl rfl ?_) | (show J _ _ _ (runS _ _ _ (⟨_, .load _ _, _, _, _, _⟩ :: _)); ((refine j_load rfl rfl (by repeat constructor) rfl rfl ?_))) | (show J _ _ _ (runS _ _ _ (⟨_, .fieldAddr _ _ _, _, _, _, _⟩ :: _)); refine j_fieldAddr rfl rfl ?_) | (show J _ _ _ (runS _ _ _ (⟨_, .nilCheck _, _, _, _, _⟩ :: _)); ((refine j_nilCheck rfl rfl ?_))) | (show J _ _ _ (runS _ _ _ (⟨_, .binOp _ _ _ _ _, _, _, _, _⟩ :: _)); ((refine j_bin rfl rfl rfl rfl ?_))) | (show J _ _ _ (runS _ _ _ (⟨_, .assign _, _, _, _, _⟩ :: _)); refine j_assign rfl rfl ?_) | (show J _ _ _ (runS _ _ _ (⟨_, .call ⟨.builtin .len, _, _⟩, _, _, _, _⟩ :: _)); ((refine j_len rfl rfl ?_)))) | refine j_nil ?_ | (show J _ _ _ (Code.wp _ _ _); first | refine j_seq ?_ | refine j_region ?_ | refine j_block ?_ | (show J _ _ _ (Code.wp _ (.cond _ _ _) _); (refine j_dec rfl (fun h => ?_) (fun h => ?_))) | refine j_ret ?_ | refine j_skip ?_ | refine j_exit ?_) | refine j_then ?_ | refine j_then_exit ?_ | refine j_inb_here ?_)
  · have hi2 : i < fs.length := by omega
    have h2 := sumR_le fs (i + 1)
    have h3 := sumR_snoc fs hi2
    (refine j_idx (α := RF) (M := [Sl 76 a c fs]) rfl rfl (by repeat (first | exact .refl | apply Pk.cons | constructor)) sees_sl rfl i rfl hi2 rfl (fun b3 o3 ha3 hc3 => ?_); (repeat' ((show J _ _ _ (runS _ _ _ (⟨_, _, _, _, _, none⟩ :: _)); (show J _ _ _ (runS _ _ _ (⟨_, .fieldAddr _ _ _, _, _, _, _⟩ :: _)); refine j_fieldAddr rfl rfl ?_)))))
    refine j_loadv (M := [Sl 76 a c fs]) (v := .slice fs[i].a fs[i].b.length fs[i].c) rfl rfl (by repeat (first | exact .refl | apply Pk.cons | constructor)) (fun w hw => hc3 1 _ rfl w hw) rfl ?_
    repeat' (first | (show J _ _ _ (runS _ _ _ (⟨_, _, _, _, _, none⟩ :: _)); first | (show J _ _ _ (runS _ _ _ (⟨_, .move _, _, _, _, _⟩ :: _)); refine j_move rfl rfl ?_) | (show J _ _ _ (runS _ _ _ (⟨_, .binOp _ _ _ _ _, _, _, _, _⟩ :: _)); ((refine j_add rfl rfl (by omega) rfl ?_))) | (show J _ _ _ (runS _ _ _ (⟨_, .assign _, _, _, _, _⟩ :: _)); refine j_assign rfl rfl ?_) | (show J _ _ _ (runS _ _ _ (⟨_, .call ⟨.builtin .len, _, _⟩, _, _, _, _⟩ :: _)); ((refine j_len rfl rfl ?_)))) | refine j_nil ?_ | (show J _ _ _ (Code.wp _ _ _); (refine j_region ?_)) | refine j_then ?_ | refine j_inb ?_)
    exact j_round ⟨i + 1, hi2⟩ (by dsimp only; omega) ⟨rfl, (by show some (Value.int .i64 _) = some (Value.int .i64 ((sumR (fs.take (i + 1)) : Nat) : Int)); rw [h3, Int.natCast_add]), rfl, trivial⟩ .refl
  · rw [List.take_of_length_le (by omega)]
    exact j_ret1 (M := [blk d 40 [.slice a fs.length c, .int .i64 room, .bool gone, .int .i64 good], Sl 76 a c fs]) rfl rfl .refl ⟨rfl, rfl⟩

theorem take_names (fs : List RF) {i : Nat} (h : i < fs.length) : (fs.take (i + 1)).map RF.n = (fs.take i).map RF.n ++ [fs[i].n] := by
  rw [List.take_add_one, List.getElem?_eq_getElem h, List.map_append]; rfl
theorem rfiles_spec (d : Nat) (fs : List RF) (a : Option Addr) (c : Nat) (room good : Int) (gone : Bool) (hm : fs.length ≤ 1000) : Tr Try.prog 42 [.pointer (some ⟨d, 0, none⟩)] [blk d 40 [.slice a fs.length c, .int .i64 room, .bool gone, .int .i64 good], Sl 76 a c fs] (fun v M => ∃ a' c', v = .slice a' (fs.map RF.n).length c' ∧ M = [blk d 40 [.slice a fs.length c, .int .i64 room, .bool gone, .int .i64 good], Sl 76 a c fs, Sl 9 a' c' (fs.map RF.n)]) := by
  refine tr_enter Try.func42 rfl Try.ntmps42 rfl (fun F => ?_)
  repeat' (first | (show J _ _ _ (runS _ _ _ (⟨_, _, _, _, _, none⟩ :: _)); (show J _ _ _ (runS _ _ _ (⟨_, .assign _, _, _, _, _⟩ :: _)); refine j_assign rfl rfl ?_)) | refine j_nil ?_ | (show J _ _ _ (Code.wp _ _ _); first | refine j_seq ?_ | refine j_region ?_) | refine j_then ?_)
  refine j_lit0 (α := ByteArray) rfl (fun b0 => ?_)
  repeat' (first | (show J _ _ _ (runS _ _ _ (⟨_, _, _, _, _, none⟩ :: _)); (show J _ _ _ (runS _ _ _ (⟨_, .assign _, _, _, _, _⟩ :: _)); refine j_assign rfl rfl ?_)) | refine j_nil ?_ | (show J _ _ _ (Code.wp _ _ _); first | refine j_seq ?_ | refine j_region ?_) | refine j_then ?_)
  refine j_block ?_
  refine j_loop (X := { q : Nat × Option Addr × Nat // q.1 ≤ fs.length }) (fun q => [(0, .pointer (some ⟨d, 0, none⟩)), (3, .slice q.1.2.1 ((fs.take q.1.1).map RF.n).length q.1.2.2), (4, .int .i64 (q.1.1 : Nat))]) (fun q => Sl 9 q.1.2.1 q.1.2.2 ((fs.take q.1.1).map RF.n) :: [blk d 40 [.slice a fs.length c, .int .i64 room, .bool gone, .int .i64 good], Sl 76 a c fs] ++ F) (fun q => fs.length - q.1.1) ⟨(0, some ⟨b0, 0, none⟩, 0), by omega⟩ ⟨rfl, rfl, rfl, trivial⟩ (by repeat ((exact .refl))) (fun q => ?_)
  obtain ⟨⟨i, a1, c1⟩, hi⟩ := q
  dsimp only at hi ⊢
  repeat' (first | (show J _ _ _ (runS _ _ _ (⟨_, _, _, _, _, none⟩ :: _)); first | (show J _ _ _ (runS _ _ _ (⟨_, .move _, _, _, _, _⟩ :: _)); refine j_move rfl rfl ?_) | (show J _ _ _ (runS _ _ _ (⟨_, .load _ _, _, _, _, _⟩ :: _)); ((refine j_load rfl rfl (by repeat constructor) rfl rfl ?_))) | (show J _ _ _ (runS _ _ _ (⟨_, .fieldAddr _ _ _, _, _, _, _⟩ :: _)); refine j_fieldAddr rfl rfl ?_) | (show J _ _ _ (runS _ _ _ (⟨_, .nilCheck _, _, _, _, _⟩ :: _)); ((refine j_nilCheck rfl rfl ?_))) | (show J _ _ _ (runS _ _ _ (⟨_, .binOp _ _ _ _ _, _, _, _, _⟩ :: _)); ((refine j_bin rfl rfl rfl rfl ?_))) | (show J _ _ _ (runS _ _ _ (⟨_, .assign _, _, _, _, _⟩ :: _)); refine j_assign rfl rfl ?_) | (show J _ _ _ (runS _ _ _ (⟨_, .call ⟨.builtin .len, _, _⟩, _, _, _, _⟩ :: _)); ((refine j_len rfl rfl ?_)))) | refine j_nil ?_ | (show J _ _ _ (Code.wp _ _ _); first | refine j_seq ?_ | refine j_region ?_ | refine j_block ?_ | (show J _ _ _ (Code.wp _ (.cond _ _ _) _); (refine j_dec rfl (fun h => ?_) (fun h => ?_))) | refine j_ret ?_ | refine j_skip ?_ | refine j_exit ?_) | refine j_then ?_ | refine j_then_exit ?_ | refine j_inb_here ?_)
  · have hi2 : i < fs.length := by omega
    have h3 := take_names fs hi2
    (refine j_idx (α := RF) (M := [Sl 76 a c fs]) rfl rfl (by repeat (first | exact .refl | apply Pk.cons | constructor)) sees_sl rfl i rfl hi2 rfl (fun b3 o3 ha3 hc3 => ?_); (repeat' ((show J _ _ _ (runS _ _ _ (⟨_, _, _, _, _, none⟩ :: _)); (show J _ _ _ (runS _ _ _ (⟨_, .fieldAddr _ _ _, _, _, _, _⟩ :: _)); refine j_fieldAddr rfl rfl ?_)))))
    refine j_loadv (M := [Sl 76 a c fs]) (v := .string fs[i].n) rfl rfl (by repeat (first | exact .refl | apply Pk.cons | constructor)) (fun w hw => hc3 0 _ rfl w hw) rfl ?_
    refine j_lit1 (α := ByteArray) rfl rfl fs[i].n rfl (by decide) rfl (fun bh => ?_)
    refine j_append (α := ByteArray) (ls := (fs.take i).map RF.n) (ms := [fs[i].n]) rfl rfl rfl (fun _ _ => (by repeat constructor)) (M := [blk bh 9 [.string fs[i].n]]) (by repeat ((exact .refl))) (sees_blk1 fs[i].n) rfl rfl (by unfold maxLen; simp; omega) (by simp; omega) rfl (fun a2 c2 _ => ?_)
    rw [← h3]
    repeat' (first | (show J _ _ _ (runS _ _ _ (⟨_, _, _, _, _, none⟩ :: _)); first | (show J _ _ _ (runS _ _ _ (⟨_, .move _, _, _, _, _⟩ :: _)); refine j_move rfl rfl ?_) | (show J _ _ _ (runS _ _ _ (⟨_, .binOp _ _ _ _ _, _, _, _, _⟩ :: _)); ((refine j_add rfl rfl (by omega) rfl ?_))) | (show J _ _ _ (runS _ _ _ (⟨_, .assign _, _, _, _, _⟩ :: _)); refine j_assign rfl rfl ?_)) | refine j_nil ?_ | (show J _ _ _ (Code.wp _ _ _); (refine j_region ?_)) | refine j_then ?_ | refine j_inb ?_)
    exact j_round ⟨(i + 1, a2, c2), hi2⟩ (by dsimp only; omega) ⟨rfl, rfl, rfl, trivial⟩ (by repeat (first | exact .refl | apply Pk.cons | refine .drop ?_ | constructor))
  · rw [List.take_of_length_le (by omega)]
    exact j_ret1 (M := [blk d 40 [.slice a fs.length c, .int .i64 room, .bool gone, .int .i64 good], Sl 76 a c fs, Sl 9 a1 c1 (fs.map RF.n)]) rfl rfl (by repeat (first | exact .refl | apply Pk.cons | constructor)) ⟨a1, c1, rfl, rfl⟩

def barE (gone : Bool) (k t : ByteArray) : Int := if gone = true then 41 else if mayB k = true ∧ mayB t = true then 0 else 5
theorem rbarred_spec (d : Nat) (x : Value) (room good : Int) (gone : Bool) (k t : ByteArray) (hk : k.size ≤ 9223372036854775807) (ht : t.size ≤ 9223372036854775807) : Tr Try.prog 50 [.pointer (some ⟨d, 0, none⟩), .string k, .string t] [blk d 40 [x, .int .i64 room, .bool gone, .int .i64 good]] (fun v M => v = .int .i64 (barE gone k t) ∧ M = [blk d 40 [x, .int .i64 room, .bool gone, .int .i64 good]]) := by
  refine tr_enter Try.func50 rfl Try.ntmps50 rfl (fun F => ?_)
  repeat' (first | (show J _ _ _ (runS _ _ _ (⟨_, _, _, _, _, none⟩ :: _)); first | (show J _ _ _ (runS _ _ _ (⟨_, .move _, _, _, _, _⟩ :: _)); refine j_move rfl rfl ?_) | (show J _ _ _ (runS _ _ _ (⟨_, .load _ _, _, _, _, _⟩ :: _)); ((refine j_load rfl rfl (by repeat constructor) rfl rfl ?_))) | (show J _ _ _ (runS _ _ _ (⟨_, .fieldAddr _ _ _, _, _, _, _⟩ :: _)); refine j_fieldAddr rfl rfl ?_) | (show J _ _ _ (runS _ _ _ (⟨_, .nilCheck _, _, _, _, _⟩ :: _)); ((refine j_nilCheck rfl rfl ?_))) | (show J _ _ _ (runS _ _ _ (⟨_, .assign _, _, _, _, _⟩ :: _)); refine j_assign rfl rfl ?_)) | refine j_nil ?_ | (show J _ _ _ (Code.wp _ _ _); first | refine j_seq ?_ | refine j_region ?_ | (show J _ _ _ (Code.wp _ (.cond _ _ _) _); (refine j_bool rfl (fun h => ?_) (fun h => ?_))) | refine j_ret ?_ | refine j_skip ?_) | refine j_then ?_ | refine j_then_ret ?_)
  · exact j_ret1 (M := [blk d 40 [x, .int .i64 room, .bool gone, .int .i64 good]]) rfl rfl .refl ⟨congrArg (Value.int .i64) (by unfold barE; rw [if_pos h]), rfl⟩
  have hg := h
  (refine j_call rfl rfl (rmay_spec k hk) (.refl) rfl (fun v M N h hN => ?_); obtain ⟨rfl, rfl⟩ := h; (try simp only [List.nil_append, List.cons_append, List.append_assoc] at hN); subst hN)
  repeat' (first | (show J _ _ _ (runS _ _ _ (⟨_, _, _, _, _, none⟩ :: _)); first | (show J _ _ _ (runS _ _ _ (⟨_, .move _, _, _, _, _⟩ :: _)); refine j_move rfl rfl ?_) | (show J _ _ _ (runS _ _ _ (⟨_, .assign _, _, _, _, _⟩ :: _)); refine j_assign rfl rfl ?_) | (show J _ _ _ (runS _ _ _ (⟨_, .pick _ _ _, _, _, _, _⟩ :: _)); ((refine j_pick_t rfl rfl rfl ?_))) | (show J _ _ _ (runS _ _ _ (⟨_, .unOp _ _ _, _, _, _, _⟩ :: _)); ((refine j_not_b rfl rfl ?_)))) | refine j_nil ?_ | (show J _ _ _ (runS _ _ _ (⟨_, _, _, _, _, some _⟩ :: _)); first | refine j_gno_u rfl rfl rfl rfl ?_ | refine j_gyes rfl rfl rfl ?_ | refine j_gsplit rfl rfl (fun h => ?_) (fun h => ?_)) | (show J _ _ _ (Code.wp _ _ _); first | refine j_seq ?_ | refine j_region ?_ | (show J _ _ _ (Code.wp _ (.cond _ _ _) _); (refine j_true rfl ?_)) | refine j_ret ?_) | refine j_then ?_ | refine j_then_ret ?_)
  · exact j_ret1 (M := [blk d 40 [x, .int .i64 room, .bool gone, .int .i64 good]]) rfl rfl .refl ⟨congrArg (Value.int .i64) (by unfold barE; rw [if_neg (by rw [hg]; simp), if_neg (fun e => by rw [e.1] at h; cases h)]), rfl⟩
  have hmk : mayB k = true := by simpa using h
  (refine j_call rfl rfl (rmay_spec t ht) (.refl) rfl (fun v M N h hN => ?_); obtain ⟨rfl, rfl⟩ := h; (try simp only [List.nil_append, List.cons_append, List.append_assoc] at hN); subst hN)
  repeat' (first | (show J _ _ _ (runS _ _ _ (⟨_, _, _, _, _, none⟩ :: _)); first | (show J _ _ _ (runS _ _ _ (⟨_, .assign _, _, _, _, _⟩ :: _)); refine j_assign rfl rfl ?_) | (show J _ _ _ (runS _ _ _ (⟨_, .pick _ _ _, _, _, _, _⟩ :: _)); ((refine j_pick_f rfl rfl rfl ?_))) | (show J _ _ _ (runS _ _ _ (⟨_, .unOp _ _ _, _, _, _, _⟩ :: _)); ((refine j_not_b rfl rfl ?_)))) | refine j_nil ?_ | (show J _ _ _ (runS _ _ _ (⟨_, _, _, _, _, some _⟩ :: _)); (refine j_gyes rfl rfl rfl ?_)) | (show J _ _ _ (Code.wp _ _ _); first | refine j_seq ?_ | refine j_region ?_ | (show J _ _ _ (Code.wp _ (.cond _ _ _) _); (refine j_bool rfl (fun h => ?_) (fun h => ?_))) | refine j_ret ?_ | refine j_skip ?_) | refine j_then ?_ | refine j_then_ret ?_)
  · exact j_ret1 (M := [blk d 40 [x, .int .i64 room, .bool gone, .int .i64 good]]) rfl rfl .refl ⟨congrArg (Value.int .i64) (by unfold barE; rw [if_neg (by rw [hg]; simp), if_neg (fun e => by rw [e.2] at h; cases h)]), rfl⟩
  · exact j_ret1 (M := [blk d 40 [x, .int .i64 room, .bool gone, .int .i64 good]]) rfl rfl .refl ⟨congrArg (Value.int .i64) (by unfold barE; rw [if_neg (by rw [hg]; simp), if_pos ⟨hmk, by simpa using h⟩]), rfl⟩

theorem rfails_spec (d : Nat) (x : Value) (s : DS) (hd : s.down = false) (ha : -1 ≤ s.arm ∧ s.arm ≤ 9223372036854775807) : Tr Try.prog 52 [.pointer (some ⟨d, 0, none⟩)] [blk d 40 [x, .int .i64 s.room, .bool s.down, .int .i64 s.arm]] (fun v M => v = .bool (decide (s.arm = 0)) ∧ M = [blk d 40 [x, .int .i64 (failS s).room, .bool (failS s).down, .int .i64 (failS s).arm]]) := by
  refine tr_enter Try.func52 rfl Try.ntmps52 rfl (fun F => ?_)
  repeat' (first | (show J _ _ _ (runS _ _ _ (⟨_, _, _, _, _, none⟩ :: _)); first | (show J _ _ _ (runS _ _ _ (⟨_, .move _, _, _, _, _⟩ :: _)); refine j_move rfl rfl ?_) | (show J _ _ _ (runS _ _ _ (⟨_, .load _ _, _, _, _, _⟩ :: _)); ((refine j_load rfl rfl (by repeat constructor) rfl rfl ?_))) | (show J _ _ _ (runS _ _ _ (⟨_, .fieldAddr _ _ _, _, _, _, _⟩ :: _)); refine j_fieldAddr rfl rfl ?_) | (show J _ _ _ (runS _ _ _ (⟨_, .nilCheck _, _, _, _, _⟩ :: _)); ((refine j_nilCheck rfl rfl ?_))) | (show J _ _ _ (runS _ _ _ (⟨_, .binOp _ _ _ _ _, _, _, _, _⟩ :: _)); (first | refine j_sub_ rfl rfl (by omega) rfl ?_ | refine j_bin rfl rfl rfl rfl ?_)) | (show J _ _ _ (runS _ _ _ (⟨_, .assign _, _, _, _, _⟩ :: _)); refine j_assign rfl rfl ?_) | (show J _ _ _ (runS _ _ _ (⟨_, .store _ _ _, _, _, _, _⟩ :: _)); ((refine j_set rfl rfl rfl (by rfl) (by repeat constructor) (by repeat constructor) ?_)))) | refine j_nil ?_ | (show J _ _ _ (Code.wp _ _ _); first | refine j_seq ?_ | refine j_region ?_ | (show J _ _ _ (Code.wp _ (.cond _ _ _) _); (refine j_dec rfl (fun h => ?_) (fun h => ?_))) | refine j_ret ?_ | refine j_skip ?_) | refine j_then ?_ | refine j_then_ret ?_)
  · exact j_ret1 (M := [blk d 40 [x, .int .i64 (failS s).room, .bool (failS s).down, .int .i64 (failS s).arm]]) rfl rfl (by unfold failS; rw [decide_eq_true h, if_neg (by omega)]; exact .refl) ⟨by rw [decide_eq_true h], rfl⟩
  · rename_i h0
    exact j_ret1 (M := [blk d 40 [x, .int .i64 (failS s).room, .bool (failS s).down, .int .i64 (failS s).arm]]) rfl rfl (by unfold failS; rw [decide_eq_false h0, if_pos h, ← hd]; exact .refl) ⟨by rw [decide_eq_false h0], rfl⟩
  · rename_i h0
    exact j_ret1 (M := [blk d 40 [x, .int .i64 (failS s).room, .bool (failS s).down, .int .i64 (failS s).arm]]) rfl rfl (by unfold failS; rw [decide_eq_false h0, if_neg h, ← hd]; exact .refl) ⟨by rw [decide_eq_false h0], rfl⟩

end Go.Proofs.Ytjneocpbpnbopaa
