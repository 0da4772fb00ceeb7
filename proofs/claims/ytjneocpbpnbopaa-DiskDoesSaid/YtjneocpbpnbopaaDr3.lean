/- The document's disk: put, drop. -/
import Derived.Test.YtjneocpbpnbopaaDr2
set_option linter.unusedVariables false
set_option linter.unusedSimpArgs false
set_option maxRecDepth 100000
namespace Go.Proofs.Ytjneocpbpnbopaa
open Go
attribute [local irreducible] Exit.then Exit.inBlock Code.wp runS bodyPost postF J runT cutQ cutR Tr Sat blk Sl Old Star Ex Pu
attribute [local irreducible] MapA MapB IterA IterS All

section
variable {P : Program} {n : Nat} {fm : Fm} {L : List HP} {ops : Array Oper} {K : Go.Act → World → Prop} {rest : List Oper} {ty : TypeId} {pos : String} {after : Array Edge} {d : Tmp}
theorem j_ltstr {t t2 : TypeId} {n1 : Nat} {x y : Operand} {p q : ByteArray} [hs : TyC P t .string n1] (hx : ev fm x = some (.string p)) (hy : ev fm y = some (.string q)) (hd : Nat.blt d n = true)
    (k : J n ((d, .bool (ltB p q)) :: fm) L (runS P ops K rest)) : J n fm L (runS P ops K (⟨some d, .binOp .lss t x y t2, ty, pos, after, none⟩ :: rest)) :=
  j_pure (by (simp [cls]; done)) (fun a w hr => by
    simp [execOp, hr.ev hx, hr.ev hy, eqGuard, binOp, Op.stringOp, ltB]) hd k
end

attribute [local semireducible] Star All in
/-- all pieces, with one more at a place -/
theorem all_ins {Ls : List HP} {k : Nat} {A : HP} [hA : Loc A] (hk : k ≤ Ls.length) : ∀ w S, Star A (All Ls) w S → All (Ls.insertIdx k A) w S := by
  classical
  intro w S ⟨T, h1, hl, own, h2⟩
  refine ⟨fun B hB => ?_, fun b => if T b then k else if own b < k then own b else own b + 1, fun j B hj => ?_⟩
  · rcases (List.mem_insertIdx hk).1 hB with rfl | hB
    · exact hA
    · exact hl B hB
  · rw [List.getElem?_insertIdx] at hj
    split at hj
    · rename_i hlt
      have := hl B (List.mem_of_getElem? hj)
      exact loc_mono (h2 j B hj) (fun b hb => ⟨hb.1.1, by dsimp only; rw [if_neg hb.1.2, if_pos (by rw [hb.2]; exact hlt)]; exact hb.2⟩)
    · split at hj
      · rename_i hjk
        split at hj
        · injection hj with hj
          subst hj
          exact loc_mono h1 (fun b hb => ⟨hb.1, by dsimp only; rw [if_pos hb.2]; exact hjk.symm⟩)
        · cases hj
      · rename_i h3 h4
        have := hl B (List.mem_of_getElem? hj)
        exact loc_mono (h2 (j - 1) B hj) (fun b hb => ⟨hb.1.1, by dsimp only; rw [if_neg hb.1.2, if_neg (by rw [hb.2]; omega), hb.2]; omega⟩)
theorem j_ins {n : Nat} {fm : Fm} {L : List HP} {X : Go.Act → World → Prop} {Ls : List HP} {A : HP} [Loc A] (k : Nat) (hk : k ≤ Ls.length) (h : J n fm (All (Ls.insertIdx k A) :: L) X) : J n fm (A :: All Ls :: L) X :=
  j_unstar (j_imp (all_ins hk) h)
/-- where it is put -/
def posG {α : Type} (nm : α → ByteArray) : List α → α → Nat
  | [], _ => 0
  | g :: l, f => if ltB (nm f) (nm g) = true then 0 else posG nm l f + 1
theorem posG_le {α : Type} (nm : α → ByteArray) (l : List α) (f : α) : posG nm l f ≤ l.length := by
  induction l with
  | nil => exact Nat.le_refl _
  | cons g l ih =>
    rw [posG]
    split
    · omega
    · simp; omega
theorem insG_idx {α : Type} (nm : α → ByteArray) (l : List α) (f : α) : insG nm l f = l.insertIdx (posG nm l f) f := by
  induction l with
  | nil => rfl
  | cons g l ih =>
    rw [insG, posG]
    split
    · rfl
    · rw [ih, List.insertIdx_succ_cons]
theorem map_ins {α β : Type} (φ : α → β) : ∀ (l : List α) (k : Nat) (x : α), (l.insertIdx k x).map φ = (l.map φ).insertIdx k (φ x)
  | l, 0, x => by simp
  | [], k + 1, x => by simp
  | g :: l, k + 1, x => by simp [List.insertIdx_succ_cons, map_ins φ l k x]

def othN (k : ByteArray) (f : RF) : Bool := decide (f.n ≠ k)
theorem filt_step (fs : List RF) (k : ByteArray) {i : Nat} (h : i < fs.length) : (fs.take (i + 1)).filter (othN k) = (fs.take i).filter (othN k) ++ if fs[i].n ≠ k then [fs[i]] else [] := by
  rw [List.take_add_one, List.getElem?_eq_getElem h, List.filter_append]
  congr 1
  by_cases hk : fs[i].n = k <;> simp [hk, othN]
theorem filt_le (fs : List RF) (k : ByteArray) (i : Nat) : ((fs.take i).filter (othN k)).length ≤ fs.length := by
  refine Nat.le_trans (List.length_filter_le ..) ?_
  simp; omega

theorem rdrop_spec (d : Nat) (fs : List RF) (a : Option Addr) (c : Nat) (room good : Int) (gone : Bool) (k : ByteArray) (hm : fs.length ≤ 1000) : Tr Try.prog 53 [.pointer (some ⟨d, 0, none⟩), .string k] [blk d 40 [.slice a fs.length c, .int .i64 room, .bool gone, .int .i64 good], Sl 76 a c fs] (fun v M => ∃ a' c' fs', v = .tuple #[] ∧ fs' = fs.filter (othN k) ∧ M = [blk d 40 [.slice a' fs'.length c', .int .i64 room, .bool gone, .int .i64 good], Sl 76 a' c' fs']) := by
  refine tr_enter Try.func53 rfl Try.ntmps53 rfl (fun F => ?_)
  repeat' ((show J _ _ _ (Code.wp _ _ _); first | refine j_seq ?_ | refine j_region ?_))
  refine j_lit0 (α := RF) rfl (fun b0 => ?_)
  repeat' (first | (show J _ _ _ (runS _ _ _ (⟨_, _, _, _, _, none⟩ :: _)); (show J _ _ _ (runS _ _ _ (⟨_, .assign _, _, _, _, _⟩ :: _)); refine j_assign rfl rfl ?_)) | refine j_nil ?_ | (show J _ _ _ (Code.wp _ _ _); first | refine j_seq ?_ | refine j_region ?_) | refine j_then ?_)
  refine j_block ?_
  refine j_loop (X := { q : Nat × Option Addr × Nat // q.1 ≤ fs.length }) (fun q => [(0, .pointer (some ⟨d, 0, none⟩)), (1, .string k), (4, .slice q.1.2.1 ((fs.take q.1.1).filter (othN k)).length q.1.2.2), (5, .int .i64 (q.1.1 : Nat))]) (fun q => Sl 76 q.1.2.1 q.1.2.2 ((fs.take q.1.1).filter (othN k)) :: [blk d 40 [.slice a fs.length c, .int .i64 room, .bool gone, .int .i64 good], Sl 76 a c fs] ++ F) (fun q => fs.length - q.1.1) ⟨(0, some ⟨b0, 0, none⟩, 0), by omega⟩ ⟨rfl, rfl, rfl, rfl, trivial⟩ (by repeat ((exact .refl))) (fun q => ?_)
  obtain ⟨⟨i, a1, c1⟩, hi⟩ := q
  dsimp only at hi ⊢
  have hfl := filt_le fs k i
  repeat' (first | (show J _ _ _ (runS _ _ _ (⟨_, _, _, _, _, none⟩ :: _)); first | (show J _ _ _ (runS _ _ _ (⟨_, .move _, _, _, _, _⟩ :: _)); refine j_move rfl rfl ?_) | (show J _ _ _ (runS _ _ _ (⟨_, .load _ _, _, _, _, _⟩ :: _)); ((refine j_load rfl rfl (by repeat constructor) rfl rfl ?_))) | (show J _ _ _ (runS _ _ _ (⟨_, .fieldAddr _ _ _, _, _, _, _⟩ :: _)); refine j_fieldAddr rfl rfl ?_) | (show J _ _ _ (runS _ _ _ (⟨_, .nilCheck _, _, _, _, _⟩ :: _)); ((refine j_nilCheck rfl rfl ?_))) | (show J _ _ _ (runS _ _ _ (⟨_, .binOp _ _ _ _ _, _, _, _, _⟩ :: _)); ((refine j_bin rfl rfl rfl rfl ?_))) | (show J _ _ _ (runS _ _ _ (⟨_, .store _ _ _, _, _, _, _⟩ :: _)); ((refine j_set rfl rfl rfl (by rfl) (by repeat constructor) (by repeat constructor) ?_))) | (show J _ _ _ (runS _ _ _ (⟨_, .call ⟨.builtin .len, _, _⟩, _, _, _, _⟩ :: _)); ((refine j_len rfl rfl ?_)))) | refine j_nil ?_ | (show J _ _ _ (Code.wp _ _ _); first | refine j_seq ?_ | refine j_region ?_ | refine j_block ?_ | (show J _ _ _ (Code.wp _ (.cond _ _ _) _); (refine j_dec rfl (fun h => ?_) (fun h => ?_))) | refine j_skip ?_ | refine j_exit ?_) | refine j_then ?_ | refine j_then_exit ?_ | refine j_inb_here ?_ | refine j_retn ?_)
  · have hi2 : i < fs.length := by omega
    have hst := filt_step fs k hi2
    (refine j_idx (α := RF) (M := [Sl 76 a c fs]) rfl rfl (by repeat (first | exact .refl | apply Pk.cons | constructor)) sees_sl rfl i rfl hi2 rfl (fun b3 o3 ha3 hc3 => ?_))
    repeat' ((show J _ _ _ (runS _ _ _ (⟨_, _, _, _, _, none⟩ :: _)); (show J _ _ _ (runS _ _ _ (⟨_, .fieldAddr _ _ _, _, _, _, _⟩ :: _)); refine j_fieldAddr rfl rfl ?_)))
    refine j_loadv (M := [Sl 76 a c fs]) (v := .string fs[i].n) rfl rfl (by repeat (first | exact .refl | apply Pk.cons | constructor)) (fun w hw => hc3 0 _ rfl w hw) rfl ?_
    repeat' (first | (show J _ _ _ (runS _ _ _ (⟨_, _, _, _, _, none⟩ :: _)); first | (show J _ _ _ (runS _ _ _ (⟨_, .move _, _, _, _, _⟩ :: _)); refine j_move rfl rfl ?_) | (show J _ _ _ (runS _ _ _ (⟨_, .load _ _, _, _, _, _⟩ :: _)); ((refine j_load rfl rfl (by repeat constructor) rfl rfl ?_))) | (show J _ _ _ (runS _ _ _ (⟨_, .fieldAddr _ _ _, _, _, _, _⟩ :: _)); refine j_fieldAddr rfl rfl ?_) | (show J _ _ _ (runS _ _ _ (⟨_, .nilCheck _, _, _, _, _⟩ :: _)); ((refine j_nilCheck rfl rfl ?_))) | (show J _ _ _ (runS _ _ _ (⟨_, .binOp _ _ _ _ _, _, _, _, _⟩ :: _)); (first | refine j_add rfl rfl (by omega) rfl ?_ | refine j_nestr rfl rfl rfl ?_)) | (show J _ _ _ (runS _ _ _ (⟨_, .assign _, _, _, _, _⟩ :: _)); refine j_assign rfl rfl ?_)) | refine j_nil ?_ | (show J _ _ _ (Code.wp _ _ _); first | refine j_region ?_ | (show J _ _ _ (Code.wp _ (.cond _ _ _) _); (refine j_dec rfl (fun h => ?_) (fun h => ?_))) | refine j_skip ?_) | refine j_then ?_ | refine j_inb ?_)
    · rw [if_pos h] at hst
      (refine j_idx (α := RF) (M := [Sl 76 a c fs]) rfl rfl (by repeat (first | exact .refl | apply Pk.cons | constructor)) sees_sl rfl i rfl hi2 rfl (fun b3 o3 ha3 hc3 => ?_))
      refine j_loadsv (M := [Sl 76 a c fs]) [.string fs[i].n, .slice fs[i].a fs[i].b.length fs[i].c, .int .i64 fs[i].s] rfl rfl rfl (by repeat (first | exact .refl | apply Pk.cons | constructor)) (fun w hw q v hq => hc3 q v hq w hw) rfl ?_
      (refine j_lit1 (α := RF) rfl rfl fs[i] rfl (by decide) rfl (fun bh => ?_); refine j_append (α := RF) (ls := (fs.take i).filter (othN k)) (ms := [fs[i]]) rfl rfl rfl (fun _ _ => (by repeat constructor)) (M := [blk bh 76 [.string (fs[i]).n, .slice (fs[i]).a (fs[i]).b.length (fs[i]).c, .int .i64 (fs[i]).s]]) (by repeat ((exact .refl))) (sees_blk1 (fs[i])) rfl rfl (by unfold maxLen; simp only [List.length_singleton]; omega) (by simp only [List.length_singleton]; omega) rfl (fun a2 c2 _ => ?_))
      rw [← hst]
      repeat' (first | (show J _ _ _ (runS _ _ _ (⟨_, _, _, _, _, none⟩ :: _)); first | (show J _ _ _ (runS _ _ _ (⟨_, .move _, _, _, _, _⟩ :: _)); refine j_move rfl rfl ?_) | (show J _ _ _ (runS _ _ _ (⟨_, .binOp _ _ _ _ _, _, _, _, _⟩ :: _)); ((refine j_add rfl rfl (by omega) rfl ?_))) | (show J _ _ _ (runS _ _ _ (⟨_, .assign _, _, _, _, _⟩ :: _)); refine j_assign rfl rfl ?_)) | refine j_nil ?_ | (show J _ _ _ (Code.wp _ _ _); (refine j_region ?_)) | refine j_then ?_ | refine j_inb ?_)
      exact j_round ⟨(i + 1, a2, c2), hi2⟩ (by dsimp only; omega) ⟨rfl, rfl, rfl, rfl, trivial⟩ (by repeat (first | exact .refl | apply Pk.cons | refine .drop ?_ | constructor))
    · rw [if_neg h, List.append_nil] at hst
      exact j_round ⟨(i + 1, a1, c1), hi2⟩ (by dsimp only; omega) ⟨rfl, rfl, by rw [hst]; rfl, rfl, trivial⟩ (by rw [hst]; exact (by repeat ((exact .refl))))
  · rw [List.take_of_length_le (by omega)] at hfl ⊢
    repeat' (fail)
    exact j_ret0 (M := [blk d 40 [.slice a1 (fs.filter (othN k)).length c1, .int .i64 room, .bool gone, .int .i64 good], Sl 76 a1 c1 (fs.filter (othN k))]) rfl (by repeat (first | exact .refl | apply Pk.cons | refine .drop ?_ | constructor)) ⟨a1, c1, _, rfl, rfl, rfl⟩

def restG (dn : Bool) (l : List RF) (f : RF) : List RF := if dn = true then l else insG RF.n l f
theorem drop_at (fs : List RF) {i : Nat} (h : i < fs.length) : fs.drop i = fs[i] :: fs.drop (i + 1) := List.drop_eq_getElem_cons h

theorem rput_spec (d : Nat) (fs : List RF) (a : Option Addr) (c : Nat) (room good : Int) (gone : Bool) (f : RF) (hm : fs.length ≤ 1000) : Tr Try.prog 51 [.pointer (some ⟨d, 0, none⟩), .agg #[.string f.n, .slice f.a f.b.length f.c, .int .i64 f.s]] [blk d 40 [.slice a fs.length c, .int .i64 room, .bool gone, .int .i64 good], Sl 76 a c fs] (fun v M => ∃ a' c' fs', v = .tuple #[] ∧ fs' = insG RF.n fs f ∧ M = [blk d 40 [.slice a' fs'.length c', .int .i64 room, .bool gone, .int .i64 good], Sl 76 a' c' fs']) := by
  refine tr_enter Try.func51 rfl Try.ntmps51 rfl (fun F => ?_)
  repeat' (first | (show J _ _ _ (runS _ _ _ (⟨_, _, _, _, _, none⟩ :: _)); (show J _ _ _ (runS _ _ _ (⟨_, .box _ _, _, _, _, _⟩ :: _)); refine j_box rfl rfl (fun b => ?_))) | refine j_nil ?_ | (show J _ _ _ (Code.wp _ _ _); first | refine j_seq ?_ | refine j_region ?_) | refine j_then ?_)
  refine j_lit0 (α := RF) rfl (fun b0 => ?_)
  repeat' (first | (show J _ _ _ (runS _ _ _ (⟨_, _, _, _, _, none⟩ :: _)); (show J _ _ _ (runS _ _ _ (⟨_, .assign _, _, _, _, _⟩ :: _)); refine j_assign rfl rfl ?_)) | refine j_nil ?_ | (show J _ _ _ (Code.wp _ _ _); first | refine j_seq ?_ | refine j_region ?_) | refine j_then ?_)
  refine j_cut (X := { q : List RF × Option Addr × Nat × Bool // q.1.length ≤ fs.length + 1 ∧ insG RF.n fs f = q.1 ++ restG q.2.2.2 [] f }) (fun q => [(0, .pointer (some ⟨d, 0, none⟩)), (3, .pointer (some ⟨b, 0, none⟩)), (4, .slice q.1.2.1 q.1.1.length q.1.2.2.1), (5, .bool q.1.2.2.2)]) (fun q => Sl 76 q.1.2.1 q.1.2.2.1 q.1.1 :: blk b 76 [.string f.n, .slice f.a f.b.length f.c, .int .i64 f.s] :: [blk d 40 [.slice a fs.length c, .int .i64 room, .bool gone, .int .i64 good], Sl 76 a c fs] ++ F) ?_ (fun q => ?_)
  · refine j_block ?_
    refine j_loop (X := { q : Nat × List RF × Option Addr × Nat × Bool // q.1 ≤ fs.length ∧ q.2.1.length ≤ q.1 + (if q.2.2.2.2 = true then 1 else 0) ∧ insG RF.n fs f = q.2.1 ++ restG q.2.2.2.2 (fs.drop q.1) f }) (fun q => [(0, .pointer (some ⟨d, 0, none⟩)), (3, .pointer (some ⟨b, 0, none⟩)), (4, .slice q.1.2.2.1 q.1.2.1.length q.1.2.2.2.1), (5, .bool q.1.2.2.2.2), (6, .int .i64 (q.1.1 : Nat))]) (fun q => Sl 76 q.1.2.2.1 q.1.2.2.2.1 q.1.2.1 :: blk b 76 [.string f.n, .slice f.a f.b.length f.c, .int .i64 f.s] :: [blk d 40 [.slice a fs.length c, .int .i64 room, .bool gone, .int .i64 good], Sl 76 a c fs] ++ F) (fun q => fs.length - q.1.1) ⟨(0, [], some ⟨b0, 0, none⟩, 0, false), by omega, by simp, rfl⟩ ⟨rfl, rfl, rfl, rfl, rfl, trivial⟩ (by repeat ((exact .refl))) (fun q => ?_)
    obtain ⟨⟨i, cur, a1, c1, dn⟩, hi, hcl, hin⟩ := q
    dsimp only at hi hcl hin ⊢
    have hcl1 : cur.length ≤ i + 1 := by split at hcl <;> omega
    repeat' (first | (show J _ _ _ (runS _ _ _ (⟨_, _, _, _, _, none⟩ :: _)); first | (show J _ _ _ (runS _ _ _ (⟨_, .move _, _, _, _, _⟩ :: _)); refine j_move rfl rfl ?_) | (show J _ _ _ (runS _ _ _ (⟨_, .load _ _, _, _, _, _⟩ :: _)); ((refine j_load rfl rfl (by repeat constructor) rfl rfl ?_))) | (show J _ _ _ (runS _ _ _ (⟨_, .fieldAddr _ _ _, _, _, _, _⟩ :: _)); refine j_fieldAddr rfl rfl ?_) | (show J _ _ _ (runS _ _ _ (⟨_, .nilCheck _, _, _, _, _⟩ :: _)); ((refine j_nilCheck rfl rfl ?_))) | (show J _ _ _ (runS _ _ _ (⟨_, .binOp _ _ _ _ _, _, _, _, _⟩ :: _)); ((refine j_bin rfl rfl rfl rfl ?_))) | (show J _ _ _ (runS _ _ _ (⟨_, .call ⟨.builtin .len, _, _⟩, _, _, _, _⟩ :: _)); ((refine j_len rfl rfl ?_)))) | refine j_nil ?_ | (show J _ _ _ (Code.wp _ _ _); first | refine j_seq ?_ | refine j_region ?_ | (show J _ _ _ (Code.wp _ (.cond _ _ _) _); (refine j_dec rfl (fun h => ?_) (fun h => ?_))) | refine j_skip ?_ | refine j_exit ?_) | refine j_then ?_ | refine j_then_exit ?_ | refine j_inb_here ?_)
    · have hi2 : i < fs.length := by omega
      rw [drop_at fs hi2] at hin
      refine j_block ?_
      refine j_seq ?_
      refine j_cut (X := { q : List RF × Option Addr × Nat × Bool // (q.1.length ≤ i + (if q.2.2.2 = true then 1 else 0)) ∧ insG RF.n fs f = q.1 ++ fs[i] :: restG q.2.2.2 (fs.drop (i + 1)) f }) (fun q => [(0, .pointer (some ⟨d, 0, none⟩)), (3, .pointer (some ⟨b, 0, none⟩)), (4, .slice q.1.2.1 q.1.1.length q.1.2.2.1), (5, .bool q.1.2.2.2), (6, .int .i64 (i : Nat))]) (fun q => Sl 76 q.1.2.1 q.1.2.2.1 q.1.1 :: blk b 76 [.string f.n, .slice f.a f.b.length f.c, .int .i64 f.s] :: [blk d 40 [.slice a fs.length c, .int .i64 room, .bool gone, .int .i64 good], Sl 76 a c fs] ++ F) ?_ (fun q => ?_)
      · rcases Bool.eq_false_or_eq_true dn with hdn | hdn
        · subst hdn
          repeat' (first | (show J _ _ _ (runS _ _ _ (⟨_, _, _, _, _, none⟩ :: _)); first | (show J _ _ _ (runS _ _ _ (⟨_, .move _, _, _, _, _⟩ :: _)); refine j_move rfl rfl ?_) | (show J _ _ _ (runS _ _ _ (⟨_, .pick _ _ _, _, _, _, _⟩ :: _)); ((refine j_pick_f rfl rfl rfl ?_))) | (show J _ _ _ (runS _ _ _ (⟨_, .unOp _ _ _, _, _, _, _⟩ :: _)); ((refine j_not_b rfl rfl ?_)))) | refine j_nil ?_ | (show J _ _ _ (runS _ _ _ (⟨_, _, _, _, _, some _⟩ :: _)); (refine j_gno_u rfl rfl rfl rfl ?_)) | (show J _ _ _ (Code.wp _ _ _); first | refine j_seq ?_ | (show J _ _ _ (Code.wp _ (.cond _ _ _) _); (refine j_false rfl ?_)) | refine j_skip ?_ | refine j_draw (by decide +kernel) ?_) | refine j_then ?_)
          exact j_cutend (Y := { q : List RF × Option Addr × Nat × Bool // (q.1.length ≤ i + (if q.2.2.2 = true then 1 else 0)) ∧ insG RF.n fs f = q.1 ++ fs[i] :: restG q.2.2.2 (fs.drop (i + 1)) f }) ⟨(cur, a1, c1, true), hcl, hin⟩ ⟨rfl, rfl, rfl, rfl, rfl, trivial⟩ (by repeat ((exact .refl)))
        · subst hdn
          repeat' (first | (show J _ _ _ (runS _ _ _ (⟨_, _, _, _, _, none⟩ :: _)); first | (show J _ _ _ (runS _ _ _ (⟨_, .move _, _, _, _, _⟩ :: _)); refine j_move rfl rfl ?_) | (show J _ _ _ (runS _ _ _ (⟨_, .load _ _, _, _, _, _⟩ :: _)); ((refine j_load rfl rfl (by repeat constructor) rfl rfl ?_))) | (show J _ _ _ (runS _ _ _ (⟨_, .fieldAddr _ _ _, _, _, _, _⟩ :: _)); refine j_fieldAddr rfl rfl ?_) | (show J _ _ _ (runS _ _ _ (⟨_, .nilCheck _, _, _, _, _⟩ :: _)); ((refine j_nilCheck rfl rfl ?_))) | (show J _ _ _ (runS _ _ _ (⟨_, .unOp _ _ _, _, _, _, _⟩ :: _)); ((refine j_not_b rfl rfl ?_)))) | (show J _ _ _ (runS _ _ _ (⟨_, _, _, _, _, some _⟩ :: _)); (refine j_gyes rfl rfl rfl ?_)) | (show J _ _ _ (Code.wp _ _ _); first | refine j_seq ?_ | refine j_draw (by decide +kernel) ?_))
          (refine j_idx (α := RF) (M := [Sl 76 a c fs]) rfl rfl (by repeat (first | exact .refl | apply Pk.cons | constructor)) sees_sl rfl i rfl hi2 rfl (fun b3 o3 ha3 hc3 => ?_))
          repeat' (first | (show J _ _ _ (runS _ _ _ (⟨_, _, _, _, _, none⟩ :: _)); (show J _ _ _ (runS _ _ _ (⟨_, .fieldAddr _ _ _, _, _, _, _⟩ :: _)); refine j_fieldAddr rfl rfl ?_)) | (show J _ _ _ (runS _ _ _ (⟨_, _, _, _, _, some _⟩ :: _)); (refine j_gyes rfl rfl rfl ?_)))
          refine j_loadv (M := [Sl 76 a c fs]) (v := .string fs[i].n) rfl rfl (by repeat (first | exact .refl | apply Pk.cons | constructor)) (fun w hw => hc3 0 _ rfl w hw) rfl ?_
          repeat' ((show J _ _ _ (runS _ _ _ (⟨_, _, _, _, _, some _⟩ :: _)); (refine j_gyes rfl rfl rfl ?_)))
          refine j_ltstr rfl rfl rfl ?_
          repeat' (first | (show J _ _ _ (runS _ _ _ (⟨_, _, _, _, _, none⟩ :: _)); first | (show J _ _ _ (runS _ _ _ (⟨_, .move _, _, _, _, _⟩ :: _)); refine j_move rfl rfl ?_) | (show J _ _ _ (runS _ _ _ (⟨_, .load _ _, _, _, _, _⟩ :: _)); ((refine j_loads [_, _, _] rfl rfl rfl (by repeat constructor) ⟨rfl, rfl, rfl, trivial⟩ rfl ?_))) | (show J _ _ _ (runS _ _ _ (⟨_, .pick _ _ _, _, _, _, _⟩ :: _)); ((refine j_pick_t rfl rfl rfl ?_)))) | refine j_nil ?_ | (show J _ _ _ (Code.wp _ _ _); first | refine j_seq ?_ | refine j_region ?_ | (show J _ _ _ (Code.wp _ (.cond _ _ _) _); (refine j_bool rfl (fun h => ?_) (fun h => ?_))) | refine j_skip ?_) | refine j_then ?_)
          · rw [show restG false (fs[i] :: fs.drop (i + 1)) f = f :: fs[i] :: fs.drop (i + 1) from if_pos h] at hin
            rw [if_neg (by simp)] at hcl
            (refine j_lit1 (α := RF) rfl rfl f rfl (by decide) rfl (fun bh => ?_); refine j_append (α := RF) (ls := cur) (ms := [f]) rfl rfl rfl (fun _ _ => (by repeat constructor)) (M := [blk bh 76 [.string (f).n, .slice (f).a (f).b.length (f).c, .int .i64 (f).s]]) (by repeat ((exact .refl))) (sees_blk1 (f)) rfl rfl (by unfold maxLen; simp only [List.length_singleton]; omega) (by simp only [List.length_singleton]; omega) rfl (fun a2 c2 _ => ?_))
            repeat' (first | (show J _ _ _ (runS _ _ _ (⟨_, _, _, _, _, none⟩ :: _)); (show J _ _ _ (runS _ _ _ (⟨_, .assign _, _, _, _, _⟩ :: _)); refine j_assign rfl rfl ?_)) | refine j_nil ?_ | (show J _ _ _ (Code.wp _ _ _); (refine j_region ?_)) | refine j_then ?_)
            refine j_cutend (Y := { q : List RF × Option Addr × Nat × Bool // (q.1.length ≤ i + (if q.2.2.2 = true then 1 else 0)) ∧ insG RF.n fs f = q.1 ++ fs[i] :: restG q.2.2.2 (fs.drop (i + 1)) f }) ⟨(cur ++ [f], a2, c2, true), ?_, ?_⟩ ⟨rfl, rfl, rfl, rfl, rfl, trivial⟩ (by repeat (first | exact .refl | apply Pk.cons | refine .drop ?_ | constructor))
            · dsimp only; rw [List.length_append, List.length_singleton, if_pos rfl]; omega
            · dsimp only; rw [hin, List.append_assoc]; rfl
          · have hin2 : insG RF.n fs f = cur ++ fs[i] :: restG false (fs.drop (i + 1)) f := by
              rw [hin]
              congr 1
              show insG RF.n (fs[i] :: fs.drop (i + 1)) f = fs[i] :: insG RF.n (fs.drop (i + 1)) f
              rw [insG, if_neg (by rw [h]; simp)]
            exact j_cutend (Y := { q : List RF × Option Addr × Nat × Bool // (q.1.length ≤ i + (if q.2.2.2 = true then 1 else 0)) ∧ insG RF.n fs f = q.1 ++ fs[i] :: restG q.2.2.2 (fs.drop (i + 1)) f }) ⟨(cur, a1, c1, false), hcl, hin2⟩ ⟨rfl, rfl, rfl, rfl, rfl, trivial⟩ (by repeat ((exact .refl)))
      clear hcl hcl1 hin cur a1 c1 dn
      obtain ⟨⟨cur, a1, c1, dn⟩, hcl, hin⟩ := q
      dsimp only at hcl hin ⊢
      have hcl1 : cur.length ≤ i + 1 := by split at hcl <;> omega
      repeat' (first | (show J _ _ _ (runS _ _ _ (⟨_, _, _, _, _, none⟩ :: _)); first | (show J _ _ _ (runS _ _ _ (⟨_, .move _, _, _, _, _⟩ :: _)); refine j_move rfl rfl ?_) | (show J _ _ _ (runS _ _ _ (⟨_, .load _ _, _, _, _, _⟩ :: _)); ((refine j_load rfl rfl (by repeat constructor) rfl rfl ?_))) | (show J _ _ _ (runS _ _ _ (⟨_, .fieldAddr _ _ _, _, _, _, _⟩ :: _)); refine j_fieldAddr rfl rfl ?_) | (show J _ _ _ (runS _ _ _ (⟨_, .nilCheck _, _, _, _, _⟩ :: _)); ((refine j_nilCheck rfl rfl ?_)))) | (show J _ _ _ (Code.wp _ _ _); (refine j_region ?_)) | refine j_then ?_)
      (refine j_idx (α := RF) (M := [Sl 76 a c fs]) rfl rfl (by repeat (first | exact .refl | apply Pk.cons | constructor)) sees_sl rfl i rfl hi2 rfl (fun b3 o3 ha3 hc3 => ?_))
      refine j_loadsv (M := [Sl 76 a c fs]) [.string fs[i].n, .slice fs[i].a fs[i].b.length fs[i].c, .int .i64 fs[i].s] rfl rfl rfl (by repeat (first | exact .refl | apply Pk.cons | constructor)) (fun w hw q v hq => hc3 q v hq w hw) rfl ?_
      (refine j_lit1 (α := RF) rfl rfl fs[i] rfl (by decide) rfl (fun bh => ?_); refine j_append (α := RF) (ls := cur) (ms := [fs[i]]) rfl rfl rfl (fun _ _ => (by repeat constructor)) (M := [blk bh 76 [.string (fs[i]).n, .slice (fs[i]).a (fs[i]).b.length (fs[i]).c, .int .i64 (fs[i]).s]]) (by repeat ((exact .refl))) (sees_blk1 (fs[i])) rfl rfl (by unfold maxLen; simp only [List.length_singleton]; omega) (by simp only [List.length_singleton]; omega) rfl (fun a2 c2 _ => ?_))
      repeat' (first | (show J _ _ _ (runS _ _ _ (⟨_, _, _, _, _, none⟩ :: _)); first | (show J _ _ _ (runS _ _ _ (⟨_, .move _, _, _, _, _⟩ :: _)); refine j_move rfl rfl ?_) | (show J _ _ _ (runS _ _ _ (⟨_, .binOp _ _ _ _ _, _, _, _, _⟩ :: _)); ((refine j_add rfl rfl (by omega) rfl ?_))) | (show J _ _ _ (runS _ _ _ (⟨_, .assign _, _, _, _, _⟩ :: _)); refine j_assign rfl rfl ?_)) | refine j_nil ?_ | (show J _ _ _ (Code.wp _ _ _); (refine j_region ?_)) | refine j_then ?_ | refine j_inb ?_)
      refine j_round ⟨(i + 1, cur ++ [fs[i]], a2, c2, dn), hi2, ?_, ?_⟩ (by dsimp only; omega) ⟨rfl, rfl, rfl, rfl, rfl, trivial⟩ (by repeat (first | exact .refl | apply Pk.cons | refine .drop ?_ | constructor))
      · dsimp only; rw [List.length_append, List.length_singleton]; omega
      · dsimp only; rw [hin, List.append_assoc]; rfl
    · have : i = fs.length := by omega
      subst this
      rw [List.drop_length] at hin
      have hcl2 : cur.length ≤ fs.length + 1 := hcl1
      exact j_cutend (Y := { q : List RF × Option Addr × Nat × Bool // q.1.length ≤ fs.length + 1 ∧ insG RF.n fs f = q.1 ++ restG q.2.2.2 [] f }) ⟨(cur, a1, c1, dn), hcl1, hin⟩ ⟨rfl, rfl, rfl, rfl, trivial⟩ (by repeat ((exact .refl)))
  obtain ⟨⟨cur, a1, c1, dn⟩, hcl, hin⟩ := q
  dsimp only at hcl hin ⊢
  repeat' (first | (show J _ _ _ (runS _ _ _ (⟨_, _, _, _, _, none⟩ :: _)); first | (show J _ _ _ (runS _ _ _ (⟨_, .move _, _, _, _, _⟩ :: _)); refine j_move rfl rfl ?_) | (show J _ _ _ (runS _ _ _ (⟨_, .load _ _, _, _, _, _⟩ :: _)); ((refine j_loads [_, _, _] rfl rfl rfl (by repeat constructor) ⟨rfl, rfl, rfl, trivial⟩ rfl ?_))) | (show J _ _ _ (runS _ _ _ (⟨_, .fieldAddr _ _ _, _, _, _, _⟩ :: _)); refine j_fieldAddr rfl rfl ?_) | (show J _ _ _ (runS _ _ _ (⟨_, .nilCheck _, _, _, _, _⟩ :: _)); ((refine j_nilCheck rfl rfl ?_))) | (show J _ _ _ (runS _ _ _ (⟨_, .store _ _ _, _, _, _, _⟩ :: _)); ((refine j_set rfl rfl rfl (by rfl) (by repeat constructor) (by repeat constructor) ?_))) | (show J _ _ _ (runS _ _ _ (⟨_, .unOp _ _ _, _, _, _, _⟩ :: _)); ((refine j_not_b rfl rfl ?_)))) | refine j_nil ?_ | (show J _ _ _ (Code.wp _ _ _); first | refine j_seq ?_ | refine j_region ?_ | (show J _ _ _ (Code.wp _ (.cond _ _ _) _); (refine j_bool rfl (fun h => ?_) (fun h => ?_))) | refine j_skip ?_) | refine j_then ?_ | refine j_retn ?_)
  · have hdn : dn = false := by simpa using h
    rw [hdn] at hin
    (refine j_lit1 (α := RF) rfl rfl f rfl (by decide) rfl (fun bh => ?_); refine j_append (α := RF) (ls := cur) (ms := [f]) rfl rfl rfl (fun _ _ => (by repeat constructor)) (M := [blk bh 76 [.string (f).n, .slice (f).a (f).b.length (f).c, .int .i64 (f).s]]) (by repeat ((exact .refl))) (sees_blk1 (f)) rfl rfl (by unfold maxLen; simp only [List.length_singleton]; omega) (by simp only [List.length_singleton]; omega) rfl (fun a2 c2 _ => ?_))
    repeat' (first | (show J _ _ _ (runS _ _ _ (⟨_, _, _, _, _, none⟩ :: _)); first | (show J _ _ _ (runS _ _ _ (⟨_, .move _, _, _, _, _⟩ :: _)); refine j_move rfl rfl ?_) | (show J _ _ _ (runS _ _ _ (⟨_, .fieldAddr _ _ _, _, _, _, _⟩ :: _)); refine j_fieldAddr rfl rfl ?_) | (show J _ _ _ (runS _ _ _ (⟨_, .nilCheck _, _, _, _, _⟩ :: _)); ((refine j_nilCheck rfl rfl ?_))) | (show J _ _ _ (runS _ _ _ (⟨_, .assign _, _, _, _, _⟩ :: _)); refine j_assign rfl rfl ?_) | (show J _ _ _ (runS _ _ _ (⟨_, .store _ _ _, _, _, _, _⟩ :: _)); ((refine j_set rfl rfl rfl (by rfl) (by repeat constructor) (by repeat constructor) ?_)))) | refine j_nil ?_ | (show J _ _ _ (Code.wp _ _ _); (refine j_region ?_)) | refine j_then ?_ | refine j_retn ?_)
    exact j_ret0 (M := [blk d 40 [.slice a2 (cur ++ [f]).length c2, .int .i64 room, .bool gone, .int .i64 good], Sl 76 a2 c2 (cur ++ [f])]) rfl (by repeat (first | exact .refl | apply Pk.cons | refine .drop ?_ | constructor)) ⟨a2, c2, _, rfl, hin.symm, rfl⟩
  · have hdn : dn = true := by simpa using h
    rw [hdn] at hin
    rw [show restG true [] f = [] from rfl, List.append_nil] at hin
    exact j_ret0 (M := [blk d 40 [.slice a1 cur.length c1, .int .i64 room, .bool gone, .int .i64 good], Sl 76 a1 c1 cur]) rfl (by repeat (first | exact .refl | apply Pk.cons | refine .drop ?_ | constructor)) ⟨a1, c1, _, rfl, hin.symm, rfl⟩

end Go.Proofs.Ytjneocpbpnbopaa
