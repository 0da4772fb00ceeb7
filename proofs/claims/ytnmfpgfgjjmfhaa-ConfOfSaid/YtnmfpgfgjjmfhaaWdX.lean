/- Merged: Wd0 Wd1 Wd2 Wd3 Wd4 Wd5 -/
import Derived.Test.YtnmfpgfgjjmfhaaCf5
import Derived.Test.YtnmfpgfgjjmfhaaSe2
import Derived.Laws.StructEq
section
set_option linter.unusedVariables false
set_option linter.unusedSimpArgs false
set_option maxRecDepth 100000
namespace Go.Proofs.Ytnmfpgfgjjmfhaa
open Go
attribute [local irreducible] Exit.then Exit.inBlock Code.wp runS bodyPost postF J runT cutQ cutR Tr Sat blk Sl Old Star Ex Pu
structure V3 where
  a : Int
  b : Int
  c : Int
  deriving DecidableEq
instance : Enc V3 := ⟨fun v => [.int .i64 v.a, .int .i64 v.b, .int .i64 v.c], 3, fun _ => rfl, by decide, fun x u hu => by simp at hu; rcases hu with rfl | rfl | rfl <;> rfl⟩
structure Cm where
  op : Int
  nm : ByteArray
  oo : ByteArray
  v : V3
  n : Int
instance : Enc Cm := ⟨fun c => [.int .i64 c.op, .string c.nm, .string c.oo, .int .i64 c.v.a, .int .i64 c.v.b, .int .i64 c.v.c, .int .i64 c.n], 7, fun _ => rfl, by decide, fun x u hu => by simp at hu; rcases hu with rfl | rfl | rfl | rfl | rfl | rfl | rfl <;> rfl⟩
theorem vec_eq (q : Nat) (x y : V3) (w : World) : ∃ b : Bool, (Op.equalIn (q + 2) 42 (.agg (Enc.enc x).toArray) (.agg (Enc.enc y).toArray)).run Try.prog w = .ok b w ∧ (b = true ↔ x = y) := by
  obtain ⟨i, hi⟩ := info_of_underlying (TyC.und (P := Try.prog) (t := 2))
  refine ⟨decide (x.a = y.a) && (decide (x.b = y.b) && decide (x.c = y.c)), ?_, ?_⟩
  · rw [run_equalIn_array w (q + 1) _ _ (TyC.und (P := Try.prog) (t := 42)) hi, show Try.prog.cellsOf 2 = 1 from by kernel_rfl, show List.range 3 = [0, 1, 2] from rfl]
    have i1 : ∀ a b : Int, (Op.equalIn (q + 1) 2 (.int .i64 a) (.int .i64 b)).run Try.prog w = .ok (a == b) w := fun a b => run_equalIn_int w q 2 .i64 .i64 a b TyC.und
    have hp1 : ∀ (xs : Array Value) (o : Nat) (v : Value), xs[o]? = some v → (part 2 xs o).run Try.prog w = .ok v w := fun xs o v hv => run_part1 rfl hv w
    simp only [Op.eqItems, Sem.run_bind, Sem.run_ite, Nat.zero_mul, Nat.one_mul, Nat.mul_one, hp1 (Enc.enc x).toArray 0 (.int .i64 x.a) rfl, hp1 (Enc.enc y).toArray 0 (.int .i64 y.a) rfl, hp1 (Enc.enc x).toArray 1 (.int .i64 x.b) rfl, hp1 (Enc.enc y).toArray 1 (.int .i64 y.b) rfl, hp1 (Enc.enc x).toArray 2 (.int .i64 x.c) rfl, hp1 (Enc.enc y).toArray 2 (.int .i64 y.c) rfl, Result.andThen_ok, i1, Sem.run_pure]
    by_cases h1 : x.a = y.a <;> by_cases h2 : x.b = y.b <;> by_cases h3 : x.c = y.c <;> simp [h1, h2, h3]
  · cases x; cases y
    simp only [Bool.and_eq_true, decide_eq_true_eq, V3.mk.injEq]
instance eqV3 : EqE Try.prog 42 V3 := ⟨fun q x y w => vec_eq (q + 8) x y w, by kernel_rfl⟩
theorem cmd_fields : Try.prog.fieldsOf 44 = #[⟨"Op", 3, 0, false, "", "", 0⟩, ⟨"Name", 9, 1, false, "", "", 8⟩, ⟨"Of", 9, 2, false, "", "", 24⟩, ⟨"V", 42, 3, false, "", "", 40⟩, ⟨"N", 2, 6, false, "", "", 64⟩] := by kernel_rfl
theorem part_vec (x : Cm) (w : World) : (part 42 (Enc.enc x).toArray 3).run Try.prog w = .ok (.agg (Enc.enc x.v).toArray) w := by
  have hs : (Try.prog.info? 42).map (·.size) = some 3 := TyC.size (P := Try.prog) (t := 42)
  cases hi : Try.prog.info? 42 with
  | none => simp [hi] at hs
  | some inf =>
    simp [hi] at hs
    simp [part, run_isAgg (TyC.und (P := Try.prog) (t := 42)), aggT, sizeOf, typeInfo, hi, hs]
    rfl
instance : EqE Try.prog 44 Cm := ⟨fun q x y w => by
  obtain ⟨bv, hbv, hbv2⟩ := vec_eq (q + 7) x.v y.v w
  refine ⟨decide (x.op = y.op) && ((x.nm.toList == y.nm.toList) && ((x.oo.toList == y.oo.toList) && (bv && decide (x.n = y.n)))), ?_, ?_⟩
  · rw [run_equalIn_struct w (q + 9) 44 _ _ (by kernel_rfl) (by kernel_rfl), cmd_fields]
    have i0 : ∀ a b : Int, (Op.equalIn (q + 9) 3 (.int .i64 a) (.int .i64 b)).run Try.prog w = .ok (a == b) w := fun a b => run_equalIn_int w (q + 8) 3 .i64 .i64 a b TyC.und
    have i1 : ∀ a b : Int, (Op.equalIn (q + 9) 2 (.int .i64 a) (.int .i64 b)).run Try.prog w = .ok (a == b) w := fun a b => run_equalIn_int w (q + 8) 2 .i64 .i64 a b TyC.und
    have i2 : ∀ a b : ByteArray, (Op.equalIn (q + 9) 9 (.string a) (.string b)).run Try.prog w = .ok (a.toList == b.toList) w := fun a b => run_equalIn_string w (q + 8) 9 a b TyC.und
    have hp0 : ∀ (xs : Array Value) (o : Nat) (v : Value), xs[o]? = some v → (part 3 xs o).run Try.prog w = .ok v w := fun xs o v hv => run_part1 rfl hv w
    have hp1 : ∀ (xs : Array Value) (o : Nat) (v : Value), xs[o]? = some v → (part 2 xs o).run Try.prog w = .ok v w := fun xs o v hv => run_part1 rfl hv w
    have hp2 : ∀ (xs : Array Value) (o : Nat) (v : Value), xs[o]? = some v → (part 9 xs o).run Try.prog w = .ok v w := fun xs o v hv => run_part1 rfl hv w
    have n1 : ("Op" : String) ≠ "_" := by decide
    have n2 : ("Name" : String) ≠ "_" := by decide
    have n3 : ("Of" : String) ≠ "_" := by decide
    have n4 : ("V" : String) ≠ "_" := by decide
    have n5 : ("N" : String) ≠ "_" := by decide
    simp only [Op.eqFields, n1, n2, n3, n4, n5, ne_eq, not_false_eq_true, if_true, Sem.run_bind, Sem.run_ite, hp0 (Enc.enc x).toArray 0 (.int .i64 x.op) rfl, hp0 (Enc.enc y).toArray 0 (.int .i64 y.op) rfl, hp2 (Enc.enc x).toArray 1 (.string x.nm) rfl, hp2 (Enc.enc y).toArray 1 (.string y.nm) rfl, hp2 (Enc.enc x).toArray 2 (.string x.oo) rfl, hp2 (Enc.enc y).toArray 2 (.string y.oo) rfl, part_vec x w, part_vec y w, hp1 (Enc.enc x).toArray 6 (.int .i64 x.n) rfl, hp1 (Enc.enc y).toArray 6 (.int .i64 y.n) rfl, Result.andThen_ok, i0, i1, i2, hbv, Sem.run_pure]
    by_cases h1 : x.op = y.op <;> by_cases h2 : x.nm.toList = y.nm.toList <;> by_cases h3 : x.oo.toList = y.oo.toList <;> by_cases h4 : x.n = y.n <;> cases bv <;> simp [h1, h2, h3, h4]
  · cases x; cases y
    simp only [Bool.and_eq_true, decide_eq_true_eq, beq_iff_eq, Cm.mk.injEq, hbv2]
    exact ⟨fun h => ⟨h.1, byteArray_ext h.2.1, byteArray_ext h.2.2.1, h.2.2.2⟩, fun h => ⟨h.1, by rw [h.2.1], by rw [h.2.2.1], h.2.2.2⟩⟩, by kernel_rfl⟩
end Go.Proofs.Ytnmfpgfgjjmfhaa
end

section
set_option linter.unusedVariables false
set_option linter.unusedSimpArgs false
set_option maxRecDepth 100000
namespace Go.Proofs.Ytnmfpgfgjjmfhaa
open Go
attribute [local irreducible] Exit.then Exit.inBlock Code.wp runS bodyPost postF J runT cutQ cutR Tr Sat blk Sl Old Star Ex Pu
def anyB (Lp : List HP) : Value → List HP → Prop := fun v M => (∃ b, v = .bool b) ∧ M = Lp
theorem wbarred_spec (c : Int) (Lp : List HP) : Tr Try.prog 99 [.int .i32 c] Lp (anyB Lp) := by
  refine tr_enter Try.func99 rfl Try.ntmps99 rfl (fun F => ?_)
  repeat' (first | (show J _ _ _ (runS _ _ _ _ (⟨_, _, _, _, _, none⟩ :: _)); first | (show J _ _ _ (runS _ _ _ _ (⟨_, .move _, _, _, _, _⟩ :: _)); refine j_move rfl rfl ?_) | (show J _ _ _ (runS _ _ _ _ (⟨_, .binOp _ _ _ _ _, _, _, _, _⟩ :: _)); ((refine j_bin rfl rfl rfl rfl ?_))) | (show J _ _ _ (runS _ _ _ _ (⟨_, .assign _, _, _, _, _⟩ :: _)); refine j_assign rfl rfl ?_) | (show J _ _ _ (runS _ _ _ _ (⟨_, .pick _ _ _, _, _, _, _⟩ :: _)); (first | refine j_pick_t rfl rfl rfl ?_ | refine j_pick_f rfl rfl rfl ?_))) | refine j_nil ?_ | (show J _ _ _ (runS _ _ _ _ (⟨_, _, _, _, _, some _⟩ :: _)); first | refine j_gno_u rfl rfl rfl rfl ?_ | refine j_gun_u rfl rfl rfl ?_ | refine j_gyes rfl rfl rfl ?_ | refine j_gsplit_dec rfl rfl (fun h => ?_) (fun h => ?_)) | (show J _ _ _ (Code.wp _ _ _); first | refine j_seq ?_ | refine j_region ?_ | refine j_ret ?_) | refine j_then ?_)
  all_goals exact j_ret1 (M := Lp) rfl rfl .refl ⟨⟨_, rfl⟩, rfl⟩
theorem wname_spec (s : ByteArray) (Lp : List HP) : Tr Try.prog 79 [.string s] Lp (anyB Lp) := by
  refine tr_enter Try.func79 rfl Try.ntmps79 rfl (fun F => ?_)
  repeat' (first | (show J _ _ _ (runS _ _ _ _ (⟨_, _, _, _, _, none⟩ :: _)); first | (show J _ _ _ (runS _ _ _ _ (⟨_, .move _, _, _, _, _⟩ :: _)); refine j_move rfl rfl ?_) | (show J _ _ _ (runS _ _ _ _ (⟨_, .assign _, _, _, _, _⟩ :: _)); refine j_assign rfl rfl ?_)) | refine j_nil ?_ | (show J _ _ _ (Code.wp _ _ _); first | refine j_seq ?_ | refine j_region ?_) | refine j_then ?_)
  refine j_rangeS rfl rfl (fun it => ?_)
  repeat' (first | refine j_nil ?_ | (show J _ _ _ (Code.wp _ _ _); (refine j_block ?_)) | refine j_then ?_)
  refine j_loop (X := { q : Nat × Nat // q.1 ≤ 24 }) (fun q => [(3, .int .i64 (q.1.1 : Nat)), (7, .pointer (some ⟨it, 0, none⟩))]) (fun q => pts it (.stringIter s q.1.2) :: (Lp ++ F)) (fun q => s.size - q.1.2) ⟨(0, 0), by decide⟩ ⟨rfl, rfl, trivial⟩ .refl (fun q => ?_)
  obtain ⟨⟨n, p⟩, hn⟩ := q
  dsimp only at hn ⊢
  repeat' ((show J _ _ _ (Code.wp _ _ _); first | refine j_seq ?_ | refine j_region ?_))
  refine j_nextS rfl (fun q => (by repeat constructor)) rfl (fun h0 => ?_) (fun hlt hw => ?_)
  · repeat' (first | (show J _ _ _ (runS _ _ _ _ (⟨_, _, _, _, _, none⟩ :: _)); first | (show J _ _ _ (runS _ _ _ _ (⟨_, .move _, _, _, _, _⟩ :: _)); refine j_move rfl rfl ?_) | (show J _ _ _ (runS _ _ _ _ (⟨_, .binOp _ _ _ _ _, _, _, _, _⟩ :: _)); ((refine j_bin rfl rfl rfl rfl ?_))) | (show J _ _ _ (runS _ _ _ _ (⟨_, .assign _, _, _, _, _⟩ :: _)); refine j_assign rfl rfl ?_) | (show J _ _ _ (runS _ _ _ _ (⟨_, .extract _ _, _, _, _, _⟩ :: _)); refine j_extract rfl rfl rfl ?_)) | refine j_nil ?_ | (show J _ _ _ (Code.wp _ _ _); first | refine j_seq ?_ | refine j_region ?_ | (show J _ _ _ (Code.wp _ (.cond _ _ _) _); (refine j_false rfl ?_)) | refine j_ret ?_ | refine j_exit ?_) | refine j_then ?_ | refine j_then_exit ?_ | refine j_inb_here ?_)
    exact j_ret1 (M := Lp) rfl rfl (by repeat (first | exact .refl | refine .drop ?_)) ⟨⟨_, rfl⟩, rfl⟩
  · repeat' (first | (show J _ _ _ (runS _ _ _ _ (⟨_, _, _, _, _, none⟩ :: _)); first | (show J _ _ _ (runS _ _ _ _ (⟨_, .move _, _, _, _, _⟩ :: _)); refine j_move rfl rfl ?_) | (show J _ _ _ (runS _ _ _ _ (⟨_, .binOp _ _ _ _ _, _, _, _, _⟩ :: _)); (first | refine j_add rfl rfl (by omega) rfl ?_ | refine j_bin rfl rfl rfl rfl ?_)) | (show J _ _ _ (runS _ _ _ _ (⟨_, .assign _, _, _, _, _⟩ :: _)); refine j_assign rfl rfl ?_) | (show J _ _ _ (runS _ _ _ _ (⟨_, .pick _ _ _, _, _, _, _⟩ :: _)); ((refine j_pick_t rfl rfl rfl ?_))) | (show J _ _ _ (runS _ _ _ _ (⟨_, .extract _ _, _, _, _, _⟩ :: _)); refine j_extract rfl rfl rfl ?_)) | refine j_nil ?_ | (show J _ _ _ (runS _ _ _ _ (⟨_, _, _, _, _, some _⟩ :: _)); first | refine j_gno_u rfl rfl rfl rfl ?_ | refine j_gun_u rfl rfl rfl ?_ | refine j_gyes rfl rfl rfl ?_ | refine j_gsplit_dec rfl rfl (fun h => ?_) (fun h => ?_)) | (show J _ _ _ (Code.wp _ _ _); first | refine j_seq ?_ | refine j_region ?_ | refine j_block ?_ | (show J _ _ _ (Code.wp _ (.cond _ _ _) _); (refine j_true rfl ?_)) | refine j_ret ?_ | refine j_skip ?_) | refine j_then ?_ | refine j_then_ret ?_ | refine j_inb_ret ?_)
    · exact j_ret1 (M := Lp) rfl rfl (by repeat (first | exact .refl | refine .drop ?_)) ⟨⟨_, rfl⟩, rfl⟩
    (refine j_call rfl rfl (wbarred_spec _ []) (.refl) rfl (fun v M N h hN => ?_); obtain ⟨⟨b, rfl⟩, rfl⟩ := h; (try simp only [List.nil_append, List.cons_append, List.append_assoc] at hN); subst hN)
    repeat' (first | (show J _ _ _ (runS _ _ _ _ (⟨_, _, _, _, _, none⟩ :: _)); first | (show J _ _ _ (runS _ _ _ _ (⟨_, .move _, _, _, _, _⟩ :: _)); refine j_move rfl rfl ?_) | (show J _ _ _ (runS _ _ _ _ (⟨_, .binOp _ _ _ _ _, _, _, _, _⟩ :: _)); ((refine j_bin rfl rfl rfl rfl ?_))) | (show J _ _ _ (runS _ _ _ _ (⟨_, .assign _, _, _, _, _⟩ :: _)); refine j_assign rfl rfl ?_) | (show J _ _ _ (runS _ _ _ _ (⟨_, .pick _ _ _, _, _, _, _⟩ :: _)); (first | refine j_pick_t rfl rfl rfl ?_ | refine j_pick_f rfl rfl rfl ?_))) | refine j_nil ?_ | (show J _ _ _ (runS _ _ _ _ (⟨_, _, _, _, _, some _⟩ :: _)); first | refine j_gno_u rfl rfl rfl rfl ?_ | refine j_gun_u rfl rfl rfl ?_ | refine j_gyes rfl rfl rfl ?_ | refine j_gsplit_dec rfl rfl (fun h => ?_) (fun h => ?_) | refine j_gsplit rfl rfl (fun h => ?_) (fun h => ?_)) | (show J _ _ _ (Code.wp _ _ _); first | refine j_seq ?_ | refine j_region ?_ | (show J _ _ _ (Code.wp _ (.cond _ _ _) _); first | refine j_true rfl ?_ | refine j_false rfl ?_ | refine j_dec rfl (fun h => ?_) (fun h => ?_)) | refine j_ret ?_ | refine j_skip ?_) | refine j_then ?_ | refine j_then_ret ?_ | refine j_inb ?_ | refine j_inb_ret ?_)
    all_goals first
      | exact j_ret1 (M := Lp) rfl rfl (by repeat (first | exact .refl | refine .drop ?_)) ⟨⟨_, rfl⟩, rfl⟩
      | exact j_round ⟨(n + 1, p + (Utf8.decode s p).2), by dsimp only; omega⟩ (by dsimp only; omega) ⟨rfl, rfl, trivial⟩ .refl
theorem wfits_spec (a0 a1 a2 b0 b1 b2 : Int) (Lp : List HP) : Tr Try.prog 98 [.agg #[.int .i64 a0, .int .i64 a1, .int .i64 a2], .agg #[.int .i64 b0, .int .i64 b1, .int .i64 b2]] Lp (anyB Lp) := by
  refine tr_enter Try.func98 rfl Try.ntmps98 rfl (fun F => ?_)
  repeat' (first | (show J _ _ _ (runS _ _ _ _ (⟨_, _, _, _, _, none⟩ :: _)); first | (show J _ _ _ (runS _ _ _ _ (⟨_, .move _, _, _, _, _⟩ :: _)); refine j_move rfl rfl ?_) | (show J _ _ _ (runS _ _ _ _ (⟨_, .assign _, _, _, _, _⟩ :: _)); refine j_assign rfl rfl ?_) | (show J _ _ _ (runS _ _ _ _ (⟨_, .box _ _, _, _, _, _⟩ :: _)); refine j_box rfl rfl (fun b => ?_))) | refine j_nil ?_ | (show J _ _ _ (Code.wp _ _ _); first | refine j_seq ?_ | refine j_region ?_ | refine j_block ?_) | refine j_then ?_)
  rename_i ba
  refine j_loop (X := { i : Nat // i ≤ 3 }) (fun i => [(2, .pointer (some ⟨ba, 0, none⟩)), (3, .pointer (some ⟨b, 0, none⟩)), (6, .int .i64 (i.1 : Nat))]) (fun i => blk b 42 [.int .i64 b0, .int .i64 b1, .int .i64 b2] :: blk ba 42 [.int .i64 a0, .int .i64 a1, .int .i64 a2] :: (Lp ++ F)) (fun i => 3 - i.1) ⟨0, by decide⟩ ⟨rfl, rfl, rfl, trivial⟩ .refl (fun i => ?_)
  obtain ⟨i, hi⟩ := i
  dsimp only
  repeat' (first | (show J _ _ _ (runS _ _ _ _ (⟨_, _, _, _, _, none⟩ :: _)); first | (show J _ _ _ (runS _ _ _ _ (⟨_, .move _, _, _, _, _⟩ :: _)); refine j_move rfl rfl ?_) | (show J _ _ _ (runS _ _ _ _ (⟨_, .binOp _ _ _ _ _, _, _, _, _⟩ :: _)); ((refine j_bin rfl rfl rfl rfl ?_))) | (show J _ _ _ (runS _ _ _ _ (⟨_, .assign _, _, _, _, _⟩ :: _)); refine j_assign rfl rfl ?_)) | refine j_nil ?_ | (show J _ _ _ (Code.wp _ _ _); first | refine j_seq ?_ | refine j_region ?_ | refine j_block ?_ | (show J _ _ _ (Code.wp _ (.cond _ _ _) _); (refine j_dec rfl (fun h => ?_) (fun h => ?_))) | refine j_ret ?_ | refine j_skip ?_ | refine j_exit ?_ | refine j_draw (by decide +kernel) ?_) | refine j_then ?_ | refine j_then_exit ?_ | refine j_inb_here ?_)
  · have hi3 : i < 3 := by omega
    obtain rfl | rfl | rfl : i = 0 ∨ i = 1 ∨ i = 2 := by omega
    · refine j_indexArr rfl rfl 0 rfl (by decide) rfl ?_
      repeat' ((show J _ _ _ (runS _ _ _ _ (⟨_, _, _, _, _, none⟩ :: _)); first | (show J _ _ _ (runS _ _ _ _ (⟨_, .move _, _, _, _, _⟩ :: _)); refine j_move rfl rfl ?_) | (show J _ _ _ (runS _ _ _ _ (⟨_, .load _ _, _, _, _, _⟩ :: _)); ((refine j_load rfl rfl (by repeat constructor) rfl rfl ?_)))))
      refine j_indexArr rfl rfl 0 rfl (by decide) rfl ?_
      repeat' (first | (show J _ _ _ (runS _ _ _ _ (⟨_, _, _, _, _, none⟩ :: _)); first | (show J _ _ _ (runS _ _ _ _ (⟨_, .move _, _, _, _, _⟩ :: _)); refine j_move rfl rfl ?_) | (show J _ _ _ (runS _ _ _ _ (⟨_, .load _ _, _, _, _, _⟩ :: _)); ((refine j_load rfl rfl (by repeat constructor) rfl rfl ?_))) | (show J _ _ _ (runS _ _ _ _ (⟨_, .binOp _ _ _ _ _, _, _, _, _⟩ :: _)); (first | refine j_add rfl rfl (by omega) rfl ?_ | refine j_bin rfl rfl rfl rfl ?_)) | (show J _ _ _ (runS _ _ _ _ (⟨_, .assign _, _, _, _, _⟩ :: _)); refine j_assign rfl rfl ?_)) | refine j_nil ?_ | (show J _ _ _ (Code.wp _ _ _); first | refine j_seq ?_ | refine j_region ?_ | (show J _ _ _ (Code.wp _ (.cond _ _ _) _); (refine j_dec rfl (fun h => ?_) (fun h => ?_))) | refine j_ret ?_ | refine j_skip ?_) | refine j_then ?_ | refine j_then_ret ?_ | refine j_inb ?_ | refine j_inb_ret ?_)
      · exact j_ret1 (M := Lp) rfl rfl (by repeat (first | exact .refl | refine .drop ?_)) ⟨⟨_, rfl⟩, rfl⟩
      · exact j_round ⟨1, by decide⟩ (by dsimp only; omega) ⟨rfl, rfl, rfl, trivial⟩ .refl
    · refine j_indexArr rfl rfl 1 rfl (by decide) rfl ?_
      repeat' ((show J _ _ _ (runS _ _ _ _ (⟨_, _, _, _, _, none⟩ :: _)); first | (show J _ _ _ (runS _ _ _ _ (⟨_, .move _, _, _, _, _⟩ :: _)); refine j_move rfl rfl ?_) | (show J _ _ _ (runS _ _ _ _ (⟨_, .load _ _, _, _, _, _⟩ :: _)); ((refine j_load rfl rfl (by repeat constructor) rfl rfl ?_)))))
      refine j_indexArr rfl rfl 1 rfl (by decide) rfl ?_
      repeat' (first | (show J _ _ _ (runS _ _ _ _ (⟨_, _, _, _, _, none⟩ :: _)); first | (show J _ _ _ (runS _ _ _ _ (⟨_, .move _, _, _, _, _⟩ :: _)); refine j_move rfl rfl ?_) | (show J _ _ _ (runS _ _ _ _ (⟨_, .load _ _, _, _, _, _⟩ :: _)); ((refine j_load rfl rfl (by repeat constructor) rfl rfl ?_))) | (show J _ _ _ (runS _ _ _ _ (⟨_, .binOp _ _ _ _ _, _, _, _, _⟩ :: _)); (first | refine j_add rfl rfl (by omega) rfl ?_ | refine j_bin rfl rfl rfl rfl ?_)) | (show J _ _ _ (runS _ _ _ _ (⟨_, .assign _, _, _, _, _⟩ :: _)); refine j_assign rfl rfl ?_)) | refine j_nil ?_ | (show J _ _ _ (Code.wp _ _ _); first | refine j_seq ?_ | refine j_region ?_ | (show J _ _ _ (Code.wp _ (.cond _ _ _) _); (refine j_dec rfl (fun h => ?_) (fun h => ?_))) | refine j_ret ?_ | refine j_skip ?_) | refine j_then ?_ | refine j_then_ret ?_ | refine j_inb ?_ | refine j_inb_ret ?_)
      · exact j_ret1 (M := Lp) rfl rfl (by repeat (first | exact .refl | refine .drop ?_)) ⟨⟨_, rfl⟩, rfl⟩
      · exact j_round ⟨2, by decide⟩ (by dsimp only; omega) ⟨rfl, rfl, rfl, trivial⟩ .refl
    · refine j_indexArr rfl rfl 2 rfl (by decide) rfl ?_
      repeat' ((show J _ _ _ (runS _ _ _ _ (⟨_, _, _, _, _, none⟩ :: _)); first | (show J _ _ _ (runS _ _ _ _ (⟨_, .move _, _, _, _, _⟩ :: _)); refine j_move rfl rfl ?_) | (show J _ _ _ (runS _ _ _ _ (⟨_, .load _ _, _, _, _, _⟩ :: _)); ((refine j_load rfl rfl (by repeat constructor) rfl rfl ?_)))))
      refine j_indexArr rfl rfl 2 rfl (by decide) rfl ?_
      repeat' (first | (show J _ _ _ (runS _ _ _ _ (⟨_, _, _, _, _, none⟩ :: _)); first | (show J _ _ _ (runS _ _ _ _ (⟨_, .move _, _, _, _, _⟩ :: _)); refine j_move rfl rfl ?_) | (show J _ _ _ (runS _ _ _ _ (⟨_, .load _ _, _, _, _, _⟩ :: _)); ((refine j_load rfl rfl (by repeat constructor) rfl rfl ?_))) | (show J _ _ _ (runS _ _ _ _ (⟨_, .binOp _ _ _ _ _, _, _, _, _⟩ :: _)); (first | refine j_add rfl rfl (by omega) rfl ?_ | refine j_bin rfl rfl rfl rfl ?_)) | (show J _ _ _ (runS _ _ _ _ (⟨_, .assign _, _, _, _, _⟩ :: _)); refine j_assign rfl rfl ?_)) | refine j_nil ?_ | (show J _ _ _ (Code.wp _ _ _); first | refine j_seq ?_ | refine j_region ?_ | (show J _ _ _ (Code.wp _ (.cond _ _ _) _); (refine j_dec rfl (fun h => ?_) (fun h => ?_))) | refine j_ret ?_ | refine j_skip ?_) | refine j_then ?_ | refine j_then_ret ?_ | refine j_inb ?_ | refine j_inb_ret ?_)
      · exact j_ret1 (M := Lp) rfl rfl (by repeat (first | exact .refl | refine .drop ?_)) ⟨⟨_, rfl⟩, rfl⟩
      · exact j_round ⟨3, by decide⟩ (by dsimp only; omega) ⟨rfl, rfl, rfl, trivial⟩ .refl
  · exact j_ret1 (M := Lp) rfl rfl (by repeat (first | exact .refl | refine .drop ?_)) ⟨⟨_, rfl⟩, rfl⟩
theorem wvec_spec (a0 a1 a2 : Int) (Lp : List HP) : Tr Try.prog 78 [.agg #[.int .i64 a0, .int .i64 a1, .int .i64 a2]] Lp (anyB Lp) := by
  refine tr_enter Try.func78 rfl Try.ntmps78 rfl (fun F => ?_)
  repeat' (first | (show J _ _ _ (runS _ _ _ _ (⟨_, _, _, _, _, none⟩ :: _)); first | (show J _ _ _ (runS _ _ _ _ (⟨_, .assign _, _, _, _, _⟩ :: _)); refine j_assign rfl rfl ?_) | (show J _ _ _ (runS _ _ _ _ (⟨_, .box _ _, _, _, _, _⟩ :: _)); refine j_box rfl rfl (fun b => ?_))) | refine j_nil ?_ | (show J _ _ _ (Code.wp _ _ _); first | refine j_seq ?_ | refine j_region ?_) | refine j_then ?_)
  refine j_buildA0 rfl ?_
  repeat' ((show J _ _ _ (runS _ _ _ _ (⟨_, _, _, _, _, none⟩ :: _)); (show J _ _ _ (runS _ _ _ _ (⟨_, .load _ _, _, _, _, _⟩ :: _)); ((refine j_loads [_, _, _] rfl rfl rfl (by repeat constructor) ⟨rfl, rfl, rfl, trivial⟩ rfl ?_)))))
  (refine j_call rfl rfl (wfits_spec _ _ _ a0 a1 a2 []) (.refl) rfl (fun v M N h hN => ?_); obtain ⟨⟨b1, rfl⟩, rfl⟩ := h; (try simp only [List.nil_append, List.cons_append, List.append_assoc] at hN); subst hN)
  repeat' (first | (show J _ _ _ (runS _ _ _ _ (⟨_, _, _, _, _, none⟩ :: _)); (show J _ _ _ (runS _ _ _ _ (⟨_, .assign _, _, _, _, _⟩ :: _)); refine j_assign rfl rfl ?_)) | refine j_nil ?_ | (show J _ _ _ (Code.wp _ _ _); (refine j_ret ?_)) | refine j_then ?_)
  exact j_ret1 (M := Lp) rfl rfl (by repeat (first | exact .refl | refine .drop ?_)) ⟨⟨_, rfl⟩, rfl⟩
theorem wcmd_spec (op : Int) (nm oo : ByteArray) (v0 v1 v2 cn : Int) (Lp : List HP) : Tr Try.prog 44 [.agg #[.int .i64 op, .string nm, .string oo, .int .i64 v0, .int .i64 v1, .int .i64 v2, .int .i64 cn]] Lp (fun v M => (∃ b, v = .bool b ∧ (b = true → op ≠ 0)) ∧ M = Lp) := by
  refine tr_enter Try.func44 rfl Try.ntmps44 rfl (fun F => ?_)
  repeat' (first | (show J _ _ _ (runS _ _ _ _ (⟨_, _, _, _, _, none⟩ :: _)); first | (show J _ _ _ (runS _ _ _ _ (⟨_, .load _ _, _, _, _, _⟩ :: _)); (first | refine j_load rfl rfl (by repeat constructor) rfl rfl ?_ | refine j_loads [_, _, _] rfl rfl rfl (by repeat constructor) ⟨rfl, rfl, rfl, trivial⟩ rfl ?_)) | (show J _ _ _ (runS _ _ _ _ (⟨_, .fieldAddr _ _ _, _, _, _, _⟩ :: _)); refine j_fieldAddr rfl rfl ?_) | (show J _ _ _ (runS _ _ _ _ (⟨_, .binOp _ _ _ _ _, _, _, _, _⟩ :: _)); ((refine j_eqstr rfl rfl rfl ?_))) | (show J _ _ _ (runS _ _ _ _ (⟨_, .assign _, _, _, _, _⟩ :: _)); refine j_assign rfl rfl ?_) | (show J _ _ _ (runS _ _ _ _ (⟨_, .box _ _, _, _, _, _⟩ :: _)); refine j_box rfl rfl (fun b => ?_))) | refine j_nil ?_ | (show J _ _ _ (Code.wp _ _ _); first | refine j_seq ?_ | refine j_region ?_ | refine j_draw (by decide +kernel) ?_) | refine j_then ?_)
  refine j_buildA0 rfl ?_
  repeat' (fail)
  refine j_eqS (α := V3) (p := ⟨v0, v1, v2⟩) (q := ⟨0, 0, 0⟩) rfl rfl rfl (fun b0 hb0 => ?_)
  repeat' (first | (show J _ _ _ (runS _ _ _ _ (⟨_, _, _, _, _, none⟩ :: _)); first | (show J _ _ _ (runS _ _ _ _ (⟨_, .load _ _, _, _, _, _⟩ :: _)); ((refine j_load rfl rfl (by repeat constructor) rfl rfl ?_))) | (show J _ _ _ (runS _ _ _ _ (⟨_, .fieldAddr _ _ _, _, _, _, _⟩ :: _)); refine j_fieldAddr rfl rfl ?_) | (show J _ _ _ (runS _ _ _ _ (⟨_, .binOp _ _ _ _ _, _, _, _, _⟩ :: _)); ((refine j_bin rfl rfl rfl rfl ?_))) | (show J _ _ _ (runS _ _ _ _ (⟨_, .assign _, _, _, _, _⟩ :: _)); refine j_assign rfl rfl ?_)) | refine j_nil ?_ | refine j_then ?_)
  refine j_seq ?_
  refine j_cutR (X := { q : Bool × Bool × Bool // op ≠ 0 }) (fun q => [(1, .pointer (some ⟨b, 0, none⟩)), (3, .bool q.1.1), (4, .bool q.1.2.1), (5, .bool q.1.2.2)]) (fun _ => blk b 44 [.int .i64 op, .string nm, .string oo, .int .i64 v0, .int .i64 v1, .int .i64 v2, .int .i64 cn] :: (Lp ++ F)) ?_ (fun q => ?_)
  · repeat' (first | (show J _ _ _ (runS _ _ _ _ (⟨_, _, _, _, _, none⟩ :: _)); first | (show J _ _ _ (runS _ _ _ _ (⟨_, .move _, _, _, _, _⟩ :: _)); refine j_move rfl rfl ?_) | (show J _ _ _ (runS _ _ _ _ (⟨_, .load _ _, _, _, _, _⟩ :: _)); (first | refine j_load rfl rfl (by repeat constructor) rfl rfl ?_ | refine j_loads [_, _, _] rfl rfl rfl (by repeat constructor) ⟨rfl, rfl, rfl, trivial⟩ rfl ?_)) | (show J _ _ _ (runS _ _ _ _ (⟨_, .fieldAddr _ _ _, _, _, _, _⟩ :: _)); refine j_fieldAddr rfl rfl ?_) | (show J _ _ _ (runS _ _ _ _ (⟨_, .binOp _ _ _ _ _, _, _, _, _⟩ :: _)); ((refine j_bin rfl rfl rfl rfl ?_))) | (show J _ _ _ (runS _ _ _ _ (⟨_, .assign _, _, _, _, _⟩ :: _)); refine j_assign rfl rfl ?_) | (show J _ _ _ (runS _ _ _ _ (⟨_, .pick _ _ _, _, _, _, _⟩ :: _)); (first | refine j_pick_t rfl rfl rfl ?_ | refine j_pick_f rfl rfl rfl ?_))) | refine j_nil ?_ | (show J _ _ _ (runS _ _ _ _ (⟨_, _, _, _, _, some _⟩ :: _)); first | refine j_gno_u rfl rfl rfl rfl ?_ | refine j_gyes rfl rfl rfl ?_ | refine j_gsplit_dec rfl rfl (fun h => ?_) (fun h => ?_)) | (show J _ _ _ (Code.wp _ _ _); first | refine j_seq ?_ | refine j_region ?_ | refine j_block ?_ | (show J _ _ _ (Code.wp _ (.cond _ _ _) _); (refine j_dec rfl (fun h => ?_) (fun h => ?_))) | refine j_ret ?_ | refine j_skip ?_) | (show J _ _ _ (runT _ _ _ _ _); first | refine j_take rfl ?_ | refine j_fork rfl ?_ ?_ | exact j_stop | refine j_done ?_) | refine j_cutRret ?_ | refine j_then ?_ | refine j_then_ret ?_ | refine j_inb ?_ | refine j_inb_ret ?_ | (refine j_call rfl rfl (wname_spec _ []) (.refl) rfl (fun v M N h hN => ?_); obtain ⟨⟨b1, rfl⟩, rfl⟩ := h; (try simp only [List.nil_append, List.cons_append, List.append_assoc] at hN); subst hN) | (refine j_call rfl rfl (wvec_spec _ _ _ []) (.refl) rfl (fun v M N h hN => ?_); obtain ⟨⟨b2, rfl⟩, rfl⟩ := h; (try simp only [List.nil_append, List.cons_append, List.append_assoc] at hN); subst hN) | refine j_plan (.take 0 (.take 1 (.take 3 (.fork 2 (.take 4 (.take 5 (.take 6 (.take 7 (.done))))) (.fork 4 (.take 2 (.take 5 (.take 6 (.take 7 (.done))))) (.stop)))))) (by decide +kernel) ?_ | refine j_plan (.take 0 (.take 1 (.take 3 (.fork 2 (.take 4 (.take 5 (.take 6 (.take 7 (.take 8 (.take 9 (.take 10 (.take 11 (.take 12 (.done)))))))))) (.fork 4 (.fork 2 (.take 5 (.take 6 (.take 7 (.take 8 (.take 9 (.take 10 (.take 11 (.take 12 (.done))))))))) (.fork 5 (.take 2 (.take 6 (.take 7 (.take 8 (.take 9 (.take 10 (.take 11 (.take 12 (.done))))))))) (.stop))) (.stop)))))) (by decide +kernel) ?_)
    all_goals (try first
      | exact j_ret1 (M := Lp) rfl rfl (by repeat (first | exact .refl | refine .drop ?_)) ⟨⟨_, rfl, fun hb => absurd hb (by decide)⟩, rfl⟩
      | exact j_cutRend (Y := { q : Bool × Bool × Bool // op ≠ 0 }) ⟨(_, _, _), by omega⟩ ⟨rfl, rfl, rfl, rfl, trivial⟩ .refl
      | fail)
  · obtain ⟨⟨q1, q2, q3⟩, hq⟩ := q
    dsimp only
    repeat' (first | (show J _ _ _ (runS _ _ _ _ (⟨_, _, _, _, _, none⟩ :: _)); first | (show J _ _ _ (runS _ _ _ _ (⟨_, .load _ _, _, _, _, _⟩ :: _)); ((refine j_load rfl rfl (by repeat constructor) rfl rfl ?_))) | (show J _ _ _ (runS _ _ _ _ (⟨_, .fieldAddr _ _ _, _, _, _, _⟩ :: _)); refine j_fieldAddr rfl rfl ?_)) | (show J _ _ _ (Code.wp _ _ _); first | refine j_seq ?_ | refine j_region ?_) | refine j_then ?_)
    (refine j_call rfl rfl (wname_spec _ []) (.refl) rfl (fun v M N h hN => ?_); obtain ⟨⟨b1, rfl⟩, rfl⟩ := h; (try simp only [List.nil_append, List.cons_append, List.append_assoc] at hN); subst hN)
    repeat' (first | (show J _ _ _ (runS _ _ _ _ (⟨_, _, _, _, _, none⟩ :: _)); first | (show J _ _ _ (runS _ _ _ _ (⟨_, .move _, _, _, _, _⟩ :: _)); refine j_move rfl rfl ?_) | (show J _ _ _ (runS _ _ _ _ (⟨_, .assign _, _, _, _, _⟩ :: _)); refine j_assign rfl rfl ?_) | (show J _ _ _ (runS _ _ _ _ (⟨_, .pick _ _ _, _, _, _, _⟩ :: _)); (first | refine j_pick_t rfl rfl rfl ?_ | refine j_pick_f rfl rfl rfl ?_))) | refine j_nil ?_ | (show J _ _ _ (runS _ _ _ _ (⟨_, _, _, _, _, some _⟩ :: _)); first | refine j_gno_u rfl rfl rfl rfl ?_ | refine j_gyes rfl rfl rfl ?_ | refine j_gsplit rfl rfl (fun h => ?_) (fun h => ?_)) | (show J _ _ _ (Code.wp _ _ _); (refine j_ret ?_)) | refine j_then ?_)
    all_goals exact j_ret1 (M := Lp) rfl rfl (by repeat (first | exact .refl | refine .drop ?_)) ⟨⟨_, rfl, fun _ => hq⟩, rfl⟩
end Go.Proofs.Ytnmfpgfgjjmfhaa
end

section
set_option linter.unusedVariables false
set_option linter.unusedSimpArgs false
set_option maxRecDepth 100000
namespace Go.Proofs.Ytnmfpgfgjjmfhaa
open Go
attribute [local irreducible] Exit.then Exit.inBlock Code.wp runS bodyPost postF J runT cutQ cutR Tr Sat blk Sl Old Star Ex Pu
def kindI : IA → Int
  | .num .. => 1
  | .txt .. => 2
  | .lst .. => 3
def numI : IA → Int
  | .num n .. => n
  | _ => 0
def strI : IA → ByteArray
  | .txt s .. => s
  | _ => ⟨#[]⟩
def adI : IA → Option Addr
  | .num _ a _ => a
  | .txt _ a _ => a
  | .lst a _ _ => a
def cpI : IA → Nat
  | .num _ _ c => c
  | .txt _ _ c => c
  | .lst _ c _ => c
def lsI : IA → List IA
  | .lst _ _ l => l
  | _ => []
theorem cells_is (t : IA) : cellsI t = [.int .i64 (kindI t), .int .i64 (numI t), .string (strI t), .slice (adI t) (lsI t).length (cpI t)] := by cases t <;> rfl
theorem ok_vw {w : World} {t : IA} (h : OkI w t) : Vw w (adI t) (lsI t) := by
  cases t with
  | num n a c => exact slR_nil w _ a
  | txt s a c => exact slR_nil w _ a
  | lst a c l => simp only [OkI] at h; exact h.1
theorem ok_at {w : World} {t t' : IA} {k : Nat} (h : OkI w t) (ht : (lsI t)[k]? = some t') : OkI w t' := by
  cases t with
  | num n a c => simp [lsI] at ht
  | txt s a c => simp [lsI] at ht
  | lst a c l => simp only [OkI] at h; exact okIL_at ht h.2
theorem Sees.ok_vw {Lp : List HP} {t : IA} (h : Sees Lp (fun w => OkI w t)) : Sees Lp (fun w => Vw w (adI t) (lsI t)) := fun w hw => Proofs.Ytnmfpgfgjjmfhaa.ok_vw (h w hw)
theorem Sees.ok_at {Lp : List HP} {t t' : IA} {k : Nat} (h : Sees Lp (fun w => OkI w t)) (ht : (lsI t)[k]? = some t') : Sees Lp (fun w => OkI w t') := fun w hw => Proofs.Ytnmfpgfgjjmfhaa.ok_at (h w hw) ht

/-- what is thrown -/
def unk : Value := .iface 102 (.agg #[])
def unX (Lp : List HP) : Value → List HP → Prop := fun v M => v = unk ∧ M = Lp

theorem wlist_spec (t : IA) (n : Int) (hlm : (lsI t).length ≤ 4096) (Lp : List HP) : TrX Try.prog 66 [.agg (cellsI t).toArray, .int .i64 n] Lp
    (fun v M => (v = .tuple #[] ∧ kindI t = 3 ∧ ((lsI t).length : Int) = n) ∧ M = Lp) (unX Lp) := by
  rw [cells_is t]
  refine tr_enterX Try.func66 rfl Try.ntmps66 rfl (fun F => ?_)
  repeat' (first | (show J _ _ _ (runS _ _ _ _ (⟨_, _, _, _, _, none⟩ :: _)); first | (show J _ _ _ (runS _ _ _ _ (⟨_, .move _, _, _, _, _⟩ :: _)); refine j_move rfl rfl ?_) | (show J _ _ _ (runS _ _ _ _ (⟨_, .load _ _, _, _, _, _⟩ :: _)); ((refine j_load rfl rfl (by repeat constructor) rfl rfl ?_))) | (show J _ _ _ (runS _ _ _ _ (⟨_, .fieldAddr _ _ _, _, _, _, _⟩ :: _)); refine j_fieldAddr rfl rfl ?_) | (show J _ _ _ (runS _ _ _ _ (⟨_, .binOp _ _ _ _ _, _, _, _, _⟩ :: _)); ((refine j_bin rfl rfl rfl rfl ?_))) | (show J _ _ _ (runS _ _ _ _ (⟨_, .pick _ _ _, _, _, _, _⟩ :: _)); (first | refine j_pick_t rfl rfl rfl ?_ | refine j_pick_f rfl rfl rfl ?_)) | (show J _ _ _ (runS _ _ _ _ (⟨_, .call ⟨.builtin .len, _, _⟩, _, _, _, _⟩ :: _)); ((refine j_len rfl rfl ?_))) | (show J _ _ _ (runS _ _ _ _ (⟨_, .build _ _, _, _, _, _⟩ :: _)); refine j_build rfl (by repeat constructor) rfl ?_) | (show J _ _ _ (runS _ _ _ _ (⟨_, .box _ _, _, _, _, _⟩ :: _)); refine j_box rfl rfl (fun b => ?_))) | refine j_nil ?_ | (show J _ _ _ (runS _ _ _ _ (⟨_, _, _, _, _, some _⟩ :: _)); first | refine j_gno_u rfl rfl rfl rfl ?_ | refine j_gyes rfl rfl rfl ?_ | refine j_gsplit_dec rfl rfl (fun h => ?_) (fun h => ?_)) | (show J _ _ _ (Code.wp _ _ _); first | refine j_seq ?_ | refine j_region ?_ | (show J _ _ _ (Code.wp _ (.cond _ _ _) _); first | refine j_true rfl ?_ | refine j_dec rfl (fun h => ?_) (fun h => ?_)) | refine j_skip ?_) | refine j_then ?_ | (show J _ _ _ (runS _ _ _ _ (⟨_, .makeInterface _ _, _, _, _, _⟩ :: _)); refine j_mkIface rfl rfl rfl ?_) | (show J _ _ _ (runS _ _ _ _ (⟨_, .panic _, _, _, _, _⟩ :: _)); refine j_panicI rfl ?_))
  · exact j_panicked (M := Lp) (by repeat (first | exact .refl | refine .drop ?_)) ⟨rfl, rfl⟩
  · exact j_panicked (M := Lp) (by repeat (first | exact .refl | refine .drop ?_)) ⟨rfl, rfl⟩
  · refine j_retnX (j_retX (j_ret0 (M := Lp) rfl (by repeat (first | exact .refl | refine .drop ?_)) ⟨⟨rfl, by omega, by omega⟩, rfl⟩))
theorem wsmall_spec (t : IA) (Lp : List HP) : TrX Try.prog 67 [.agg (cellsI t).toArray] Lp
    (fun v M => (∃ n, v = .int .i64 n) ∧ M = Lp) (unX Lp) := by
  rw [cells_is t]
  refine tr_enterX Try.func67 rfl Try.ntmps67 rfl (fun F => ?_)
  repeat' (first | (show J _ _ _ (runS _ _ _ _ (⟨_, _, _, _, _, none⟩ :: _)); first | (show J _ _ _ (runS _ _ _ _ (⟨_, .load _ _, _, _, _, _⟩ :: _)); ((refine j_load rfl rfl (by repeat constructor) rfl rfl ?_))) | (show J _ _ _ (runS _ _ _ _ (⟨_, .fieldAddr _ _ _, _, _, _, _⟩ :: _)); refine j_fieldAddr rfl rfl ?_) | (show J _ _ _ (runS _ _ _ _ (⟨_, .binOp _ _ _ _ _, _, _, _, _⟩ :: _)); ((refine j_bin rfl rfl rfl rfl ?_))) | (show J _ _ _ (runS _ _ _ _ (⟨_, .assign _, _, _, _, _⟩ :: _)); refine j_assign rfl rfl ?_) | (show J _ _ _ (runS _ _ _ _ (⟨_, .build _ _, _, _, _, _⟩ :: _)); refine j_build rfl (by repeat constructor) rfl ?_) | (show J _ _ _ (runS _ _ _ _ (⟨_, .box _ _, _, _, _, _⟩ :: _)); refine j_box rfl rfl (fun b => ?_)) | (show J _ _ _ (runS _ _ _ _ (⟨_, .convert _ _ _, _, _, _, _⟩ :: _)); refine j_conv rfl rfl ?_)) | refine j_nil ?_ | (show J _ _ _ (Code.wp _ _ _); first | refine j_seq ?_ | refine j_region ?_ | (show J _ _ _ (Code.wp _ (.cond _ _ _) _); (refine j_dec rfl (fun h => ?_) (fun h => ?_))) | refine j_ret ?_ | refine j_skip ?_) | refine j_then ?_ | (show J _ _ _ (runS _ _ _ _ (⟨_, .makeInterface _ _, _, _, _, _⟩ :: _)); refine j_mkIface rfl rfl rfl ?_) | (show J _ _ _ (runS _ _ _ _ (⟨_, .panic _, _, _, _, _⟩ :: _)); refine j_panicI rfl ?_) | refine j_then_panic ?_ | refine j_retX ?_)
  · exact j_panicked (M := Lp) (by repeat (first | exact .refl | refine .drop ?_)) ⟨rfl, rfl⟩
  · exact j_ret1 (M := Lp) rfl rfl (by repeat (first | exact .refl | refine .drop ?_)) ⟨⟨_, rfl⟩, rfl⟩
theorem wpart_spec (t : IA) (k : Nat) (kd : Int) (hlm : (lsI t).length ≤ 4096) (Lp : List HP) (hv : Sees Lp (fun w => OkI w t)) : TrX Try.prog 68 [.agg (cellsI t).toArray, .int .i64 (k : Nat), .int .i64 kd] Lp
    (fun v M => (∃ t', (lsI t)[k]? = some t' ∧ kindI t' = kd ∧ v = .agg (cellsI t').toArray) ∧ M = Lp) (unX Lp) := by
  rw [cells_is t]
  refine tr_enterX Try.func68 rfl Try.ntmps68 rfl (fun F => ?_)
  repeat' (first | (show J _ _ _ (runS _ _ _ _ (⟨_, _, _, _, _, none⟩ :: _)); first | (show J _ _ _ (runS _ _ _ _ (⟨_, .move _, _, _, _, _⟩ :: _)); refine j_move rfl rfl ?_) | (show J _ _ _ (runS _ _ _ _ (⟨_, .load _ _, _, _, _, _⟩ :: _)); ((refine j_load rfl rfl (by repeat constructor) rfl rfl ?_))) | (show J _ _ _ (runS _ _ _ _ (⟨_, .fieldAddr _ _ _, _, _, _, _⟩ :: _)); refine j_fieldAddr rfl rfl ?_) | (show J _ _ _ (runS _ _ _ _ (⟨_, .binOp _ _ _ _ _, _, _, _, _⟩ :: _)); ((refine j_bin rfl rfl rfl rfl ?_))) | (show J _ _ _ (runS _ _ _ _ (⟨_, .pick _ _ _, _, _, _, _⟩ :: _)); (first | refine j_pick_t rfl rfl rfl ?_ | refine j_pick_f rfl rfl rfl ?_)) | (show J _ _ _ (runS _ _ _ _ (⟨_, .call ⟨.builtin .len, _, _⟩, _, _, _, _⟩ :: _)); ((refine j_len rfl rfl ?_))) | (show J _ _ _ (runS _ _ _ _ (⟨_, .build _ _, _, _, _, _⟩ :: _)); refine j_build rfl (by repeat constructor) rfl ?_) | (show J _ _ _ (runS _ _ _ _ (⟨_, .box _ _, _, _, _, _⟩ :: _)); refine j_box rfl rfl (fun b => ?_)) | (show J _ _ _ (runS _ _ _ _ (⟨_, .alloc _, _, _, _, _⟩ :: _)); refine j_alloc rfl (fun b => ?_))) | refine j_nil ?_ | (show J _ _ _ (runS _ _ _ _ (⟨_, _, _, _, _, some _⟩ :: _)); first | refine j_gno_u rfl rfl rfl rfl ?_ | refine j_gyes rfl rfl rfl ?_ | refine j_gsplit_dec rfl rfl (fun h => ?_) (fun h => ?_)) | (show J _ _ _ (Code.wp _ _ _); first | refine j_seq ?_ | refine j_region ?_ | (show J _ _ _ (Code.wp _ (.cond _ _ _) _); (refine j_true rfl ?_))) | refine j_then ?_ | (show J _ _ _ (runS _ _ _ _ (⟨_, .makeInterface _ _, _, _, _, _⟩ :: _)); refine j_mkIface rfl rfl rfl ?_) | (show J _ _ _ (runS _ _ _ _ (⟨_, .panic _, _, _, _, _⟩ :: _)); refine j_panicI rfl ?_) | refine j_then_panic ?_)
  · exact j_panicked (M := Lp) (by repeat (first | exact .refl | refine .drop ?_)) ⟨rfl, rfl⟩
  · exact j_panicked (M := Lp) (by repeat (first | exact .refl | refine .drop ?_)) ⟨rfl, rfl⟩
  have hk : k < (lsI t).length := by omega
  refine j_idx (α := IA) (M := Lp) rfl rfl (by repeat (first | exact .refl | refine .drop ?_)) hv.ok_vw rfl k rfl hk rfl (fun b3 o3 ha3 hc3 => ?_)
  repeat' (first | (show J _ _ _ (runS _ _ _ _ (⟨_, _, _, _, _, none⟩ :: _)); (show J _ _ _ (runS _ _ _ _ (⟨_, .fieldAddr _ _ _, _, _, _, _⟩ :: _)); refine j_fieldAddr rfl rfl ?_)) | (show J _ _ _ (runS _ _ _ _ (⟨_, _, _, _, _, some _⟩ :: _)); (refine j_gyes rfl rfl rfl ?_)))
  refine j_loadv (M := Lp) (v := .int .i64 (kindI (lsI t)[k])) rfl rfl (by repeat (first | exact .refl | refine .drop ?_)) (hc3 0 _ (by show (cellsI _)[0]? = _; rw [cells_is]; rfl)) rfl ?_
  repeat' (first | (show J _ _ _ (runS _ _ _ _ (⟨_, _, _, _, _, none⟩ :: _)); first | (show J _ _ _ (runS _ _ _ _ (⟨_, .move _, _, _, _, _⟩ :: _)); refine j_move rfl rfl ?_) | (show J _ _ _ (runS _ _ _ _ (⟨_, .load _ _, _, _, _, _⟩ :: _)); ((refine j_load rfl rfl (by repeat constructor) rfl rfl ?_))) | (show J _ _ _ (runS _ _ _ _ (⟨_, .fieldAddr _ _ _, _, _, _, _⟩ :: _)); refine j_fieldAddr rfl rfl ?_) | (show J _ _ _ (runS _ _ _ _ (⟨_, .binOp _ _ _ _ _, _, _, _, _⟩ :: _)); ((refine j_bin rfl rfl rfl rfl ?_))) | (show J _ _ _ (runS _ _ _ _ (⟨_, .pick _ _ _, _, _, _, _⟩ :: _)); ((refine j_pick_f rfl rfl rfl ?_))) | (show J _ _ _ (runS _ _ _ _ (⟨_, .build _ _, _, _, _, _⟩ :: _)); refine j_build rfl (by repeat constructor) rfl ?_)) | refine j_nil ?_ | (show J _ _ _ (runS _ _ _ _ (⟨_, _, _, _, _, some _⟩ :: _)); (refine j_gyes rfl rfl rfl ?_)) | (show J _ _ _ (Code.wp _ _ _); first | refine j_seq ?_ | refine j_region ?_ | (show J _ _ _ (Code.wp _ (.cond _ _ _) _); (refine j_dec rfl (fun h => ?_) (fun h => ?_))) | refine j_skip ?_) | refine j_then ?_ | (show J _ _ _ (runS _ _ _ _ (⟨_, .makeInterface _ _, _, _, _, _⟩ :: _)); refine j_mkIface rfl rfl rfl ?_) | (show J _ _ _ (runS _ _ _ _ (⟨_, .panic _, _, _, _, _⟩ :: _)); refine j_panicI rfl ?_) | refine j_then_panic ?_)
  · exact j_panicked (M := Lp) (by repeat (first | exact .refl | refine .drop ?_)) ⟨rfl, rfl⟩
  refine j_idx (α := IA) (M := Lp) rfl rfl (by repeat (first | exact .refl | refine .drop ?_)) hv.ok_vw rfl k rfl hk rfl (fun b3 o3 ha3 hc3 => ?_)
  refine j_loadsv (M := Lp) (cellsI (lsI t)[k]) rfl (by rw [cells_is]; rfl) rfl (by repeat (first | exact .refl | refine .drop ?_)) (fun w hw q v hq => hc3 q v hq w hw) rfl ?_
  rw [cells_is (lsI t)[k]]
  repeat' (first | (show J _ _ _ (runS _ _ _ _ (⟨_, _, _, _, _, none⟩ :: _)); (show J _ _ _ (runS _ _ _ _ (⟨_, .store _ _ _, _, _, _, _⟩ :: _)); ((refine j_sets rfl rfl rfl (by rfl) (by repeat constructor) (by repeat constructor) (by rfl) ?_)))) | refine j_nil ?_ | (show J _ _ _ (Code.wp _ _ _); (refine j_ret ?_)) | refine j_then ?_ | refine j_retX ?_)
  exact j_retc [.int .i64 (kindI (lsI t)[k]), .int .i64 (numI (lsI t)[k]), .string (strI (lsI t)[k]), .slice (adI (lsI t)[k]) (lsI (lsI t)[k]).length (cpI (lsI t)[k])] rfl rfl rfl (by repeat constructor) rfl ⟨rfl, rfl, rfl, rfl, trivial⟩ (M := Lp) (by repeat (first | exact .refl | refine .drop ?_)) ⟨⟨_, List.getElem?_eq_getElem hk, by omega, by rw [cells_is]⟩, rfl⟩
theorem wvecOf_spec (t : IA) (hlm : (lsI t).length ≤ 4096) (Lp : List HP) (hv : Sees Lp (fun w => OkI w t)) : TrX Try.prog 69 [.agg (cellsI t).toArray] Lp
    (fun v M => (∃ a b c, v = .agg #[.int .i64 a, .int .i64 b, .int .i64 c]) ∧ M = Lp) (unX Lp) := by
  rw [cells_is t]
  refine tr_enterX Try.func69 rfl Try.ntmps69 rfl (fun F => ?_)
  repeat' (first | (show J _ _ _ (runS _ _ _ _ (⟨_, _, _, _, _, none⟩ :: _)); first | (show J _ _ _ (runS _ _ _ _ (⟨_, .box _ _, _, _, _, _⟩ :: _)); refine j_box rfl rfl (fun b => ?_)) | (show J _ _ _ (runS _ _ _ _ (⟨_, .alloc _, _, _, _, _⟩ :: _)); refine j_alloc rfl (fun b => ?_))) | refine j_nil ?_ | (show J _ _ _ (Code.wp _ _ _); first | refine j_seq ?_ | refine j_region ?_) | refine j_then ?_)
  rename_i bt
  obtain ⟨br, hbr⟩ : ∃ b', b' = b := ⟨_, rfl⟩
  subst hbr
  refine j_loads [.int .i64 (kindI t), .int .i64 (numI t), .string (strI t), .slice (adI t) (lsI t).length (cpI t)] rfl rfl rfl (by repeat constructor) ⟨rfl, rfl, rfl, rfl, trivial⟩ rfl ?_
  rw [← cells_is t]
  repeat' (fail)
  (refine j_callX rfl rfl (wlist_spec t 3 hlm []) (.refl) rfl (fun v M N h hN => ?_) (fun v M N h hN => ?_); (obtain ⟨⟨rfl, hk3, hl3⟩, rfl⟩ := h; (try simp only [List.nil_append, List.cons_append, List.append_assoc] at hN); subst hN); rotate_left; (obtain ⟨rfl, rfl⟩ := h; (try simp only [List.nil_append, List.cons_append, List.append_assoc] at hN); subst hN); rotate_right)
  rotate_left
  · repeat' ((refine j_then_panic ?_))
    exact j_panicked (M := Lp) (by repeat (first | exact .refl | refine .drop ?_)) ⟨rfl, rfl⟩
  repeat' (first | (show J _ _ _ (runS _ _ _ _ (⟨_, _, _, _, _, none⟩ :: _)); first | (show J _ _ _ (runS _ _ _ _ (⟨_, .move _, _, _, _, _⟩ :: _)); refine j_move rfl rfl ?_) | (show J _ _ _ (runS _ _ _ _ (⟨_, .alloc _, _, _, _, _⟩ :: _)); refine j_alloc rfl (fun b => ?_))) | refine j_nil ?_ | (show J _ _ _ (Code.wp _ _ _); first | refine j_seq ?_ | refine j_region ?_ | refine j_block ?_) | refine j_then ?_)
  refine j_loop (X := { q : Nat × Int × Int × Int // q.1 ≤ 3 }) (fun q => [(1, .pointer (some ⟨bt, 0, none⟩)), (2, .pointer (some ⟨br, 0, none⟩)), (3, .pointer (some ⟨b, 0, none⟩)), (7, .int .i64 (q.1.1 : Nat))]) (fun q => blk b 42 [.int .i64 q.1.2.1, .int .i64 q.1.2.2.1, .int .i64 q.1.2.2.2] :: blk br 42 [.int .i64 0, .int .i64 0, .int .i64 0] :: blk bt 64 (cellsI t) :: (Lp ++ F)) (fun q => 3 - q.1.1) ⟨(0, 0, 0, 0), by decide⟩ ⟨rfl, rfl, rfl, rfl, trivial⟩ (by repeat ((exact .refl))) (fun q => ?_)
  obtain ⟨⟨i, x0, x1, x2⟩, hi⟩ := q
  dsimp only
  repeat' (first | (show J _ _ _ (runS _ _ _ _ (⟨_, _, _, _, _, none⟩ :: _)); first | (show J _ _ _ (runS _ _ _ _ (⟨_, .move _, _, _, _, _⟩ :: _)); refine j_move rfl rfl ?_) | (show J _ _ _ (runS _ _ _ _ (⟨_, .load _ _, _, _, _, _⟩ :: _)); ((refine j_loads [_, _, _] rfl rfl rfl (by repeat constructor) ⟨rfl, rfl, rfl, trivial⟩ rfl ?_))) | (show J _ _ _ (runS _ _ _ _ (⟨_, .binOp _ _ _ _ _, _, _, _, _⟩ :: _)); ((refine j_bin rfl rfl rfl rfl ?_))) | (show J _ _ _ (runS _ _ _ _ (⟨_, .assign _, _, _, _, _⟩ :: _)); refine j_assign rfl rfl ?_) | (show J _ _ _ (runS _ _ _ _ (⟨_, .store _ _ _, _, _, _, _⟩ :: _)); ((refine j_sets rfl rfl rfl (by rfl) (by repeat constructor) (by repeat constructor) (by rfl) ?_)))) | refine j_nil ?_ | (show J _ _ _ (Code.wp _ _ _); first | refine j_seq ?_ | refine j_region ?_ | refine j_block ?_ | (show J _ _ _ (Code.wp _ (.cond _ _ _) _); (refine j_dec rfl (fun h => ?_) (fun h => ?_))) | refine j_ret ?_ | refine j_skip ?_ | refine j_exit ?_) | refine j_then ?_ | refine j_then_exit ?_ | refine j_inb_here ?_ | refine j_retX ?_)
  · have hi3 : i < 3 := by omega
    refine j_loads [.int .i64 (kindI t), .int .i64 (numI t), .string (strI t), .slice (adI t) (lsI t).length (cpI t)] rfl rfl rfl (by repeat constructor) ⟨?_, ?_, ?_, ?_, trivial⟩ rfl ?_
    all_goals first | (rw [cells_is]; rfl) | skip
    rw [← cells_is t]
    repeat' ((show J _ _ _ (runS _ _ _ _ (⟨_, _, _, _, _, none⟩ :: _)); (show J _ _ _ (runS _ _ _ _ (⟨_, .move _, _, _, _, _⟩ :: _)); refine j_move rfl rfl ?_)))
    (refine j_callX rfl rfl (wpart_spec t i 1 hlm (blk b 42 [.int .i64 x0, .int .i64 x1, .int .i64 x2] :: blk br 42 [.int .i64 0, .int .i64 0, .int .i64 0] :: blk bt 64 (cellsI t) :: Lp) hv.cons.cons.cons) (.refl) rfl (fun v M N h hN => ?_) (fun v M N h hN => ?_); (obtain ⟨⟨t', ht', hk', rfl⟩, rfl⟩ := h; (try simp only [List.nil_append, List.cons_append, List.append_assoc] at hN); subst hN); rotate_left; (obtain ⟨rfl, rfl⟩ := h; (try simp only [List.nil_append, List.cons_append, List.append_assoc] at hN); subst hN); rotate_right)
    rotate_left
    · repeat' (first | refine j_then_panic ?_ | refine j_inb_panic ?_)
      exact j_panicked (M := Lp) (by repeat (first | exact .refl | refine .drop ?_)) ⟨rfl, rfl⟩
    refine j_field 1 (by decide +kernel) rfl (by rw [cells_is]; rfl) rfl ?_
    obtain rfl | rfl | rfl : i = 0 ∨ i = 1 ∨ i = 2 := by omega
    · refine j_indexArr rfl rfl 0 rfl (by decide) rfl ?_
      repeat' (first | (show J _ _ _ (runS _ _ _ _ (⟨_, _, _, _, _, none⟩ :: _)); first | (show J _ _ _ (runS _ _ _ _ (⟨_, .move _, _, _, _, _⟩ :: _)); refine j_move rfl rfl ?_) | (show J _ _ _ (runS _ _ _ _ (⟨_, .binOp _ _ _ _ _, _, _, _, _⟩ :: _)); ((refine j_add rfl rfl (by omega) rfl ?_))) | (show J _ _ _ (runS _ _ _ _ (⟨_, .store _ _ _, _, _, _, _⟩ :: _)); ((refine j_set rfl rfl rfl (by rfl) (by repeat constructor) (by repeat constructor) ?_)))) | refine j_nil ?_ | (show J _ _ _ (Code.wp _ _ _); (refine j_region ?_)) | refine j_then ?_ | refine j_inb ?_)
      exact j_round ⟨(1, numI t', x1, x2), by dsimp only; omega⟩ (by dsimp only; omega) ⟨rfl, rfl, rfl, rfl, trivial⟩ .refl
    · refine j_indexArr rfl rfl 1 rfl (by decide) rfl ?_
      repeat' (first | (show J _ _ _ (runS _ _ _ _ (⟨_, _, _, _, _, none⟩ :: _)); first | (show J _ _ _ (runS _ _ _ _ (⟨_, .move _, _, _, _, _⟩ :: _)); refine j_move rfl rfl ?_) | (show J _ _ _ (runS _ _ _ _ (⟨_, .binOp _ _ _ _ _, _, _, _, _⟩ :: _)); ((refine j_add rfl rfl (by omega) rfl ?_))) | (show J _ _ _ (runS _ _ _ _ (⟨_, .store _ _ _, _, _, _, _⟩ :: _)); ((refine j_set rfl rfl rfl (by rfl) (by repeat constructor) (by repeat constructor) ?_)))) | refine j_nil ?_ | (show J _ _ _ (Code.wp _ _ _); (refine j_region ?_)) | refine j_then ?_ | refine j_inb ?_)
      exact j_round ⟨(2, x0, numI t', x2), by dsimp only; omega⟩ (by dsimp only; omega) ⟨rfl, rfl, rfl, rfl, trivial⟩ .refl
    · refine j_indexArr rfl rfl 2 rfl (by decide) rfl ?_
      repeat' (first | (show J _ _ _ (runS _ _ _ _ (⟨_, _, _, _, _, none⟩ :: _)); first | (show J _ _ _ (runS _ _ _ _ (⟨_, .move _, _, _, _, _⟩ :: _)); refine j_move rfl rfl ?_) | (show J _ _ _ (runS _ _ _ _ (⟨_, .binOp _ _ _ _ _, _, _, _, _⟩ :: _)); ((refine j_add rfl rfl (by omega) rfl ?_))) | (show J _ _ _ (runS _ _ _ _ (⟨_, .store _ _ _, _, _, _, _⟩ :: _)); ((refine j_set rfl rfl rfl (by rfl) (by repeat constructor) (by repeat constructor) ?_)))) | refine j_nil ?_ | (show J _ _ _ (Code.wp _ _ _); (refine j_region ?_)) | refine j_then ?_ | refine j_inb ?_)
      exact j_round ⟨(3, x0, x1, numI t'), by dsimp only; omega⟩ (by dsimp only; omega) ⟨rfl, rfl, rfl, rfl, trivial⟩ .refl
  · exact j_retc [.int .i64 x0, .int .i64 x1, .int .i64 x2] rfl rfl rfl (by repeat constructor) rfl ⟨rfl, rfl, rfl, trivial⟩ (M := Lp) (by repeat (first | exact .refl | refine .drop ?_)) ⟨⟨_, _, _, rfl⟩, rfl⟩
end Go.Proofs.Ytnmfpgfgjjmfhaa
end

section
set_option linter.unusedVariables false
set_option linter.unusedSimpArgs false
set_option maxRecDepth 100000
namespace Go.Proofs.Ytnmfpgfgjjmfhaa
open Go
attribute [local irreducible] Exit.then Exit.inBlock Code.wp runS bodyPost postF J runT cutQ cutR Tr Sat blk Sl Old Star Ex Pu
attribute [local irreducible] ItH ItHL wd

theorem itemsP_of {f : Nat → List UInt8 → Option (Va × Nat × List UInt8)} : ∀ (n left : Nat) (ls : List UInt8) (vs : List Va) (l : Nat) (r : List UInt8), itemsP f n left ls = some (vs, l, r) → vs.length = n ∧ ∀ v ∈ vs, ∃ a b c d, f a b = some (v, c, d)
  | 0, left, ls, vs, l, r, h => by
    simp only [itemsP, Option.some.injEq, Prod.mk.injEq] at h
    obtain ⟨rfl, _⟩ := h
    exact ⟨rfl, fun v hv => by cases hv⟩
  | n + 1, left, ls, vs, l, r, h => by
    unfold itemsP at h
    split at h
    · cases h
    · rename_i v left' ls' hf
      split at h
      · cases h
      · rename_i vs' l' r' hi
        simp only [Option.some.injEq, Prod.mk.injEq] at h
        obtain ⟨rfl, rfl, rfl⟩ := h
        have ih := itemsP_of n left' ls' vs' l' r' hi
        refine ⟨by simp [ih.1], fun u hu => ?_⟩
        rcases List.mem_cons.1 hu with rfl | hu
        · exact ⟨_, _, _, _, hf⟩
        · exact ih.2 u hu
theorem sizeP_le {m n : Nat} {ls r : List UInt8} (h : sizeP m ls = some (n, r)) : n ≤ m := by
  unfold sizeP at h
  split at h
  · split at h
    · simp only [Option.some.injEq, Prod.mk.injEq] at h
      omega
    · cases h
  · cases h
theorem itemP_lst {d left : Nat} {ls : List UInt8} {vs : List Va} {l : Nat} {r : List UInt8} (h : itemP d left ls = some (.lst vs, l, r)) : vs.length ≤ 4096 ∧ ∀ v ∈ vs, ∃ d a b c e, itemP d a b = some (v, c, e) := by
  cases d with
  | zero => simp [itemP] at h
  | succ d =>
    cases left with
    | zero => simp [itemP] at h
    | succ left =>
      cases ls with
      | nil => simp [itemP] at h
      | cons k ls =>
        unfold itemP at h
        split at h
        · split at h
          · simp at h
          · cases h
        · split at h
          · split at h
            · split at h
              · simp at h
              · cases h
            · cases h
          · split at h
            · split at h
              · rename_i n r0 hs
                split at h
                · rename_i vs' l' r' hi
                  simp only [Option.some.injEq, Prod.mk.injEq, Va.lst.injEq] at h
                  obtain ⟨rfl, rfl, rfl⟩ := h
                  have := itemsP_of n left r0 vs' l' r' hi
                  have hle := sizeP_le hs
                  exact ⟨by omega, fun v hv => by obtain ⟨a, b, c, e, hf⟩ := this.2 v hv; exact ⟨d, a, b, c, e, hf⟩⟩
                · cases h
              · cases h
            · cases h
theorem pl_len {t : IA} {d left : Nat} {ls : List UInt8} {l : Nat} {r : List UInt8} (h : itemP d left ls = some (plI t, l, r)) : (lsI t).length ≤ 4096 ∧ ∀ t' ∈ lsI t, (lsI t').length ≤ 4096 := by
  cases t with
  | num n a c => simp [lsI]
  | txt n a c => simp [lsI]
  | lst a c ts =>
    simp only [plI] at h
    have h1 := itemP_lst h
    rw [plIL_len] at h1
    refine ⟨h1.1, fun t' ht' => ?_⟩
    obtain ⟨i, hi⟩ := List.getElem?_of_mem ht'
    have hm : plI t' ∈ plIL ts := by
      clear h h1 hi
      induction ts with
      | nil => cases ht'
      | cons x ts ih =>
        simp only [plIL]
        rcases List.mem_cons.1 ht' with rfl | ht'
        · exact List.mem_cons_self ..
        · exact List.mem_cons_of_mem _ (ih ht')
    obtain ⟨d', a', b', c', e', h2⟩ := h1.2 _ hm
    cases t' with
    | num n a c => simp [lsI]
    | txt n a c => simp [lsI]
    | lst a c ts' =>
      simp only [plI] at h2
      have h3 := itemP_lst h2
      rw [plIL_len] at h3
      exact h3.1

def zcmd : List Value := [.int .i64 0, .string ⟨#[]⟩, .string ⟨#[]⟩, .int .i64 0, .int .i64 0, .int .i64 0, .int .i64 0]
theorem decC_idle (b2 b3 : Nat) : TrD Try.prog 65 [.pointer (some ⟨b2, 0, none⟩), .pointer (some ⟨b3, 0, none⟩)] .returning .returning [] [] := by
  refine trD_rec Try.func65 rfl Try.ntmps65 rfl rfl (.inl ⟨rfl, rfl, rfl⟩) (fun F => ?_)
  refine j_assertN rfl rfl rfl ?_
  repeat' (first | (show J _ _ _ (runS _ _ _ _ (⟨_, _, _, _, _, none⟩ :: _)); first | (show J _ _ _ (runS _ _ _ _ (⟨_, .move _, _, _, _, _⟩ :: _)); refine j_move rfl rfl ?_) | (show J _ _ _ (runS _ _ _ _ (⟨_, .assign _, _, _, _, _⟩ :: _)); refine j_assign rfl rfl ?_) | (show J _ _ _ (runS _ _ _ _ (⟨_, .store _ _ _, _, _, _, _⟩ :: _)); ((refine j_sets rfl rfl rfl (by rfl) (by repeat constructor) (by repeat constructor) (by rfl) ?_))) | (show J _ _ _ (runS _ _ _ _ (⟨_, .extract _ _, _, _, _, _⟩ :: _)); refine j_extract rfl rfl rfl ?_) | (show J _ _ _ (runS _ _ _ _ (⟨_, .alloc _, _, _, _, _⟩ :: _)); refine j_alloc rfl (fun b => ?_))) | refine j_nil ?_ | (show J _ _ _ (Code.wp _ _ _); first | refine j_seq ?_ | refine j_region ?_ | (show J _ _ _ (Code.wp _ (.cond _ _ _) _); (refine j_false rfl ?_)) | refine j_skip ?_) | refine j_then ?_)
  exact j_retD (M := []) rfl (by repeat (first | exact .refl | refine .drop ?_))
theorem decC_rec (b2 b3 : Nat) (c0 : Cm) (e0 : Int) : TrD Try.prog 65 [.pointer (some ⟨b2, 0, none⟩), .pointer (some ⟨b3, 0, none⟩)] (.panicking [{ v := unk, recovered := false }]) (.panicking [{ v := unk, recovered := true }])
    [blk b2 44 [.int .i64 c0.op, .string c0.nm, .string c0.oo, .int .i64 c0.v.a, .int .i64 c0.v.b, .int .i64 c0.v.c, .int .i64 c0.n], blk b3 38 [.int .i64 e0]] [blk b2 44 zcmd, blk b3 38 [.int .i64 4]] := by
  refine trD_rec Try.func65 rfl Try.ntmps65 rfl rfl (.inr ⟨unk, [], rfl, rfl, rfl⟩) (fun F => ?_)
  refine j_assertT rfl rfl rfl ?_
  repeat' (first | (show J _ _ _ (runS _ _ _ _ (⟨_, _, _, _, _, none⟩ :: _)); first | (show J _ _ _ (runS _ _ _ _ (⟨_, .move _, _, _, _, _⟩ :: _)); refine j_move rfl rfl ?_) | (show J _ _ _ (runS _ _ _ _ (⟨_, .assign _, _, _, _, _⟩ :: _)); refine j_assign rfl rfl ?_) | (show J _ _ _ (runS _ _ _ _ (⟨_, .store _ _ _, _, _, _, _⟩ :: _)); (first | refine j_set rfl rfl rfl (by rfl) (by repeat constructor) (by repeat constructor) ?_ | refine j_sets rfl rfl rfl (by rfl) (by repeat constructor) (by repeat constructor) (by rfl) ?_)) | (show J _ _ _ (runS _ _ _ _ (⟨_, .build _ _, _, _, _, _⟩ :: _)); refine j_build rfl (by repeat constructor) rfl ?_) | (show J _ _ _ (runS _ _ _ _ (⟨_, .extract _ _, _, _, _, _⟩ :: _)); refine j_extract rfl rfl rfl ?_) | (show J _ _ _ (runS _ _ _ _ (⟨_, .alloc _, _, _, _, _⟩ :: _)); refine j_alloc rfl (fun b => ?_))) | refine j_nil ?_ | (show J _ _ _ (Code.wp _ _ _); first | refine j_seq ?_ | refine j_region ?_ | (show J _ _ _ (Code.wp _ (.cond _ _ _) _); (refine j_true rfl ?_))) | refine j_then ?_)
  exact j_retD rfl (by repeat (first | exact .refl | apply Pk.cons | refine .drop ?_ | constructor))

def zC : Cm := ⟨0, ⟨#[]⟩, ⟨#[]⟩, ⟨0, 0, 0⟩, 0⟩
theorem wcdec_spec (s : ByteArray) (Lp : List HP) : Tr Try.prog 39 [.string s] Lp (fun v M => (∃ (c : Cm) (e : Int), v = .tuple #[.agg (Enc.enc c).toArray, .int .i64 e] ∧ (e = 0 → c.op ≠ 0)) ∧ M = Lp) := by
  refine tr_enterD Try.func39 rfl Try.ntmps39 rfl (fun F => ?_)
  repeat' (first | (show J _ _ _ (runS _ _ _ _ (⟨_, _, _, _, _, none⟩ :: _)); (show J _ _ _ (runS _ _ _ _ (⟨_, .alloc _, _, _, _, _⟩ :: _)); refine j_alloc rfl (fun b => ?_))) | refine j_nil ?_ | (show J _ _ _ (Code.wp _ _ _); first | refine j_seq ?_ | refine j_region ?_) | refine j_then ?_)
  rename_i bc
  obtain ⟨be, hbe⟩ : ∃ b', b' = b := ⟨_, rfl⟩
  subst hbe
  refine j_makeFunc rfl rfl ?_
  refine j_defer rfl ?_
  repeat' (first | (show J _ _ _ (runS _ _ _ _ (⟨_, _, _, _, _, none⟩ :: _)); (show J _ _ _ (runS _ _ _ _ (⟨_, .move _, _, _, _, _⟩ :: _)); refine j_move rfl rfl ?_)) | refine jd_then ?_ | refine jd_seq ?_ | refine jd_region ?_)
  refine j_strBytes rfl rfl (fun b1 c1 junk hc1 => ?_)
  (refine j_call rfl rfl (wdec_spec (some ⟨b1, 0, none⟩) c1 s.data.toList hc1 [blk b1 5 (byteRow s.data.toList junk)] sees_row) ((by repeat ((exact .refl)))) rfl (fun v M N h hN => ?_); obtain (⟨t, left', h1, rfl, rfl⟩ | ⟨h1, rfl, rfl⟩) := h; (try simp only [List.nil_append, List.cons_append, List.append_assoc] at hN); subst hN)
  rotate_left
  · simp only [List.cons_append, List.nil_append] at hN
    subst hN
    repeat' (first | (show J _ _ _ (runS _ _ _ _ (⟨_, _, _, _, _, none⟩ :: _)); first | (show J _ _ _ (runS _ _ _ _ (⟨_, .move _, _, _, _, _⟩ :: _)); refine j_move rfl rfl ?_) | (show J _ _ _ (runS _ _ _ _ (⟨_, .load _ _, _, _, _, _⟩ :: _)); ((refine j_load rfl rfl (by repeat constructor) rfl rfl ?_))) | (show J _ _ _ (runS _ _ _ _ (⟨_, .binOp _ _ _ _ _, _, _, _, _⟩ :: _)); ((refine j_bin rfl rfl rfl rfl ?_))) | (show J _ _ _ (runS _ _ _ _ (⟨_, .store _ _ _, _, _, _, _⟩ :: _)); (first | refine j_set rfl rfl rfl (by rfl) (by repeat constructor) (by repeat constructor) ?_ | refine j_sets rfl rfl rfl (by rfl) (by repeat constructor) (by repeat constructor) (by rfl) ?_)) | (show J _ _ _ (runS _ _ _ _ (⟨_, .extract _ _, _, _, _, _⟩ :: _)); refine j_extract rfl rfl rfl ?_) | (show J _ _ _ (runS _ _ _ _ (⟨_, .alloc _, _, _, _, _⟩ :: _)); refine j_alloc rfl (fun b => ?_))) | refine j_nil ?_ | refine jd_then ?_ | refine jd_seq ?_ | refine jd_region ?_ | (show J _ _ _ (wd _ (Code.wp _ (.cond _ _ _) _)); (refine jd_true rfl ?_)))
    refine jd_planF (.fork 0 (.fork 1 (.fork 2 (.fork 3 (.done) (.stop)) (.stop)) (.fork 2 (.fork 1 (.fork 3 (.done) (.stop)) (.stop)) (.stop))) (.fork 1 (.fork 0 (.fork 2 (.fork 3 (.done) (.stop)) (.stop)) (.stop)) (.stop))) (by decide +kernel) ?_
    repeat' (first | (show J _ _ _ (runS _ _ _ _ (⟨_, _, _, _, _, none⟩ :: _)); first | (show J _ _ _ (runS _ _ _ _ (⟨_, .load _ _, _, _, _, _⟩ :: _)); ((refine j_load rfl rfl (by repeat constructor) rfl rfl ?_))) | (show J _ _ _ (runS _ _ _ _ (⟨_, .store _ _ _, _, _, _, _⟩ :: _)); (first | refine j_set rfl rfl rfl (by rfl) (by repeat constructor) (by repeat constructor) ?_ | refine j_sets rfl rfl rfl (by rfl) (by repeat constructor) (by repeat constructor) (by rfl) ?_)) | (show J _ _ _ (runS _ _ _ _ (⟨_, .build _ _, _, _, _, _⟩ :: _)); refine j_build rfl (by repeat constructor) rfl ?_)) | refine j_nil ?_ | (show J _ _ _ (runT _ _ _ _ _); first | refine j_fork rfl ?_ ?_ | exact j_stop | refine j_done ?_) | refine jd_then ?_ | refine jd_ret ?_ | refine jd_then_ret ?_)
    all_goals first
      | (exact absurd (by decide : (4 : Int) ≠ 0) (by assumption))
      | (refine j_leave (M' := Lp) (decC_idle bc be) (F' := blk be 38 [.int .i64 4] :: blk bc 44 [.int .i64 (zC).op, .string (zC).nm, .string (zC).oo, .int .i64 (zC).v.a, .int .i64 (zC).v.b, .int .i64 (zC).v.c, .int .i64 (zC).n] :: (Lp ++ F)) (by repeat (first | exact .refl | apply Pk.cons | refine .drop ?_ | constructor)) (fun a1 w hr hw => run_res2 hr rfl rfl rfl (run_loadVar_blk (vs := [.int .i64 (zC).op, .string (zC).nm, .string (zC).oo, .int .i64 (zC).v.a, .int .i64 (zC).v.b, .int .i64 (zC).v.c, .int .i64 (zC).n]) rfl hw (by repeat constructor) rfl ⟨rfl, rfl, rfl, rfl, rfl, rfl, rfl, trivial⟩) (run_loadVar_one rfl hw (by repeat constructor) rfl)) (M := []) (by repeat (first | exact .refl | refine .drop ?_)) ⟨⟨zC, 4, rfl, by decide⟩, rfl⟩)
  · rw [cells_is t]
    repeat' (first | (show J _ _ _ (runS _ _ _ _ (⟨_, _, _, _, _, none⟩ :: _)); first | (show J _ _ _ (runS _ _ _ _ (⟨_, .move _, _, _, _, _⟩ :: _)); refine j_move rfl rfl ?_) | (show J _ _ _ (runS _ _ _ _ (⟨_, .load _ _, _, _, _, _⟩ :: _)); ((refine j_load rfl rfl (by repeat constructor) rfl rfl ?_))) | (show J _ _ _ (runS _ _ _ _ (⟨_, .binOp _ _ _ _ _, _, _, _, _⟩ :: _)); ((refine j_bin rfl rfl rfl rfl ?_))) | (show J _ _ _ (runS _ _ _ _ (⟨_, .store _ _ _, _, _, _, _⟩ :: _)); (first | refine j_set rfl rfl rfl (by rfl) (by repeat constructor) (by repeat constructor) ?_ | refine j_sets rfl rfl rfl (by rfl) (by repeat constructor) (by repeat constructor) (by rfl) ?_)) | (show J _ _ _ (runS _ _ _ _ (⟨_, .extract _ _, _, _, _, _⟩ :: _)); refine j_extract rfl rfl rfl ?_) | (show J _ _ _ (runS _ _ _ _ (⟨_, .alloc _, _, _, _, _⟩ :: _)); refine j_alloc rfl (fun b => ?_))) | refine j_nil ?_ | refine jd_then ?_ | refine jd_seq ?_ | refine jd_region ?_ | (show J _ _ _ (wd _ (Code.wp _ (.cond _ _ _) _)); (refine jd_false rfl ?_)) | refine jd_skip ?_)
    have hlm := pl_len h1
    have hok : Sees [ItH t] (fun w => OkI w t) := sees_it .z
    refine j_loads [.int .i64 (kindI t), .int .i64 (numI t), .string (strI t), .slice (adI t) (lsI t).length (cpI t)] rfl rfl rfl (by repeat constructor) ⟨rfl, rfl, rfl, rfl, trivial⟩ rfl ?_
    rw [← cells_is t]
    (refine j_callX rfl rfl (wlist_spec t 5 hlm.1 []) (.refl) rfl (fun v M N h hN => ?_) (fun v M N h hN => ?_); (obtain ⟨⟨rfl, hk3, hl5⟩, rfl⟩ := h; (try simp only [List.nil_append, List.cons_append, List.append_assoc] at hN); subst hN); rotate_left; (obtain ⟨rfl, rfl⟩ := h; (try simp only [List.nil_append, List.cons_append, List.append_assoc] at hN); subst hN); rotate_right)
    rotate_left
    · repeat' ((refine jd_then_panic ?_))
      (refine j_leaveP (M' := Lp) (decC_rec bc be zC 0) (F' := Lp ++ F) (by repeat (first | exact .refl | apply Pk.cons | refine .drop ?_ | constructor)) (fun a1 w hr hw => run_res2 hr rfl rfl rfl (run_loadVar_blk (vs := zcmd) rfl hw (by repeat constructor) rfl ⟨rfl, rfl, rfl, rfl, rfl, rfl, rfl, trivial⟩) (run_loadVar_one rfl hw (by repeat constructor) rfl)) (by repeat (first | exact .refl | refine .drop ?_)) ⟨⟨zC, 4, rfl, by decide⟩, rfl⟩)
    repeat' (first | refine j_nil ?_ | refine jd_then ?_ | refine jd_seq ?_)
    rw [cells_is t]
    refine jd_invF [18, 19, 20, 21, 22, 23, 24, 25, 26, 27, 28, 29, 30, 31, 32, 33] [[], [0], [1], [], [3], [4], [], [6], [7], [], [9], [10], [], [12], [13], [2, 5, 8, 11, 14]] (.fork 16 (.done) (.stop)) ([(2, .pointer (some ⟨bc, 0, none⟩)), (3, .pointer (some ⟨be, 0, none⟩)), (4, .pointer (some ⟨b, 0, none⟩))]) (fun i x v => match i with
      | 0 => v = .agg (cellsI t).toArray
      | 1 => ∃ t', (lsI t)[0]? = some t' ∧ kindI t' = 1 ∧ v = .agg (cellsI t').toArray
      | 2 => ∃ n, v = .int .i64 n
      | 3 => v = .agg (cellsI t).toArray
      | 4 => ∃ t', (lsI t)[1]? = some t' ∧ kindI t' = 2 ∧ v = .agg (cellsI t').toArray
      | 5 => ∃ s, v = .string s
      | 6 => v = .agg (cellsI t).toArray
      | 7 => ∃ t', (lsI t)[2]? = some t' ∧ kindI t' = 2 ∧ v = .agg (cellsI t').toArray
      | 8 => ∃ s, v = .string s
      | 9 => v = .agg (cellsI t).toArray
      | 10 => ∃ t', (lsI t)[3]? = some t' ∧ kindI t' = 3 ∧ v = .agg (cellsI t').toArray
      | 11 => ∃ a b c, v = .agg #[.int .i64 a, .int .i64 b, .int .i64 c]
      | 12 => v = .agg (cellsI t).toArray
      | 13 => ∃ t', (lsI t)[4]? = some t' ∧ kindI t' = 1 ∧ v = .agg (cellsI t').toArray
      | 14 => ∃ n, v = .int .i64 n
      | _ => ∃ c : Cm, v = .agg (Enc.enc c).toArray) 0 (fun _ => []) (by decide +kernel) ⟨rfl, rfl, rfl, trivial⟩ rfl ?_ ?_
    · refine ⟨fun x G hG hf => ?_, fun x G hG hf => ?_, fun x G hG hf => ?_, fun x G hG hf => ?_, fun x G hG hf => ?_, fun x G hG hf => ?_, fun x G hG hf => ?_, fun x G hG hf => ?_, fun x G hG hf => ?_, fun x G hG hf => ?_, fun x G hG hf => ?_, fun x G hG hf => ?_, fun x G hG hf => ?_, fun x G hG hf => ?_, fun x G hG hf => ?_, fun x G hG hf => ?_, trivial⟩
      all_goals obtain rfl : G = [] := by rcases hG with h | ⟨_, h⟩ <;> exact h
      · (refine j_loads [.int .i64 (kindI t), .int .i64 (numI t), .string (strI t), .slice (adI t) (lsI t).length (cpI t)] rfl rfl rfl (by repeat constructor) ⟨rfl, rfl, rfl, rfl, trivial⟩ rfl ?_; refine j_nil ?_; exact j_endI _ rfl (congrArg (fun l : List Value => Value.agg l.toArray) (cells_is t)).symm (by repeat ((exact .refl))))
      · (obtain ⟨h0, -⟩ := hf; have h0 : x 0 = _ := h0; show J _ ((18, x 0) :: _) _ _; rw [h0]; (refine j_callX rfl rfl (wpart_spec t 0 1 hlm.1 [ItH t] hok) ((by repeat (first | exact .refl | apply Pk.cons | constructor))) rfl (fun v M N h hN => ?_) (fun v M N h hN => ?_); (obtain ⟨⟨t', ht', hk', rfl⟩, rfl⟩ := h; (try simp only [List.nil_append, List.cons_append, List.append_assoc] at hN); subst hN); rotate_left; (obtain ⟨rfl, rfl⟩ := h; (try simp only [List.nil_append, List.cons_append, List.append_assoc] at hN); subst hN); rotate_right))
        rotate_left
        · (repeat' ((refine jd_then_panic ?_)); (refine j_leaveP (M' := Lp) (decC_rec bc be zC 0) (F' := Lp ++ F) (by repeat (first | exact .refl | apply Pk.cons | refine .drop ?_ | constructor)) (fun a1 w hr hw => run_res2 hr rfl rfl rfl (run_loadVar_blk (vs := zcmd) rfl hw (by repeat constructor) rfl ⟨rfl, rfl, rfl, rfl, rfl, rfl, rfl, trivial⟩) (run_loadVar_one rfl hw (by repeat constructor) rfl)) (by repeat (first | exact .refl | refine .drop ?_)) ⟨⟨zC, 4, rfl, by decide⟩, rfl⟩))
        · refine j_nil ?_
          exact j_endI _ rfl ⟨t', ht', hk', rfl⟩ (by repeat (first | exact .refl | apply Pk.cons | constructor))
      · obtain ⟨⟨t', ht', hk', h0⟩, -⟩ := hf
        have h0 : x 1 = _ := h0
        show J _ ((19, x 1) :: _) _ _
        rw [h0]
        (refine j_callX rfl rfl (wsmall_spec t' []) (.refl) rfl (fun v M N h hN => ?_) (fun v M N h hN => ?_); (obtain ⟨⟨n, rfl⟩, rfl⟩ := h; (try simp only [List.nil_append, List.cons_append, List.append_assoc] at hN); subst hN); rotate_left; (obtain ⟨rfl, rfl⟩ := h; (try simp only [List.nil_append, List.cons_append, List.append_assoc] at hN); subst hN); rotate_right)
        rotate_left
        · (repeat' ((refine jd_then_panic ?_)); (refine j_leaveP (M' := Lp) (decC_rec bc be zC 0) (F' := Lp ++ F) (by repeat (first | exact .refl | apply Pk.cons | refine .drop ?_ | constructor)) (fun a1 w hr hw => run_res2 hr rfl rfl rfl (run_loadVar_blk (vs := zcmd) rfl hw (by repeat constructor) rfl ⟨rfl, rfl, rfl, rfl, rfl, rfl, rfl, trivial⟩) (run_loadVar_one rfl hw (by repeat constructor) rfl)) (by repeat (first | exact .refl | refine .drop ?_)) ⟨⟨zC, 4, rfl, by decide⟩, rfl⟩))
        · refine j_nil ?_
          exact j_endI _ rfl ⟨n, rfl⟩ (by repeat ((exact .refl)))
      · (refine j_loads [.int .i64 (kindI t), .int .i64 (numI t), .string (strI t), .slice (adI t) (lsI t).length (cpI t)] rfl rfl rfl (by repeat constructor) ⟨rfl, rfl, rfl, rfl, trivial⟩ rfl ?_; refine j_nil ?_; exact j_endI _ rfl (congrArg (fun l : List Value => Value.agg l.toArray) (cells_is t)).symm (by repeat ((exact .refl))))
      · (obtain ⟨h0, -⟩ := hf; have h0 : x 3 = _ := h0; show J _ ((21, x 3) :: _) _ _; rw [h0]; (refine j_callX rfl rfl (wpart_spec t 1 2 hlm.1 [ItH t] hok) ((by repeat (first | exact .refl | apply Pk.cons | constructor))) rfl (fun v M N h hN => ?_) (fun v M N h hN => ?_); (obtain ⟨⟨t', ht', hk', rfl⟩, rfl⟩ := h; (try simp only [List.nil_append, List.cons_append, List.append_assoc] at hN); subst hN); rotate_left; (obtain ⟨rfl, rfl⟩ := h; (try simp only [List.nil_append, List.cons_append, List.append_assoc] at hN); subst hN); rotate_right))
        rotate_left
        · (repeat' ((refine jd_then_panic ?_)); (refine j_leaveP (M' := Lp) (decC_rec bc be zC 0) (F' := Lp ++ F) (by repeat (first | exact .refl | apply Pk.cons | refine .drop ?_ | constructor)) (fun a1 w hr hw => run_res2 hr rfl rfl rfl (run_loadVar_blk (vs := zcmd) rfl hw (by repeat constructor) rfl ⟨rfl, rfl, rfl, rfl, rfl, rfl, rfl, trivial⟩) (run_loadVar_one rfl hw (by repeat constructor) rfl)) (by repeat (first | exact .refl | refine .drop ?_)) ⟨⟨zC, 4, rfl, by decide⟩, rfl⟩))
        · refine j_nil ?_
          exact j_endI _ rfl ⟨t', ht', hk', rfl⟩ (by repeat (first | exact .refl | apply Pk.cons | constructor))
      · (obtain ⟨⟨t', ht', hk', h0⟩, -⟩ := hf; have h0 : x 4 = _ := h0; show J _ ((22, x 4) :: _) _ _; rw [h0]; refine j_field 2 (by decide +kernel) rfl (by rw [cells_is]; rfl) rfl ?_; refine j_nil ?_; exact j_endI _ rfl ⟨_, rfl⟩ (by repeat ((exact .refl))))
      · (refine j_loads [.int .i64 (kindI t), .int .i64 (numI t), .string (strI t), .slice (adI t) (lsI t).length (cpI t)] rfl rfl rfl (by repeat constructor) ⟨rfl, rfl, rfl, rfl, trivial⟩ rfl ?_; refine j_nil ?_; exact j_endI _ rfl (congrArg (fun l : List Value => Value.agg l.toArray) (cells_is t)).symm (by repeat ((exact .refl))))
      · (obtain ⟨h0, -⟩ := hf; have h0 : x 6 = _ := h0; show J _ ((24, x 6) :: _) _ _; rw [h0]; (refine j_callX rfl rfl (wpart_spec t 2 2 hlm.1 [ItH t] hok) ((by repeat (first | exact .refl | apply Pk.cons | constructor))) rfl (fun v M N h hN => ?_) (fun v M N h hN => ?_); (obtain ⟨⟨t', ht', hk', rfl⟩, rfl⟩ := h; (try simp only [List.nil_append, List.cons_append, List.append_assoc] at hN); subst hN); rotate_left; (obtain ⟨rfl, rfl⟩ := h; (try simp only [List.nil_append, List.cons_append, List.append_assoc] at hN); subst hN); rotate_right))
        rotate_left
        · (repeat' ((refine jd_then_panic ?_)); (refine j_leaveP (M' := Lp) (decC_rec bc be zC 0) (F' := Lp ++ F) (by repeat (first | exact .refl | apply Pk.cons | refine .drop ?_ | constructor)) (fun a1 w hr hw => run_res2 hr rfl rfl rfl (run_loadVar_blk (vs := zcmd) rfl hw (by repeat constructor) rfl ⟨rfl, rfl, rfl, rfl, rfl, rfl, rfl, trivial⟩) (run_loadVar_one rfl hw (by repeat constructor) rfl)) (by repeat (first | exact .refl | refine .drop ?_)) ⟨⟨zC, 4, rfl, by decide⟩, rfl⟩))
        · refine j_nil ?_
          exact j_endI _ rfl ⟨t', ht', hk', rfl⟩ (by repeat (first | exact .refl | apply Pk.cons | constructor))
      · (obtain ⟨⟨t', ht', hk', h0⟩, -⟩ := hf; have h0 : x 7 = _ := h0; show J _ ((25, x 7) :: _) _ _; rw [h0]; refine j_field 2 (by decide +kernel) rfl (by rw [cells_is]; rfl) rfl ?_; refine j_nil ?_; exact j_endI _ rfl ⟨_, rfl⟩ (by repeat ((exact .refl))))
      · (refine j_loads [.int .i64 (kindI t), .int .i64 (numI t), .string (strI t), .slice (adI t) (lsI t).length (cpI t)] rfl rfl rfl (by repeat constructor) ⟨rfl, rfl, rfl, rfl, trivial⟩ rfl ?_; refine j_nil ?_; exact j_endI _ rfl (congrArg (fun l : List Value => Value.agg l.toArray) (cells_is t)).symm (by repeat ((exact .refl))))
      · (obtain ⟨h0, -⟩ := hf; have h0 : x 9 = _ := h0; show J _ ((27, x 9) :: _) _ _; rw [h0]; (refine j_callX rfl rfl (wpart_spec t 3 3 hlm.1 [ItH t] hok) ((by repeat (first | exact .refl | apply Pk.cons | constructor))) rfl (fun v M N h hN => ?_) (fun v M N h hN => ?_); (obtain ⟨⟨t', ht', hk', rfl⟩, rfl⟩ := h; (try simp only [List.nil_append, List.cons_append, List.append_assoc] at hN); subst hN); rotate_left; (obtain ⟨rfl, rfl⟩ := h; (try simp only [List.nil_append, List.cons_append, List.append_assoc] at hN); subst hN); rotate_right))
        rotate_left
        · (repeat' ((refine jd_then_panic ?_)); (refine j_leaveP (M' := Lp) (decC_rec bc be zC 0) (F' := Lp ++ F) (by repeat (first | exact .refl | apply Pk.cons | refine .drop ?_ | constructor)) (fun a1 w hr hw => run_res2 hr rfl rfl rfl (run_loadVar_blk (vs := zcmd) rfl hw (by repeat constructor) rfl ⟨rfl, rfl, rfl, rfl, rfl, rfl, rfl, trivial⟩) (run_loadVar_one rfl hw (by repeat constructor) rfl)) (by repeat (first | exact .refl | refine .drop ?_)) ⟨⟨zC, 4, rfl, by decide⟩, rfl⟩))
        · refine j_nil ?_
          exact j_endI _ rfl ⟨t', ht', hk', rfl⟩ (by repeat (first | exact .refl | apply Pk.cons | constructor))
      · obtain ⟨⟨t', ht', hk', h0⟩, -⟩ := hf
        have h0 : x 10 = _ := h0
        show J _ ((28, x 10) :: _) _ _
        rw [h0]
        (refine j_callX rfl rfl (wvecOf_spec t' (hlm.2 t' (List.mem_of_getElem? ht')) [ItH t] (hok.ok_at ht')) ((by repeat (first | exact .refl | apply Pk.cons | constructor))) rfl (fun v M N h hN => ?_) (fun v M N h hN => ?_); (obtain ⟨⟨a, b', c, rfl⟩, rfl⟩ := h; (try simp only [List.nil_append, List.cons_append, List.append_assoc] at hN); subst hN); rotate_left; (obtain ⟨rfl, rfl⟩ := h; (try simp only [List.nil_append, List.cons_append, List.append_assoc] at hN); subst hN); rotate_right)
        rotate_left
        · (repeat' ((refine jd_then_panic ?_)); (refine j_leaveP (M' := Lp) (decC_rec bc be zC 0) (F' := Lp ++ F) (by repeat (first | exact .refl | apply Pk.cons | refine .drop ?_ | constructor)) (fun a1 w hr hw => run_res2 hr rfl rfl rfl (run_loadVar_blk (vs := zcmd) rfl hw (by repeat constructor) rfl ⟨rfl, rfl, rfl, rfl, rfl, rfl, rfl, trivial⟩) (run_loadVar_one rfl hw (by repeat constructor) rfl)) (by repeat (first | exact .refl | refine .drop ?_)) ⟨⟨zC, 4, rfl, by decide⟩, rfl⟩))
        · refine j_nil ?_
          exact j_endI _ rfl ⟨a, b', c, rfl⟩ (by repeat (first | exact .refl | apply Pk.cons | constructor))
      · (refine j_loads [.int .i64 (kindI t), .int .i64 (numI t), .string (strI t), .slice (adI t) (lsI t).length (cpI t)] rfl rfl rfl (by repeat constructor) ⟨rfl, rfl, rfl, rfl, trivial⟩ rfl ?_; refine j_nil ?_; exact j_endI _ rfl (congrArg (fun l : List Value => Value.agg l.toArray) (cells_is t)).symm (by repeat ((exact .refl))))
      · (obtain ⟨h0, -⟩ := hf; have h0 : x 12 = _ := h0; show J _ ((30, x 12) :: _) _ _; rw [h0]; (refine j_callX rfl rfl (wpart_spec t 4 1 hlm.1 [ItH t] hok) ((by repeat (first | exact .refl | apply Pk.cons | constructor))) rfl (fun v M N h hN => ?_) (fun v M N h hN => ?_); (obtain ⟨⟨t', ht', hk', rfl⟩, rfl⟩ := h; (try simp only [List.nil_append, List.cons_append, List.append_assoc] at hN); subst hN); rotate_left; (obtain ⟨rfl, rfl⟩ := h; (try simp only [List.nil_append, List.cons_append, List.append_assoc] at hN); subst hN); rotate_right))
        rotate_left
        · (repeat' ((refine jd_then_panic ?_)); (refine j_leaveP (M' := Lp) (decC_rec bc be zC 0) (F' := Lp ++ F) (by repeat (first | exact .refl | apply Pk.cons | refine .drop ?_ | constructor)) (fun a1 w hr hw => run_res2 hr rfl rfl rfl (run_loadVar_blk (vs := zcmd) rfl hw (by repeat constructor) rfl ⟨rfl, rfl, rfl, rfl, rfl, rfl, rfl, trivial⟩) (run_loadVar_one rfl hw (by repeat constructor) rfl)) (by repeat (first | exact .refl | refine .drop ?_)) ⟨⟨zC, 4, rfl, by decide⟩, rfl⟩))
        · refine j_nil ?_
          exact j_endI _ rfl ⟨t', ht', hk', rfl⟩ (by repeat (first | exact .refl | apply Pk.cons | constructor))
      · (obtain ⟨⟨t', ht', hk', h0⟩, -⟩ := hf; have h0 : x 13 = _ := h0; show J _ ((31, x 13) :: _) _ _; rw [h0]; refine j_field 1 (by decide +kernel) rfl (by rw [cells_is]; rfl) rfl ?_; refine j_nil ?_; exact j_endI _ rfl ⟨_, rfl⟩ (by repeat ((exact .refl))))
      · obtain ⟨⟨n2, h2⟩, ⟨s5, h5⟩, ⟨s8, h8⟩, ⟨va, vb, vc, h11⟩, ⟨n14, h14⟩, -⟩ := hf
        show J _ ((20, x 2) :: (23, x 5) :: (26, x 8) :: (29, x 11) :: (32, x 14) :: _) _ _
        rw [h2, h5, h8, h11, h14]
        refine j_build rfl (by repeat constructor) rfl ?_
        refine j_nil ?_
        exact j_endI _ rfl ⟨⟨n2, s5, s8, ⟨va, vb, vc⟩, n14⟩, rfl⟩ (by repeat ((exact .refl)))
    · intro x hf
      obtain ⟨-, -, -, -, -, -, -, -, -, -, -, -, -, -, -, ⟨c, h15⟩, -⟩ := hf
      show J _ ((18, x 0) :: (19, x 1) :: (20, x 2) :: (21, x 3) :: (22, x 4) :: (23, x 5) :: (24, x 6) :: (25, x 7) :: (26, x 8) :: (27, x 9) :: (28, x 10) :: (29, x 11) :: (30, x 12) :: (31, x 13) :: (32, x 14) :: (33, x 15) :: _) _ _
      rw [h15]
      repeat' (first | (show J _ _ _ (runS _ _ _ _ (⟨_, _, _, _, _, none⟩ :: _)); (show J _ _ _ (runS _ _ _ _ (⟨_, .store _ _ _, _, _, _, _⟩ :: _)); ((refine j_sets rfl rfl rfl (by rfl) (by repeat constructor) (by repeat constructor) (by rfl) ?_)))) | refine j_nil ?_ | (show J _ _ _ (runT _ _ _ _ _); first | refine j_fork rfl ?_ ?_ | exact j_stop | refine j_done ?_) | refine jd_then ?_ | refine jd_seq ?_ | refine jd_region ?_)
      refine j_loads [.int .i64 (c).op, .string (c).nm, .string (c).oo, .int .i64 (c).v.a, .int .i64 (c).v.b, .int .i64 (c).v.c, .int .i64 (c).n] rfl rfl rfl (by repeat constructor) ⟨rfl, rfl, rfl, rfl, rfl, rfl, rfl, trivial⟩ rfl ?_
      repeat' (fail)
      (refine j_call rfl rfl (wcmd_spec c.op c.nm c.oo c.v.a c.v.b c.v.c c.n []) (.refl) rfl (fun v M N h hN => ?_); obtain ⟨⟨bb, rfl, hbb⟩, rfl⟩ := h; (try simp only [List.nil_append, List.cons_append, List.append_assoc] at hN); subst hN)
      cases bb with
      | false =>
        repeat' (first | (show J _ _ _ (runS _ _ _ _ (⟨_, _, _, _, _, none⟩ :: _)); first | (show J _ _ _ (runS _ _ _ _ (⟨_, .store _ _ _, _, _, _, _⟩ :: _)); (first | refine j_set rfl rfl rfl (by rfl) (by repeat constructor) (by repeat constructor) ?_ | refine j_sets rfl rfl rfl (by rfl) (by repeat constructor) (by repeat constructor) (by rfl) ?_)) | (show J _ _ _ (runS _ _ _ _ (⟨_, .unOp _ _ _, _, _, _, _⟩ :: _)); ((refine j_not_b rfl rfl ?_))) | (show J _ _ _ (runS _ _ _ _ (⟨_, .build _ _, _, _, _, _⟩ :: _)); refine j_build rfl (by repeat constructor) rfl ?_)) | refine j_nil ?_ | refine jd_then ?_ | refine jd_seq ?_ | refine jd_region ?_ | refine jd_ret ?_ | refine jd_then_ret ?_ | (show J _ _ _ (wd _ (Code.wp _ (.cond _ _ _) _)); (refine jd_true rfl ?_)))
        (refine j_leave (M' := Lp) (decC_idle bc be) (F' := blk be 38 [.int .i64 4] :: blk bc 44 [.int .i64 (zC).op, .string (zC).nm, .string (zC).oo, .int .i64 (zC).v.a, .int .i64 (zC).v.b, .int .i64 (zC).v.c, .int .i64 (zC).n] :: (Lp ++ F)) (by repeat (first | exact .refl | apply Pk.cons | refine .drop ?_ | constructor)) (fun a1 w hr hw => run_res2 hr rfl rfl rfl (run_loadVar_blk (vs := [.int .i64 (zC).op, .string (zC).nm, .string (zC).oo, .int .i64 (zC).v.a, .int .i64 (zC).v.b, .int .i64 (zC).v.c, .int .i64 (zC).n]) rfl hw (by repeat constructor) rfl ⟨rfl, rfl, rfl, rfl, rfl, rfl, rfl, trivial⟩) (run_loadVar_one rfl hw (by repeat constructor) rfl)) (M := []) (by repeat (first | exact .refl | refine .drop ?_)) ⟨⟨zC, 4, rfl, by decide⟩, rfl⟩)
      | true =>
        repeat' (first | (show J _ _ _ (runS _ _ _ _ (⟨_, _, _, _, _, none⟩ :: _)); (show J _ _ _ (runS _ _ _ _ (⟨_, .unOp _ _ _, _, _, _, _⟩ :: _)); ((refine j_not_b rfl rfl ?_)))) | refine j_nil ?_ | refine jd_then ?_ | refine jd_seq ?_ | refine jd_region ?_ | (show J _ _ _ (wd _ (Code.wp _ (.cond _ _ _) _)); (refine jd_false rfl ?_)) | refine jd_skip ?_)
        refine j_loads [.int .i64 (c).op, .string (c).nm, .string (c).oo, .int .i64 (c).v.a, .int .i64 (c).v.b, .int .i64 (c).v.c, .int .i64 (c).n] rfl rfl rfl (by repeat constructor) ⟨rfl, rfl, rfl, rfl, rfl, rfl, rfl, trivial⟩ rfl ?_
        repeat' (first | (show J _ _ _ (runS _ _ _ _ (⟨_, _, _, _, _, none⟩ :: _)); (show J _ _ _ (runS _ _ _ _ (⟨_, .store _ _ _, _, _, _, _⟩ :: _)); (first | refine j_set rfl rfl rfl (by rfl) (by repeat constructor) (by repeat constructor) ?_ | refine j_sets rfl rfl rfl (by rfl) (by repeat constructor) (by repeat constructor) (by rfl) ?_))) | refine j_nil ?_ | refine jd_then ?_ | refine jd_ret ?_)
        (refine j_leave (M' := Lp) (decC_idle bc be) (F' := blk be 38 [.int .i64 0] :: blk bc 44 [.int .i64 (c).op, .string (c).nm, .string (c).oo, .int .i64 (c).v.a, .int .i64 (c).v.b, .int .i64 (c).v.c, .int .i64 (c).n] :: (Lp ++ F)) (by repeat (first | exact .refl | apply Pk.cons | refine .drop ?_ | constructor)) (fun a1 w hr hw => run_res2 hr rfl rfl rfl (run_loadVar_blk (vs := [.int .i64 (c).op, .string (c).nm, .string (c).oo, .int .i64 (c).v.a, .int .i64 (c).v.b, .int .i64 (c).v.c, .int .i64 (c).n]) rfl hw (by repeat constructor) rfl ⟨rfl, rfl, rfl, rfl, rfl, rfl, rfl, trivial⟩) (run_loadVar_one rfl hw (by repeat constructor) rfl)) (M := []) (by repeat (first | exact .refl | refine .drop ?_)) ⟨⟨c, 0, rfl, fun _ => hbb rfl⟩, rfl⟩)
end Go.Proofs.Ytnmfpgfgjjmfhaa
end

section
set_option linter.unusedVariables false
set_option linter.unusedSimpArgs false
set_option maxRecDepth 100000
namespace Go.Proofs.Ytnmfpgfgjjmfhaa
open Go
attribute [local irreducible] Exit.then Exit.inBlock Code.wp runS bodyPost postF J runT cutQ cutR Tr Sat blk Sl Old Star Ex Pu
attribute [local irreducible] ItH ItHL wd

structure Or where
  k : Int
  i : Int
  s : Int
  n : Int
  c : Cm
instance : Enc Or := ⟨fun ⟨k, i, s, n, c⟩ => [.int .i64 k, .int .i64 i, .int .i64 s, .int .i64 n, .int .i64 c.op, .string c.nm, .string c.oo, .int .i64 c.v.a, .int .i64 c.v.b, .int .i64 c.v.c, .int .i64 c.n], 11, fun _ => rfl, by decide, fun x u hu => by simp at hu; rcases hu with rfl | rfl | rfl | rfl | rfl | rfl | rfl | rfl | rfl | rfl | rfl <;> rfl⟩
def okM (o : Or) : Prop := o.i = 0 ∧ o.s = 0 ∧ o.c = zC ∧ 1 ≤ o.n ∧ o.n ≤ 127
theorem wmay4_spec (i s n : Int) (c : Cm) (Lp : List HP) : Tr Try.prog 29 [.agg (Enc.enc (Or.mk 4 i s n c)).toArray] Lp (fun v M => (∃ b, v = .bool b ∧ ((4 : Int) = 4 → (b = true ↔ okM ⟨4, i, s, n, c⟩))) ∧ M = Lp) := by
  rw [show Enc.enc (Or.mk 4 i s n c) = [.int .i64 4, .int .i64 i, .int .i64 s, .int .i64 n, .int .i64 c.op, .string c.nm, .string c.oo, .int .i64 c.v.a, .int .i64 c.v.b, .int .i64 c.v.c, .int .i64 c.n] from rfl]
  refine tr_enter Try.func29 rfl Try.ntmps29 rfl (fun F => ?_)
  repeat' (first | (show J _ _ _ (runS _ _ _ _ (⟨_, _, _, _, _, none⟩ :: _)); first | (show J _ _ _ (runS _ _ _ _ (⟨_, .move _, _, _, _, _⟩ :: _)); refine j_move rfl rfl ?_) | (show J _ _ _ (runS _ _ _ _ (⟨_, .load _ _, _, _, _, _⟩ :: _)); ((refine j_load rfl rfl (by repeat constructor) rfl rfl ?_))) | (show J _ _ _ (runS _ _ _ _ (⟨_, .fieldAddr _ _ _, _, _, _, _⟩ :: _)); refine j_fieldAddr rfl rfl ?_) | (show J _ _ _ (runS _ _ _ _ (⟨_, .binOp _ _ _ _ _, _, _, _, _⟩ :: _)); ((refine j_bin rfl rfl rfl rfl ?_))) | (show J _ _ _ (runS _ _ _ _ (⟨_, .assign _, _, _, _, _⟩ :: _)); refine j_assign rfl rfl ?_) | (show J _ _ _ (runS _ _ _ _ (⟨_, .pick _ _ _, _, _, _, _⟩ :: _)); (first | refine j_pick_t rfl rfl rfl ?_ | refine j_pick_f rfl rfl rfl ?_)) | (show J _ _ _ (runS _ _ _ _ (⟨_, .unOp _ _ _, _, _, _, _⟩ :: _)); ((refine j_not rfl rfl ?_))) | (show J _ _ _ (runS _ _ _ _ (⟨_, .build _ _, _, _, _, _⟩ :: _)); refine j_build rfl (by repeat constructor) rfl ?_) | (show J _ _ _ (runS _ _ _ _ (⟨_, .box _ _, _, _, _, _⟩ :: _)); refine j_box rfl rfl (fun b => ?_))) | refine j_nil ?_ | (show J _ _ _ (runS _ _ _ _ (⟨_, _, _, _, _, some _⟩ :: _)); first | refine j_gno_u rfl rfl rfl rfl ?_ | refine j_gun_u rfl rfl rfl ?_ | refine j_gyes rfl rfl rfl ?_ | refine j_gsplit_dec rfl rfl (fun h => ?_) (fun h => ?_)) | (show J _ _ _ (Code.wp _ _ _); first | refine j_seq ?_ | refine j_region ?_ | refine j_block ?_ | (show J _ _ _ (Code.wp _ (.cond _ _ _) _); first | refine j_true rfl ?_ | refine j_false rfl ?_ | refine j_bool rfl (fun h => ?_) (fun h => ?_)) | refine j_ret ?_ | refine j_skip ?_) | refine j_then ?_ | refine j_then_ret ?_ | refine j_inb_ret ?_ | (refine j_call rfl rfl (stells_spec 4 []) (.refl) rfl (fun v M N h hN => ?_); obtain ⟨rfl, rfl⟩ := h; (try simp only [List.nil_append, List.cons_append, List.append_assoc] at hN); subst hN) | (show J _ _ _ (runS _ _ _ _ (⟨_, .load 44 _, _, _, _, _⟩ :: _)); refine j_loads [.int .i64 c.op, .string c.nm, .string c.oo, .int .i64 c.v.a, .int .i64 c.v.b, .int .i64 c.v.c, .int .i64 c.n] rfl rfl rfl (by repeat constructor) ⟨rfl, rfl, rfl, rfl, rfl, rfl, rfl, trivial⟩ rfl ?_) | (show J _ _ _ (runS _ _ _ _ (⟨_, .binOp .neq 44 _ _ _, _, _, _, _⟩ :: _)); refine j_neS (α := Cm) (p := c) (q := zC) rfl rfl rfl (fun b0 hb0 => ?_)) | (refine j_call rfl rfl (swithin_spec _ _ _ []) (.refl) rfl (fun v M N h hN => ?_); obtain ⟨rfl, rfl⟩ := h; (try simp only [List.nil_append, List.cons_append, List.append_assoc] at hN); subst hN))
  · refine j_ret1 (M := Lp) rfl rfl (by repeat (first | exact .refl | refine .drop ?_)) ⟨⟨false, rfl, fun _ => ⟨fun h => (by cases h), fun hm => absurd hm.1 h⟩⟩, rfl⟩
  · refine j_ret1 (M := Lp) rfl rfl (by repeat (first | exact .refl | refine .drop ?_)) ⟨⟨false, rfl, fun _ => ⟨fun h => (by cases h), fun hm => absurd hm.2.1 h⟩⟩, rfl⟩
  · refine j_ret1 (M := Lp) rfl rfl (by repeat (first | exact .refl | refine .drop ?_)) ⟨⟨false, rfl, fun _ => ⟨fun h => (by cases h), fun hm => absurd hm.2.2.1 (hb0.1 h)⟩⟩, rfl⟩
  · have hc : c = zC := Classical.byContradiction fun hn => by rw [hb0.2 hn] at h; cases h
    refine j_ret1 (M := Lp) rfl rfl (by repeat (first | exact .refl | refine .drop ?_)) ⟨⟨_, rfl, fun _ => ⟨fun h => ?_, fun hm => decide_eq_true hm.2.2.2⟩⟩, rfl⟩
    have := of_decide_eq_true h
    exact ⟨by show i = 0; omega, by show s = 0; omega, hc, this⟩
theorem wmay1_spec (i s n : Int) (c : Cm) (Lp : List HP) : Tr Try.prog 29 [.agg (Enc.enc (Or.mk 1 i s n c)).toArray] Lp (fun v M => (∃ b, v = .bool b ∧ ((1 : Int) = 4 → (b = true ↔ okM ⟨1, i, s, n, c⟩))) ∧ M = Lp) := by
  rw [show Enc.enc (Or.mk 1 i s n c) = [.int .i64 1, .int .i64 i, .int .i64 s, .int .i64 n, .int .i64 c.op, .string c.nm, .string c.oo, .int .i64 c.v.a, .int .i64 c.v.b, .int .i64 c.v.c, .int .i64 c.n] from rfl]
  refine tr_enter Try.func29 rfl Try.ntmps29 rfl (fun F => ?_)
  repeat' (first | (show J _ _ _ (runS _ _ _ _ (⟨_, _, _, _, _, none⟩ :: _)); first | (show J _ _ _ (runS _ _ _ _ (⟨_, .move _, _, _, _, _⟩ :: _)); refine j_move rfl rfl ?_) | (show J _ _ _ (runS _ _ _ _ (⟨_, .load _ _, _, _, _, _⟩ :: _)); ((refine j_load rfl rfl (by repeat constructor) rfl rfl ?_))) | (show J _ _ _ (runS _ _ _ _ (⟨_, .fieldAddr _ _ _, _, _, _, _⟩ :: _)); refine j_fieldAddr rfl rfl ?_) | (show J _ _ _ (runS _ _ _ _ (⟨_, .binOp _ _ _ _ _, _, _, _, _⟩ :: _)); ((refine j_bin rfl rfl rfl rfl ?_))) | (show J _ _ _ (runS _ _ _ _ (⟨_, .assign _, _, _, _, _⟩ :: _)); refine j_assign rfl rfl ?_) | (show J _ _ _ (runS _ _ _ _ (⟨_, .pick _ _ _, _, _, _, _⟩ :: _)); (first | refine j_pick_t rfl rfl rfl ?_ | refine j_pick_f rfl rfl rfl ?_)) | (show J _ _ _ (runS _ _ _ _ (⟨_, .unOp _ _ _, _, _, _, _⟩ :: _)); ((refine j_not rfl rfl ?_))) | (show J _ _ _ (runS _ _ _ _ (⟨_, .build _ _, _, _, _, _⟩ :: _)); refine j_build rfl (by repeat constructor) rfl ?_) | (show J _ _ _ (runS _ _ _ _ (⟨_, .box _ _, _, _, _, _⟩ :: _)); refine j_box rfl rfl (fun b => ?_))) | refine j_nil ?_ | (show J _ _ _ (runS _ _ _ _ (⟨_, _, _, _, _, some _⟩ :: _)); first | refine j_gno_u rfl rfl rfl rfl ?_ | refine j_gun_u rfl rfl rfl ?_ | refine j_gyes rfl rfl rfl ?_ | refine j_gsplit_dec rfl rfl (fun h => ?_) (fun h => ?_)) | (show J _ _ _ (Code.wp _ _ _); first | refine j_seq ?_ | refine j_region ?_ | refine j_block ?_ | (show J _ _ _ (Code.wp _ (.cond _ _ _) _); first | refine j_true rfl ?_ | refine j_false rfl ?_ | refine j_bool rfl (fun h => ?_) (fun h => ?_)) | refine j_ret ?_ | refine j_skip ?_) | refine j_then ?_ | refine j_then_ret ?_ | refine j_inb_ret ?_ | (refine j_call rfl rfl (stells_spec 1 []) (.refl) rfl (fun v M N h hN => ?_); obtain ⟨rfl, rfl⟩ := h; (try simp only [List.nil_append, List.cons_append, List.append_assoc] at hN); subst hN) | (show J _ _ _ (runS _ _ _ _ (⟨_, .load 44 _, _, _, _, _⟩ :: _)); refine j_loads [.int .i64 c.op, .string c.nm, .string c.oo, .int .i64 c.v.a, .int .i64 c.v.b, .int .i64 c.v.c, .int .i64 c.n] rfl rfl rfl (by repeat constructor) ⟨rfl, rfl, rfl, rfl, rfl, rfl, rfl, trivial⟩ rfl ?_) | (show J _ _ _ (runS _ _ _ _ (⟨_, .binOp .neq 44 _ _ _, _, _, _, _⟩ :: _)); refine j_neS (α := Cm) (p := c) (q := zC) rfl rfl rfl (fun b0 hb0 => ?_)) | (refine j_call rfl rfl (swithin_spec _ _ _ []) (.refl) rfl (fun v M N h hN => ?_); obtain ⟨rfl, rfl⟩ := h; (try simp only [List.nil_append, List.cons_append, List.append_assoc] at hN); subst hN))
  all_goals exact j_ret1 (M := Lp) rfl rfl (by repeat (first | exact .refl | refine .drop ?_)) ⟨⟨_, rfl, fun h => absurd h (by decide)⟩, rfl⟩
theorem wmay2_spec (i s n : Int) (c : Cm) (Lp : List HP) : Tr Try.prog 29 [.agg (Enc.enc (Or.mk 2 i s n c)).toArray] Lp (fun v M => (∃ b, v = .bool b ∧ ((2 : Int) = 4 → (b = true ↔ okM ⟨2, i, s, n, c⟩))) ∧ M = Lp) := by
  rw [show Enc.enc (Or.mk 2 i s n c) = [.int .i64 2, .int .i64 i, .int .i64 s, .int .i64 n, .int .i64 c.op, .string c.nm, .string c.oo, .int .i64 c.v.a, .int .i64 c.v.b, .int .i64 c.v.c, .int .i64 c.n] from rfl]
  refine tr_enter Try.func29 rfl Try.ntmps29 rfl (fun F => ?_)
  repeat' (first | (show J _ _ _ (runS _ _ _ _ (⟨_, _, _, _, _, none⟩ :: _)); first | (show J _ _ _ (runS _ _ _ _ (⟨_, .move _, _, _, _, _⟩ :: _)); refine j_move rfl rfl ?_) | (show J _ _ _ (runS _ _ _ _ (⟨_, .load _ _, _, _, _, _⟩ :: _)); ((refine j_load rfl rfl (by repeat constructor) rfl rfl ?_))) | (show J _ _ _ (runS _ _ _ _ (⟨_, .fieldAddr _ _ _, _, _, _, _⟩ :: _)); refine j_fieldAddr rfl rfl ?_) | (show J _ _ _ (runS _ _ _ _ (⟨_, .binOp _ _ _ _ _, _, _, _, _⟩ :: _)); ((refine j_bin rfl rfl rfl rfl ?_))) | (show J _ _ _ (runS _ _ _ _ (⟨_, .assign _, _, _, _, _⟩ :: _)); refine j_assign rfl rfl ?_) | (show J _ _ _ (runS _ _ _ _ (⟨_, .pick _ _ _, _, _, _, _⟩ :: _)); (first | refine j_pick_t rfl rfl rfl ?_ | refine j_pick_f rfl rfl rfl ?_)) | (show J _ _ _ (runS _ _ _ _ (⟨_, .unOp _ _ _, _, _, _, _⟩ :: _)); ((refine j_not rfl rfl ?_))) | (show J _ _ _ (runS _ _ _ _ (⟨_, .box _ _, _, _, _, _⟩ :: _)); refine j_box rfl rfl (fun b => ?_))) | refine j_nil ?_ | (show J _ _ _ (runS _ _ _ _ (⟨_, _, _, _, _, some _⟩ :: _)); first | refine j_gno_u rfl rfl rfl rfl ?_ | refine j_gun_u rfl rfl rfl ?_ | refine j_gyes rfl rfl rfl ?_ | refine j_gsplit_dec rfl rfl (fun h => ?_) (fun h => ?_)) | (show J _ _ _ (Code.wp _ _ _); first | refine j_seq ?_ | refine j_region ?_ | refine j_block ?_ | (show J _ _ _ (Code.wp _ (.cond _ _ _) _); (refine j_false rfl ?_)) | refine j_ret ?_ | refine j_skip ?_) | refine j_then ?_ | refine j_inb ?_ | (show J _ _ _ (runS _ _ _ _ (⟨_, .load 44 _, _, _, _, _⟩ :: _)); refine j_loads [.int .i64 c.op, .string c.nm, .string c.oo, .int .i64 c.v.a, .int .i64 c.v.b, .int .i64 c.v.c, .int .i64 c.n] rfl rfl rfl (by repeat constructor) ⟨rfl, rfl, rfl, rfl, rfl, rfl, rfl, trivial⟩ rfl ?_) | (refine j_call rfl rfl (swithin_spec _ _ _ []) (.refl) rfl (fun v M N h hN => ?_); obtain ⟨rfl, rfl⟩ := h; (try simp only [List.nil_append, List.cons_append, List.append_assoc] at hN); subst hN) | (refine j_call rfl rfl (wcmd_spec _ _ _ _ _ _ _ []) (.refl) rfl (fun v M N h hN => ?_); obtain ⟨⟨b1, rfl, -⟩, rfl⟩ := h; (try simp only [List.nil_append, List.cons_append, List.append_assoc] at hN); subst hN))
  all_goals exact j_ret1 (M := Lp) rfl rfl (by repeat (first | exact .refl | refine .drop ?_)) ⟨⟨_, rfl, fun h => absurd h (by decide)⟩, rfl⟩
theorem wmay3_spec (i s n : Int) (c : Cm) (Lp : List HP) : Tr Try.prog 29 [.agg (Enc.enc (Or.mk 3 i s n c)).toArray] Lp (fun v M => (∃ b, v = .bool b ∧ ((3 : Int) = 4 → (b = true ↔ okM ⟨3, i, s, n, c⟩))) ∧ M = Lp) := by
  rw [show Enc.enc (Or.mk 3 i s n c) = [.int .i64 3, .int .i64 i, .int .i64 s, .int .i64 n, .int .i64 c.op, .string c.nm, .string c.oo, .int .i64 c.v.a, .int .i64 c.v.b, .int .i64 c.v.c, .int .i64 c.n] from rfl]
  refine tr_enter Try.func29 rfl Try.ntmps29 rfl (fun F => ?_)
  repeat' (first | (show J _ _ _ (runS _ _ _ _ (⟨_, _, _, _, _, none⟩ :: _)); first | (show J _ _ _ (runS _ _ _ _ (⟨_, .move _, _, _, _, _⟩ :: _)); refine j_move rfl rfl ?_) | (show J _ _ _ (runS _ _ _ _ (⟨_, .load _ _, _, _, _, _⟩ :: _)); ((refine j_load rfl rfl (by repeat constructor) rfl rfl ?_))) | (show J _ _ _ (runS _ _ _ _ (⟨_, .fieldAddr _ _ _, _, _, _, _⟩ :: _)); refine j_fieldAddr rfl rfl ?_) | (show J _ _ _ (runS _ _ _ _ (⟨_, .binOp _ _ _ _ _, _, _, _, _⟩ :: _)); ((refine j_bin rfl rfl rfl rfl ?_))) | (show J _ _ _ (runS _ _ _ _ (⟨_, .assign _, _, _, _, _⟩ :: _)); refine j_assign rfl rfl ?_) | (show J _ _ _ (runS _ _ _ _ (⟨_, .pick _ _ _, _, _, _, _⟩ :: _)); (first | refine j_pick_t rfl rfl rfl ?_ | refine j_pick_f rfl rfl rfl ?_)) | (show J _ _ _ (runS _ _ _ _ (⟨_, .unOp _ _ _, _, _, _, _⟩ :: _)); ((refine j_not rfl rfl ?_))) | (show J _ _ _ (runS _ _ _ _ (⟨_, .build _ _, _, _, _, _⟩ :: _)); refine j_build rfl (by repeat constructor) rfl ?_) | (show J _ _ _ (runS _ _ _ _ (⟨_, .box _ _, _, _, _, _⟩ :: _)); refine j_box rfl rfl (fun b => ?_))) | refine j_nil ?_ | (show J _ _ _ (runS _ _ _ _ (⟨_, _, _, _, _, some _⟩ :: _)); first | refine j_gno_u rfl rfl rfl rfl ?_ | refine j_gun_u rfl rfl rfl ?_ | refine j_gyes rfl rfl rfl ?_ | refine j_gsplit_dec rfl rfl (fun h => ?_) (fun h => ?_)) | (show J _ _ _ (Code.wp _ _ _); first | refine j_seq ?_ | refine j_region ?_ | refine j_block ?_ | (show J _ _ _ (Code.wp _ (.cond _ _ _) _); first | refine j_true rfl ?_ | refine j_false rfl ?_ | refine j_bool rfl (fun h => ?_) (fun h => ?_)) | refine j_ret ?_ | refine j_skip ?_) | refine j_then ?_ | refine j_then_ret ?_ | refine j_inb_ret ?_ | (refine j_call rfl rfl (stells_spec 3 []) (.refl) rfl (fun v M N h hN => ?_); obtain ⟨rfl, rfl⟩ := h; (try simp only [List.nil_append, List.cons_append, List.append_assoc] at hN); subst hN) | (show J _ _ _ (runS _ _ _ _ (⟨_, .load 44 _, _, _, _, _⟩ :: _)); refine j_loads [.int .i64 c.op, .string c.nm, .string c.oo, .int .i64 c.v.a, .int .i64 c.v.b, .int .i64 c.v.c, .int .i64 c.n] rfl rfl rfl (by repeat constructor) ⟨rfl, rfl, rfl, rfl, rfl, rfl, rfl, trivial⟩ rfl ?_) | (show J _ _ _ (runS _ _ _ _ (⟨_, .binOp .neq 44 _ _ _, _, _, _, _⟩ :: _)); refine j_neS (α := Cm) (p := c) (q := zC) rfl rfl rfl (fun b0 hb0 => ?_)) | (refine j_call rfl rfl (swithin_spec _ _ _ []) (.refl) rfl (fun v M N h hN => ?_); obtain ⟨rfl, rfl⟩ := h; (try simp only [List.nil_append, List.cons_append, List.append_assoc] at hN); subst hN))
  all_goals exact j_ret1 (M := Lp) rfl rfl (by repeat (first | exact .refl | refine .drop ?_)) ⟨⟨_, rfl, fun h => absurd h (by decide)⟩, rfl⟩
theorem wmay5_spec (i s n : Int) (c : Cm) (Lp : List HP) : Tr Try.prog 29 [.agg (Enc.enc (Or.mk 5 i s n c)).toArray] Lp (fun v M => (∃ b, v = .bool b ∧ ((5 : Int) = 4 → (b = true ↔ okM ⟨5, i, s, n, c⟩))) ∧ M = Lp) := by
  rw [show Enc.enc (Or.mk 5 i s n c) = [.int .i64 5, .int .i64 i, .int .i64 s, .int .i64 n, .int .i64 c.op, .string c.nm, .string c.oo, .int .i64 c.v.a, .int .i64 c.v.b, .int .i64 c.v.c, .int .i64 c.n] from rfl]
  refine tr_enter Try.func29 rfl Try.ntmps29 rfl (fun F => ?_)
  repeat' (first | (show J _ _ _ (runS _ _ _ _ (⟨_, _, _, _, _, none⟩ :: _)); first | (show J _ _ _ (runS _ _ _ _ (⟨_, .move _, _, _, _, _⟩ :: _)); refine j_move rfl rfl ?_) | (show J _ _ _ (runS _ _ _ _ (⟨_, .load _ _, _, _, _, _⟩ :: _)); ((refine j_load rfl rfl (by repeat constructor) rfl rfl ?_))) | (show J _ _ _ (runS _ _ _ _ (⟨_, .fieldAddr _ _ _, _, _, _, _⟩ :: _)); refine j_fieldAddr rfl rfl ?_) | (show J _ _ _ (runS _ _ _ _ (⟨_, .binOp _ _ _ _ _, _, _, _, _⟩ :: _)); ((refine j_bin rfl rfl rfl rfl ?_))) | (show J _ _ _ (runS _ _ _ _ (⟨_, .assign _, _, _, _, _⟩ :: _)); refine j_assign rfl rfl ?_) | (show J _ _ _ (runS _ _ _ _ (⟨_, .pick _ _ _, _, _, _, _⟩ :: _)); (first | refine j_pick_t rfl rfl rfl ?_ | refine j_pick_f rfl rfl rfl ?_)) | (show J _ _ _ (runS _ _ _ _ (⟨_, .unOp _ _ _, _, _, _, _⟩ :: _)); ((refine j_not rfl rfl ?_))) | (show J _ _ _ (runS _ _ _ _ (⟨_, .box _ _, _, _, _, _⟩ :: _)); refine j_box rfl rfl (fun b => ?_))) | refine j_nil ?_ | (show J _ _ _ (runS _ _ _ _ (⟨_, _, _, _, _, some _⟩ :: _)); first | refine j_gno_u rfl rfl rfl rfl ?_ | refine j_gun_u rfl rfl rfl ?_ | refine j_gyes rfl rfl rfl ?_ | refine j_gsplit_dec rfl rfl (fun h => ?_) (fun h => ?_)) | (show J _ _ _ (Code.wp _ _ _); first | refine j_seq ?_ | refine j_region ?_ | refine j_block ?_ | (show J _ _ _ (Code.wp _ (.cond _ _ _) _); first | refine j_true rfl ?_ | refine j_false rfl ?_) | refine j_ret ?_ | refine j_skip ?_) | refine j_then ?_ | refine j_then_ret ?_ | refine j_inb_ret ?_ | (refine j_call rfl rfl (stells_spec 5 []) (.refl) rfl (fun v M N h hN => ?_); obtain ⟨rfl, rfl⟩ := h; (try simp only [List.nil_append, List.cons_append, List.append_assoc] at hN); subst hN) | (show J _ _ _ (runS _ _ _ _ (⟨_, .load 44 _, _, _, _, _⟩ :: _)); refine j_loads [.int .i64 c.op, .string c.nm, .string c.oo, .int .i64 c.v.a, .int .i64 c.v.b, .int .i64 c.v.c, .int .i64 c.n] rfl rfl rfl (by repeat constructor) ⟨rfl, rfl, rfl, rfl, rfl, rfl, rfl, trivial⟩ rfl ?_) | (refine j_call rfl rfl (wcmd_spec _ _ _ _ _ _ _ []) (.refl) rfl (fun v M N h hN => ?_); obtain ⟨⟨b1, rfl, -⟩, rfl⟩ := h; (try simp only [List.nil_append, List.cons_append, List.append_assoc] at hN); subst hN))
  all_goals exact j_ret1 (M := Lp) rfl rfl (by repeat (first | exact .refl | refine .drop ?_)) ⟨⟨_, rfl, fun h => absurd h (by decide)⟩, rfl⟩
theorem wmay_spec (o : Or) (hk : 1 ≤ o.k ∧ o.k ≤ 5) (Lp : List HP) : Tr Try.prog 29 [.agg (Enc.enc o).toArray] Lp (fun v M => (∃ b, v = .bool b ∧ (o.k = 4 → (b = true ↔ okM o))) ∧ M = Lp) := by
  obtain ⟨k, i, s, n, c⟩ := o
  dsimp only at hk ⊢
  obtain rfl | rfl | rfl | rfl | rfl : k = 1 ∨ k = 2 ∨ k = 3 ∨ k = 4 ∨ k = 5 := by omega
  · exact wmay1_spec i s n c Lp
  · exact wmay2_spec i s n c Lp
  · exact wmay3_spec i s n c Lp
  · exact wmay4_spec i s n c Lp
  · exact wmay5_spec i s n c Lp
end Go.Proofs.Ytnmfpgfgjjmfhaa
end

section
set_option linter.unusedVariables false
set_option linter.unusedSimpArgs false
set_option maxRecDepth 100000
namespace Go.Proofs.Ytnmfpgfgjjmfhaa
open Go
attribute [local irreducible] Exit.then Exit.inBlock Code.wp runS bodyPost postF J runT cutQ cutR Tr Sat blk Sl Old Star Ex Pu
attribute [local irreducible] ItH ItHL wd

def decV : Va → Option Int
  | .lst [.num k, .num i, .num s, .num n, .txt x] => if k = 4 ∧ i = 0 ∧ s = 0 ∧ 1 ≤ n ∧ n ≤ 127 ∧ x = ⟨#[]⟩ then some n else none
  | _ => none
/-- the members that data tells -/
def decO (d : ByteArray) : Option Int := match itemP 12 4096 d.data.toList with
  | some (v, _, []) => decV v
  | _ => none
theorem decO_of {d : ByteArray} {v : Va} {l : Nat} (h : itemP 12 4096 d.data.toList = some (v, l, [])) : decO d = decV v := by
  unfold decO; rw [h]
theorem decO_none {d : ByteArray} (h : ∀ v l, itemP 12 4096 d.data.toList ≠ some (v, l, [])) : decO d = none := by
  unfold decO
  split
  · rename_i v l he
    exact absurd he (h v l)
  · rfl
theorem kind_num {t : IA} (h : kindI t = 1) : plI t = .num (numI t) := by cases t <;> simp_all [kindI, plI, numI]
theorem kind_txt {t : IA} (h : kindI t = 2) : plI t = .txt (strI t) := by cases t <;> simp_all [kindI, plI, strI]
theorem kind_lst {t : IA} (h : kindI t = 3) : plI t = .lst (plIL (lsI t)) := by cases t <;> simp_all [kindI, plI, lsI]
theorem plI_num {t : IA} {n : Int} (h : plI t = .num n) : kindI t = 1 := by cases t <;> simp_all [kindI, plI]
theorem plI_txt {t : IA} {n : ByteArray} (h : plI t = .txt n) : kindI t = 2 := by cases t <;> simp_all [kindI, plI]
theorem list5' {α : Type} {l : List α} (h : l.length = 5) : ∃ a b c d e, l = [a, b, c, d, e] := by
  match l, h with
  | [a, b, c, d, e], _ => exact ⟨a, b, c, d, e, rfl⟩
/-- what isn't so formed tells none -/
theorem decV_form {t : IA} (h : decV (plI t) ≠ none) : kindI t = 3 ∧ ∃ t0 t1 t2 t3 t4, lsI t = [t0, t1, t2, t3, t4] ∧ kindI t0 = 1 ∧ kindI t1 = 1 ∧ kindI t2 = 1 ∧ kindI t3 = 1 ∧ kindI t4 = 2 := by
  cases t with
  | num n a c => simp [plI, decV] at h
  | txt n a c => simp [plI, decV] at h
  | lst a c l =>
    refine ⟨rfl, ?_⟩
    simp only [plI] at h
    have hl : (plIL l).length = 5 := by
      refine Classical.byContradiction fun hn => h ?_
      unfold decV
      split
      · rename_i he
        simp only [Va.lst.injEq] at he
        rw [he] at hn
        simp at hn
      · rfl
    rw [plIL_len] at hl
    obtain ⟨t0, t1, t2, t3, t4, rfl⟩ := list5' hl
    refine ⟨t0, t1, t2, t3, t4, rfl, ?_⟩
    simp only [plIL] at h
    unfold decV at h
    split at h
    · rename_i he
      simp only [Va.lst.injEq, List.cons.injEq, and_true] at he
      exact ⟨plI_num he.1, plI_num he.2.1, plI_num he.2.2.1, plI_num he.2.2.2.1, plI_txt he.2.2.2.2⟩
    · exact absurd rfl h
theorem decV_is {t t0 t1 t2 t3 t4 : IA} (hk : kindI t = 3) (hl : lsI t = [t0, t1, t2, t3, t4]) (k0 : kindI t0 = 1) (k1 : kindI t1 = 1) (k2 : kindI t2 = 1) (k3 : kindI t3 = 1) (k4 : kindI t4 = 2) :
    decV (plI t) = if numI t0 = 4 ∧ numI t1 = 0 ∧ numI t2 = 0 ∧ 1 ≤ numI t3 ∧ numI t3 ≤ 127 ∧ strI t4 = ⟨#[]⟩ then some (numI t3) else none := by
  rw [kind_lst hk, hl]
  simp only [plIL, kind_num k0, kind_num k1, kind_num k2, kind_num k3, kind_txt k4]
  rfl

theorem sees_cap {M : List HP} {t : IA} (h : At M (ItH t)) (hk : kindI t = 3) : Sees M (fun w => (lsI t).length ≤ cpI t ∧ cpI t ≤ maxLen) := by
  cases t with
  | num n a c => simp [kindI] at hk
  | txt n a c => simp [kindI] at hk
  | lst a c l => exact sees_itlen h
theorem wdecS (d : ByteArray) : DecS d (decO d) := by
  intro Lp
  refine tr_enter Try.func27 rfl Try.ntmps27 rfl (fun F => ?_)
  repeat' (first | (show J _ _ _ (runS _ _ _ _ (⟨_, _, _, _, _, none⟩ :: _)); first | (show J _ _ _ (runS _ _ _ _ (⟨_, .move _, _, _, _, _⟩ :: _)); refine j_move rfl rfl ?_) | (show J _ _ _ (runS _ _ _ _ (⟨_, .binOp _ _ _ _ _, _, _, _, _⟩ :: _)); ((refine j_eqstr rfl rfl rfl ?_))) | (show J _ _ _ (runS _ _ _ _ (⟨_, .assign _, _, _, _, _⟩ :: _)); refine j_assign rfl rfl ?_) | (show J _ _ _ (runS _ _ _ _ (⟨_, .store _ _ _, _, _, _, _⟩ :: _)); ((refine j_sets rfl rfl rfl (by rfl) (by repeat constructor) (by repeat constructor) (by rfl) ?_))) | (show J _ _ _ (runS _ _ _ _ (⟨_, .build _ _, _, _, _, _⟩ :: _)); refine j_build rfl (by repeat constructor) rfl ?_) | (show J _ _ _ (runS _ _ _ _ (⟨_, .alloc _, _, _, _, _⟩ :: _)); refine j_alloc rfl (fun b => ?_))) | refine j_nil ?_ | (show J _ _ _ (Code.wp _ _ _); first | refine j_seq ?_ | refine j_region ?_ | (show J _ _ _ (Code.wp _ (.cond _ _ _) _); (refine j_dec rfl (fun h => ?_) (fun h => ?_))) | refine j_ret ?_ | refine j_skip ?_) | refine j_then ?_ | refine j_then_ret ?_)
  · have h0 : decO d = none := by
      have hd : d = ⟨#[]⟩ := by assumption
      subst hd
      rfl
    exact j_retc2 [.int .i64 0, .int .i64 0, .int .i64 0, .int .i64 0, .int .i64 0, .string ⟨#[]⟩, .string ⟨#[]⟩, .int .i64 0, .int .i64 0, .int .i64 0, .int .i64 0] rfl rfl rfl (by repeat constructor) rfl ⟨rfl, rfl, rfl, rfl, rfl, rfl, rfl, rfl, rfl, rfl, rfl, trivial⟩ rfl (M := Lp) (by repeat (first | exact .refl | refine .drop ?_)) ⟨⟨0, 0, 0, 0, 0, ⟨#[]⟩, ⟨#[]⟩, 0, 0, 0, 0, 0, rfl, by rw [h0]; rfl⟩, rfl⟩
  obtain ⟨bo, hbo⟩ : ∃ b', b' = b := ⟨_, rfl⟩
  subst hbo
  refine j_strBytes rfl rfl (fun b1 c1 junk hc1 => ?_)
  (refine j_call rfl rfl (wdec_spec (some ⟨b1, 0, none⟩) c1 d.data.toList hc1 [blk b1 5 (byteRow d.data.toList junk)] sees_row) ((by repeat ((exact .refl)))) rfl (fun v M N h hN => ?_); obtain (⟨t, left', h1, rfl, rfl⟩ | ⟨h1, rfl, rfl⟩) := h; (try simp only [List.nil_append, List.cons_append, List.append_assoc] at hN); subst hN)
  rotate_left
  · simp only [List.cons_append, List.nil_append] at hN
    subst hN
    have h0 := decO_none h1
    repeat' (first | (show J _ _ _ (runS _ _ _ _ (⟨_, _, _, _, _, none⟩ :: _)); first | (show J _ _ _ (runS _ _ _ _ (⟨_, .move _, _, _, _, _⟩ :: _)); refine j_move rfl rfl ?_) | (show J _ _ _ (runS _ _ _ _ (⟨_, .binOp _ _ _ _ _, _, _, _, _⟩ :: _)); ((refine j_bin rfl rfl rfl rfl ?_))) | (show J _ _ _ (runS _ _ _ _ (⟨_, .assign _, _, _, _, _⟩ :: _)); refine j_assign rfl rfl ?_) | (show J _ _ _ (runS _ _ _ _ (⟨_, .store _ _ _, _, _, _, _⟩ :: _)); ((refine j_sets rfl rfl rfl (by rfl) (by repeat constructor) (by repeat constructor) (by rfl) ?_))) | (show J _ _ _ (runS _ _ _ _ (⟨_, .pick _ _ _, _, _, _, _⟩ :: _)); ((refine j_pick_t rfl rfl rfl ?_))) | (show J _ _ _ (runS _ _ _ _ (⟨_, .build _ _, _, _, _, _⟩ :: _)); refine j_build rfl (by repeat constructor) rfl ?_) | (show J _ _ _ (runS _ _ _ _ (⟨_, .extract _ _, _, _, _, _⟩ :: _)); refine j_extract rfl rfl rfl ?_) | (show J _ _ _ (runS _ _ _ _ (⟨_, .alloc _, _, _, _, _⟩ :: _)); refine j_alloc rfl (fun b => ?_))) | refine j_nil ?_ | (show J _ _ _ (runS _ _ _ _ (⟨_, _, _, _, _, some _⟩ :: _)); (refine j_gno_u rfl rfl rfl rfl ?_)) | (show J _ _ _ (Code.wp _ _ _); first | refine j_seq ?_ | refine j_region ?_ | (show J _ _ _ (Code.wp _ (.cond _ _ _) _); (refine j_true rfl ?_)) | refine j_ret ?_) | refine j_then ?_ | refine j_then_ret ?_)
    exact j_retc2 [.int .i64 0, .int .i64 0, .int .i64 0, .int .i64 0, .int .i64 0, .string ⟨#[]⟩, .string ⟨#[]⟩, .int .i64 0, .int .i64 0, .int .i64 0, .int .i64 0] rfl rfl rfl (by repeat constructor) rfl ⟨rfl, rfl, rfl, rfl, rfl, rfl, rfl, rfl, rfl, rfl, rfl, trivial⟩ rfl (M := Lp) (by repeat (first | exact .refl | refine .drop ?_)) ⟨⟨0, 0, 0, 0, 0, ⟨#[]⟩, ⟨#[]⟩, 0, 0, 0, 0, 4, rfl, (by rw [show decO d = none from h0, if_neg (by decide)])⟩, rfl⟩
  have hd := decO_of h1
  have hlm := pl_len h1
  have hok : Sees [ItH t] (fun w => OkI w t) := sees_it .z
  have n3 : kindI t ≠ 3 → decO d = none := fun h => Classical.byContradiction fun hn => h (decV_form (hd ▸ hn)).1
  have n5 : (lsI t).length ≠ 5 → decO d = none := fun h => Classical.byContradiction fun hn => by
    obtain ⟨-, t0, t1, t2, t3, t4, hl, -⟩ := decV_form (hd ▸ hn)
    exact h (by rw [hl]; rfl)
  rw [cells_is t]
  repeat' (first | (show J _ _ _ (runS _ _ _ _ (⟨_, _, _, _, _, none⟩ :: _)); first | (show J _ _ _ (runS _ _ _ _ (⟨_, .move _, _, _, _, _⟩ :: _)); refine j_move rfl rfl ?_) | (show J _ _ _ (runS _ _ _ _ (⟨_, .load _ _, _, _, _, _⟩ :: _)); ((refine j_load rfl rfl (by repeat constructor) rfl rfl ?_))) | (show J _ _ _ (runS _ _ _ _ (⟨_, .fieldAddr _ _ _, _, _, _, _⟩ :: _)); refine j_fieldAddr rfl rfl ?_) | (show J _ _ _ (runS _ _ _ _ (⟨_, .binOp _ _ _ _ _, _, _, _, _⟩ :: _)); ((refine j_bin rfl rfl rfl rfl ?_))) | (show J _ _ _ (runS _ _ _ _ (⟨_, .assign _, _, _, _, _⟩ :: _)); refine j_assign rfl rfl ?_) | (show J _ _ _ (runS _ _ _ _ (⟨_, .store _ _ _, _, _, _, _⟩ :: _)); ((refine j_sets rfl rfl rfl (by rfl) (by repeat constructor) (by repeat constructor) (by rfl) ?_))) | (show J _ _ _ (runS _ _ _ _ (⟨_, .pick _ _ _, _, _, _, _⟩ :: _)); (first | refine j_pick_t rfl rfl rfl ?_ | refine j_pick_f rfl rfl rfl ?_)) | (show J _ _ _ (runS _ _ _ _ (⟨_, .call ⟨.builtin .len, _, _⟩, _, _, _, _⟩ :: _)); ((refine j_len rfl rfl ?_))) | (show J _ _ _ (runS _ _ _ _ (⟨_, .build _ _, _, _, _, _⟩ :: _)); refine j_build rfl (by repeat constructor) rfl ?_) | (show J _ _ _ (runS _ _ _ _ (⟨_, .extract _ _, _, _, _, _⟩ :: _)); refine j_extract rfl rfl rfl ?_) | (show J _ _ _ (runS _ _ _ _ (⟨_, .alloc _, _, _, _, _⟩ :: _)); refine j_alloc rfl (fun b => ?_))) | refine j_nil ?_ | (show J _ _ _ (runS _ _ _ _ (⟨_, _, _, _, _, some _⟩ :: _)); first | refine j_gno_u rfl rfl rfl rfl ?_ | refine j_gyes rfl rfl rfl ?_ | refine j_gsplit_dec rfl rfl (fun h => ?_) (fun h => ?_)) | (show J _ _ _ (Code.wp _ _ _); first | refine j_seq ?_ | refine j_region ?_ | (show J _ _ _ (Code.wp _ (.cond _ _ _) _); (refine j_true rfl ?_)) | refine j_ret ?_) | refine j_then ?_ | refine j_then_ret ?_)
  · exact j_retc2 [.int .i64 0, .int .i64 0, .int .i64 0, .int .i64 0, .int .i64 0, .string ⟨#[]⟩, .string ⟨#[]⟩, .int .i64 0, .int .i64 0, .int .i64 0, .int .i64 0] rfl rfl rfl (by repeat constructor) rfl ⟨rfl, rfl, rfl, rfl, rfl, rfl, rfl, rfl, rfl, rfl, rfl, trivial⟩ rfl (M := Lp) (by repeat (first | exact .refl | refine .drop ?_)) ⟨⟨0, 0, 0, 0, 0, ⟨#[]⟩, ⟨#[]⟩, 0, 0, 0, 0, 4, rfl, (by rw [show decO d = none from n3 h, if_neg (by decide)])⟩, rfl⟩
  · exact j_retc2 [.int .i64 0, .int .i64 0, .int .i64 0, .int .i64 0, .int .i64 0, .string ⟨#[]⟩, .string ⟨#[]⟩, .int .i64 0, .int .i64 0, .int .i64 0, .int .i64 0] rfl rfl rfl (by repeat constructor) rfl ⟨rfl, rfl, rfl, rfl, rfl, rfl, rfl, rfl, rfl, rfl, rfl, trivial⟩ rfl (M := Lp) (by repeat (first | exact .refl | refine .drop ?_)) ⟨⟨0, 0, 0, 0, 0, ⟨#[]⟩, ⟨#[]⟩, 0, 0, 0, 0, 4, rfl, (by rw [show decO d = none from n5 (by omega), if_neg (by decide)])⟩, rfl⟩
  have hk3 : kindI t = 3 := by omega
  have hl5 : (lsI t).length = 5 := by omega
  obtain ⟨t0, t1, t2, t3, t4, hts⟩ := list5' hl5
  have form : decO d ≠ none → kindI t0 = 1 ∧ kindI t1 = 1 ∧ kindI t2 = 1 ∧ kindI t3 = 1 ∧ kindI t4 = 2 := fun hn => by
    obtain ⟨-, u0, u1, u2, u3, u4, hl, hh⟩ := decV_form (hd ▸ hn)
    rw [hts] at hl
    simp only [List.cons.injEq, and_true] at hl
    obtain ⟨rfl, rfl, rfl, rfl, rfl⟩ := hl
    exact hh
  have four : ∀ i, (hi : i < 4) → kindI ((lsI t)[i]'(by omega)) ≠ 1 → decO d = none := fun i hi h => Classical.byContradiction fun hn => h (by
    have hf := form hn
    simp only [hts]
    match i, hi with
    | 0, _ => exact hf.1
    | 1, _ => exact hf.2.1
    | 2, _ => exact hf.2.2.1
    | 3, _ => exact hf.2.2.2.1)
  refine j_idx (α := IA) (M := [ItH t]) rfl rfl (by repeat (first | exact .refl | apply Pk.cons | constructor)) hok.ok_vw rfl 4 rfl (by omega) rfl (fun b3 o3 ha3 hc3 => ?_)
  repeat' (first | (show J _ _ _ (runS _ _ _ _ (⟨_, _, _, _, _, none⟩ :: _)); (show J _ _ _ (runS _ _ _ _ (⟨_, .fieldAddr _ _ _, _, _, _, _⟩ :: _)); refine j_fieldAddr rfl rfl ?_)) | (show J _ _ _ (runS _ _ _ _ (⟨_, _, _, _, _, some _⟩ :: _)); (refine j_gyes rfl rfl rfl ?_)))
  refine j_loadv (M := [ItH t]) (v := .int .i64 (kindI t4)) rfl rfl (by repeat (first | exact .refl | apply Pk.cons | constructor)) (hc3 0 _ (by show (cellsI (lsI t)[4])[0]? = _; rw [show (lsI t)[4] = t4 from by simp [hts], cells_is]; rfl)) rfl ?_
  repeat' (first | (show J _ _ _ (runS _ _ _ _ (⟨_, _, _, _, _, none⟩ :: _)); first | (show J _ _ _ (runS _ _ _ _ (⟨_, .load _ _, _, _, _, _⟩ :: _)); ((refine j_load rfl rfl (by repeat constructor) rfl rfl ?_))) | (show J _ _ _ (runS _ _ _ _ (⟨_, .fieldAddr _ _ _, _, _, _, _⟩ :: _)); refine j_fieldAddr rfl rfl ?_) | (show J _ _ _ (runS _ _ _ _ (⟨_, .binOp _ _ _ _ _, _, _, _, _⟩ :: _)); ((refine j_bin rfl rfl rfl rfl ?_))) | (show J _ _ _ (runS _ _ _ _ (⟨_, .assign _, _, _, _, _⟩ :: _)); refine j_assign rfl rfl ?_) | (show J _ _ _ (runS _ _ _ _ (⟨_, .store _ _ _, _, _, _, _⟩ :: _)); ((refine j_sets rfl rfl rfl (by rfl) (by repeat constructor) (by repeat constructor) (by rfl) ?_))) | (show J _ _ _ (runS _ _ _ _ (⟨_, .pick _ _ _, _, _, _, _⟩ :: _)); ((refine j_pick_f rfl rfl rfl ?_))) | (show J _ _ _ (runS _ _ _ _ (⟨_, .build _ _, _, _, _, _⟩ :: _)); refine j_build rfl (by repeat constructor) rfl ?_)) | refine j_nil ?_ | (show J _ _ _ (runS _ _ _ _ (⟨_, _, _, _, _, some _⟩ :: _)); (refine j_gyes rfl rfl rfl ?_)) | (show J _ _ _ (Code.wp _ _ _); first | refine j_seq ?_ | refine j_region ?_ | (show J _ _ _ (Code.wp _ (.cond _ _ _) _); (refine j_dec rfl (fun h => ?_) (fun h => ?_))) | refine j_ret ?_ | refine j_skip ?_) | refine j_then ?_ | refine j_then_ret ?_)
  · exact j_retc2 [.int .i64 0, .int .i64 0, .int .i64 0, .int .i64 0, .int .i64 0, .string ⟨#[]⟩, .string ⟨#[]⟩, .int .i64 0, .int .i64 0, .int .i64 0, .int .i64 0] rfl rfl rfl (by repeat constructor) rfl ⟨rfl, rfl, rfl, rfl, rfl, rfl, rfl, rfl, rfl, rfl, rfl, trivial⟩ rfl (M := Lp) (by repeat (first | exact .refl | refine .drop ?_)) ⟨⟨0, 0, 0, 0, 0, ⟨#[]⟩, ⟨#[]⟩, 0, 0, 0, 0, 4, rfl, (by rw [show decO d = none from Classical.byContradiction fun hn => h (form hn).2.2.2.2, if_neg (by decide)])⟩, rfl⟩
  have k4 : kindI t4 = 2 := by omega
  rw [hl5]
  refine j_sees (M := [ItH t]) (by repeat (first | exact .refl | apply Pk.cons | constructor)) (sees_cap .z hk3) (fun w h => h) (fun hlc => ?_)
  rw [hl5] at hlc
  refine j_slice 0 4 (cpI t) rfl (.inl ⟨rfl, rfl⟩) (.inr ⟨_, _, _, rfl, rfl, rfl, by omega⟩) (.inl ⟨rfl, rfl⟩) rfl ?_
  have hvw4 : Sees [ItH t] (fun w => Vw w (offA (adI t) 0 (cpI t) 4) ((lsI t).take 4)) := fun w hw => by
    have := (hok.ok_vw.off 0 (cpI t) (by omega)).take 4 w hw
    rw [List.drop_zero] at this
    exact this
  have hl4 : ((lsI t).take 4).length = 4 := by rw [List.length_take]; omega
  repeat' (first | (show J _ _ _ (runS _ _ _ _ (⟨_, _, _, _, _, none⟩ :: _)); first | (show J _ _ _ (runS _ _ _ _ (⟨_, .move _, _, _, _, _⟩ :: _)); refine j_move rfl rfl ?_) | (show J _ _ _ (runS _ _ _ _ (⟨_, .call ⟨.builtin .len, _, _⟩, _, _, _, _⟩ :: _)); ((refine j_len rfl rfl ?_)))) | refine j_nil ?_ | (show J _ _ _ (Code.wp _ _ _); (refine j_block ?_)) | refine j_then ?_)
  refine j_loop (X := { q : Nat // q ≤ 4 ∧ ∀ j (h : j < 5), j < q → kindI ((lsI t)[j]'(by omega)) = 1 }) (fun q => [(0, .string d), (2, .pointer (some ⟨bo, 0, none⟩)), (4, .pointer (some ⟨b, 0, none⟩)), (43, .slice (offA (adI t) 0 (cpI t) 4) (4 - 0) (cpI t - 0)), (44, .int .i64 (4 : Nat)), (45, .int .i64 (q.1 : Nat))]) (fun q => blk b 64 [.int .i64 (kindI t), .int .i64 (numI t), .string (strI t), .slice (adI t) 5 (cpI t)] :: ItH t :: blk bo 46 zord :: (Lp ++ F)) (fun q => 4 - q.1) ⟨0, by omega, fun j _ hj => by omega⟩ ⟨rfl, rfl, rfl, rfl, rfl, rfl, trivial⟩ (by repeat (first | exact .refl | apply Pk.cons | refine .drop ?_ | constructor)) (fun q => ?_)
  obtain ⟨i, hi, hq⟩ := q
  dsimp only
  repeat' (first | (show J _ _ _ (runS _ _ _ _ (⟨_, _, _, _, _, none⟩ :: _)); first | (show J _ _ _ (runS _ _ _ _ (⟨_, .load _ _, _, _, _, _⟩ :: _)); ((refine j_load rfl rfl (by repeat constructor) rfl rfl ?_))) | (show J _ _ _ (runS _ _ _ _ (⟨_, .fieldAddr _ _ _, _, _, _, _⟩ :: _)); refine j_fieldAddr rfl rfl ?_) | (show J _ _ _ (runS _ _ _ _ (⟨_, .binOp _ _ _ _ _, _, _, _, _⟩ :: _)); ((refine j_bin rfl rfl rfl rfl ?_)))) | refine j_nil ?_ | (show J _ _ _ (Code.wp _ _ _); first | refine j_seq ?_ | refine j_region ?_ | refine j_block ?_ | (show J _ _ _ (Code.wp _ (.cond _ _ _) _); (refine j_dec rfl (fun h => ?_) (fun h => ?_))) | refine j_skip ?_ | refine j_exit ?_) | refine j_then ?_ | refine j_then_exit ?_ | refine j_inb_here ?_)
  · have hi4 : i < ((lsI t).take 4).length := by omega
    have hi5 : i < (lsI t).length := by omega
    have htk : ((lsI t).take 4)[i] = (lsI t)[i] := List.getElem_take ..
    refine j_idx (α := IA) (M := [ItH t]) rfl rfl (by repeat (first | exact .refl | apply Pk.cons | constructor)) hvw4 hl4.symm i rfl hi4 rfl (fun b3 o3 ha3 hc3 => ?_)
    rw [htk] at hc3
    refine j_loadsv (M := [ItH t]) (cellsI (lsI t)[i]) rfl (by rw [cells_is]; rfl) rfl (by repeat (first | exact .refl | apply Pk.cons | constructor)) (fun w hw q v hq => hc3 q v hq w hw) rfl ?_
    rw [cells_is (lsI t)[i]]
    repeat' (first | (show J _ _ _ (runS _ _ _ _ (⟨_, _, _, _, _, none⟩ :: _)); first | (show J _ _ _ (runS _ _ _ _ (⟨_, .move _, _, _, _, _⟩ :: _)); refine j_move rfl rfl ?_) | (show J _ _ _ (runS _ _ _ _ (⟨_, .load _ _, _, _, _, _⟩ :: _)); ((refine j_load rfl rfl (by repeat constructor) rfl rfl ?_))) | (show J _ _ _ (runS _ _ _ _ (⟨_, .fieldAddr _ _ _, _, _, _, _⟩ :: _)); refine j_fieldAddr rfl rfl ?_) | (show J _ _ _ (runS _ _ _ _ (⟨_, .binOp _ _ _ _ _, _, _, _, _⟩ :: _)); (first | refine j_add rfl rfl (by omega) rfl ?_ | refine j_bin rfl rfl rfl rfl ?_)) | (show J _ _ _ (runS _ _ _ _ (⟨_, .assign _, _, _, _, _⟩ :: _)); refine j_assign rfl rfl ?_) | (show J _ _ _ (runS _ _ _ _ (⟨_, .store _ _ _, _, _, _, _⟩ :: _)); ((refine j_sets rfl rfl rfl (by rfl) (by repeat constructor) (by repeat constructor) (by rfl) ?_))) | (show J _ _ _ (runS _ _ _ _ (⟨_, .build _ _, _, _, _, _⟩ :: _)); refine j_build rfl (by repeat constructor) rfl ?_) | (show J _ _ _ (runS _ _ _ _ (⟨_, .alloc _, _, _, _, _⟩ :: _)); refine j_alloc rfl (fun b => ?_))) | refine j_nil ?_ | (show J _ _ _ (Code.wp _ _ _); first | refine j_seq ?_ | refine j_region ?_ | (show J _ _ _ (Code.wp _ (.cond _ _ _) _); (refine j_dec rfl (fun h => ?_) (fun h => ?_))) | refine j_ret ?_ | refine j_skip ?_) | refine j_then ?_ | refine j_then_ret ?_ | refine j_inb ?_ | refine j_inb_ret ?_)
    · exact j_retc2 [.int .i64 0, .int .i64 0, .int .i64 0, .int .i64 0, .int .i64 0, .string ⟨#[]⟩, .string ⟨#[]⟩, .int .i64 0, .int .i64 0, .int .i64 0, .int .i64 0] rfl rfl rfl (by repeat constructor) rfl ⟨rfl, rfl, rfl, rfl, rfl, rfl, rfl, rfl, rfl, rfl, rfl, trivial⟩ rfl (M := Lp) (by repeat (first | exact .refl | refine .drop ?_)) ⟨⟨0, 0, 0, 0, 0, ⟨#[]⟩, ⟨#[]⟩, 0, 0, 0, 0, 4, rfl, (by rw [show decO d = none from four i (by omega) h, if_neg (by decide)])⟩, rfl⟩
    · exact j_round ⟨i + 1, by omega, fun j hj5 hj => by
        by_cases e : j = i
        · subst e; omega
        · exact hq j hj5 (by omega)⟩ (by dsimp only; omega) ⟨rfl, rfl, rfl, rfl, rfl, rfl, trivial⟩ (by repeat (first | exact .refl | apply Pk.cons | refine .drop ?_ | constructor))
  have hi4 : i = 4 := by omega
  subst hi4
  have k0 : kindI t0 = 1 := by have := hq 0 (by decide) (by decide); simpa [hts] using this
  have k1 : kindI t1 = 1 := by have := hq 1 (by decide) (by decide); simpa [hts] using this
  have k2 : kindI t2 = 1 := by have := hq 2 (by decide) (by decide); simpa [hts] using this
  have k3 : kindI t3 = 1 := by have := hq 3 (by decide) (by decide); simpa [hts] using this
  have val := decV_is hk3 hts k0 k1 k2 k3 k4
  rw [← hd] at val
  (refine j_idx (α := IA) (M := [ItH t]) rfl rfl (by repeat (first | exact .refl | apply Pk.cons | constructor)) hok.ok_vw hl5.symm 0 rfl (by omega) rfl (fun b3 o3 ha3 hc3 => ?_))
  repeat' ((show J _ _ _ (runS _ _ _ _ (⟨_, _, _, _, _, none⟩ :: _)); (show J _ _ _ (runS _ _ _ _ (⟨_, .fieldAddr _ _ _, _, _, _, _⟩ :: _)); refine j_fieldAddr rfl rfl ?_)))
  refine j_loadv (M := [ItH t]) (v := .int .i64 (numI t0)) rfl rfl (by repeat (first | exact .refl | apply Pk.cons | constructor)) (hc3 1 _ (by show (cellsI (lsI t)[0])[1]? = _; rw [show (lsI t)[0] = t0 from by simp [hts], cells_is]; rfl)) rfl ?_
  (refine j_call rfl rfl (swithin_spec (numI t0) 1 5 []) (.refl) rfl (fun v M N h hN => ?_); obtain ⟨rfl, rfl⟩ := h; (try simp only [List.nil_append, List.cons_append, List.append_assoc] at hN); subst hN)
  repeat' (first | (show J _ _ _ (runS _ _ _ _ (⟨_, _, _, _, _, none⟩ :: _)); first | (show J _ _ _ (runS _ _ _ _ (⟨_, .load _ _, _, _, _, _⟩ :: _)); ((refine j_load rfl rfl (by repeat constructor) rfl rfl ?_))) | (show J _ _ _ (runS _ _ _ _ (⟨_, .fieldAddr _ _ _, _, _, _, _⟩ :: _)); refine j_fieldAddr rfl rfl ?_) | (show J _ _ _ (runS _ _ _ _ (⟨_, .assign _, _, _, _, _⟩ :: _)); refine j_assign rfl rfl ?_) | (show J _ _ _ (runS _ _ _ _ (⟨_, .store _ _ _, _, _, _, _⟩ :: _)); ((refine j_sets rfl rfl rfl (by rfl) (by repeat constructor) (by repeat constructor) (by rfl) ?_))) | (show J _ _ _ (runS _ _ _ _ (⟨_, .unOp _ _ _, _, _, _, _⟩ :: _)); ((refine j_not rfl rfl ?_))) | (show J _ _ _ (runS _ _ _ _ (⟨_, .build _ _, _, _, _, _⟩ :: _)); refine j_build rfl (by repeat constructor) rfl ?_)) | refine j_nil ?_ | (show J _ _ _ (Code.wp _ _ _); first | refine j_seq ?_ | refine j_region ?_ | (show J _ _ _ (Code.wp _ (.cond _ _ _) _); (refine j_dec rfl (fun h => ?_) (fun h => ?_))) | refine j_ret ?_ | refine j_skip ?_ | refine j_draw (by decide +kernel) ?_) | refine j_then ?_ | refine j_then_ret ?_)
  · have h0 : decO d = none := by
      rw [val, if_neg]
      rintro ⟨h4, -⟩
      omega
    exact j_retc2 [.int .i64 0, .int .i64 0, .int .i64 0, .int .i64 0, .int .i64 0, .string ⟨#[]⟩, .string ⟨#[]⟩, .int .i64 0, .int .i64 0, .int .i64 0, .int .i64 0] rfl rfl rfl (by repeat constructor) rfl ⟨rfl, rfl, rfl, rfl, rfl, rfl, rfl, rfl, rfl, rfl, rfl, trivial⟩ rfl (M := Lp) (by repeat (first | exact .refl | refine .drop ?_)) ⟨⟨0, 0, 0, 0, 0, ⟨#[]⟩, ⟨#[]⟩, 0, 0, 0, 0, 4, rfl, (by rw [show decO d = none from h0, if_neg (by decide)])⟩, rfl⟩
  have hb : 1 ≤ numI t0 ∧ numI t0 ≤ 5 := by omega
  (refine j_idx (α := IA) (M := [ItH t]) rfl rfl (by repeat (first | exact .refl | apply Pk.cons | constructor)) hok.ok_vw hl5.symm 0 rfl (by omega) rfl (fun b3 o3 ha3 hc3 => ?_))
  repeat' ((show J _ _ _ (runS _ _ _ _ (⟨_, _, _, _, _, none⟩ :: _)); (show J _ _ _ (runS _ _ _ _ (⟨_, .fieldAddr _ _ _, _, _, _, _⟩ :: _)); refine j_fieldAddr rfl rfl ?_)))
  refine j_loadv (M := [ItH t]) (v := .int .i64 (numI t0)) rfl rfl (by repeat (first | exact .refl | apply Pk.cons | constructor)) (hc3 1 _ (by show (cellsI (lsI t)[0])[1]? = _; rw [show (lsI t)[0] = t0 from by simp [hts], cells_is]; rfl)) rfl ?_
  repeat' ((show J _ _ _ (runS _ _ _ _ (⟨_, _, _, _, _, none⟩ :: _)); first | (show J _ _ _ (runS _ _ _ _ (⟨_, .load _ _, _, _, _, _⟩ :: _)); ((refine j_load rfl rfl (by repeat constructor) rfl rfl ?_))) | (show J _ _ _ (runS _ _ _ _ (⟨_, .fieldAddr _ _ _, _, _, _, _⟩ :: _)); refine j_fieldAddr rfl rfl ?_)))
  (refine j_idx (α := IA) (M := [ItH t]) rfl rfl (by repeat (first | exact .refl | apply Pk.cons | constructor)) hok.ok_vw hl5.symm 1 rfl (by omega) rfl (fun b3 o3 ha3 hc3 => ?_))
  repeat' ((show J _ _ _ (runS _ _ _ _ (⟨_, _, _, _, _, none⟩ :: _)); (show J _ _ _ (runS _ _ _ _ (⟨_, .fieldAddr _ _ _, _, _, _, _⟩ :: _)); refine j_fieldAddr rfl rfl ?_)))
  refine j_loadv (M := [ItH t]) (v := .int .i64 (numI t1)) rfl rfl (by repeat (first | exact .refl | apply Pk.cons | constructor)) (hc3 1 _ (by show (cellsI (lsI t)[1])[1]? = _; rw [show (lsI t)[1] = t1 from by simp [hts], cells_is]; rfl)) rfl ?_
  repeat' ((show J _ _ _ (runS _ _ _ _ (⟨_, _, _, _, _, none⟩ :: _)); first | (show J _ _ _ (runS _ _ _ _ (⟨_, .load _ _, _, _, _, _⟩ :: _)); ((refine j_load rfl rfl (by repeat constructor) rfl rfl ?_))) | (show J _ _ _ (runS _ _ _ _ (⟨_, .fieldAddr _ _ _, _, _, _, _⟩ :: _)); refine j_fieldAddr rfl rfl ?_)))
  (refine j_idx (α := IA) (M := [ItH t]) rfl rfl (by repeat (first | exact .refl | apply Pk.cons | constructor)) hok.ok_vw hl5.symm 2 rfl (by omega) rfl (fun b3 o3 ha3 hc3 => ?_))
  repeat' ((show J _ _ _ (runS _ _ _ _ (⟨_, _, _, _, _, none⟩ :: _)); (show J _ _ _ (runS _ _ _ _ (⟨_, .fieldAddr _ _ _, _, _, _, _⟩ :: _)); refine j_fieldAddr rfl rfl ?_)))
  refine j_loadv (M := [ItH t]) (v := .int .i64 (numI t2)) rfl rfl (by repeat (first | exact .refl | apply Pk.cons | constructor)) (hc3 1 _ (by show (cellsI (lsI t)[2])[1]? = _; rw [show (lsI t)[2] = t2 from by simp [hts], cells_is]; rfl)) rfl ?_
  repeat' ((show J _ _ _ (runS _ _ _ _ (⟨_, _, _, _, _, none⟩ :: _)); first | (show J _ _ _ (runS _ _ _ _ (⟨_, .load _ _, _, _, _, _⟩ :: _)); ((refine j_load rfl rfl (by repeat constructor) rfl rfl ?_))) | (show J _ _ _ (runS _ _ _ _ (⟨_, .fieldAddr _ _ _, _, _, _, _⟩ :: _)); refine j_fieldAddr rfl rfl ?_)))
  (refine j_idx (α := IA) (M := [ItH t]) rfl rfl (by repeat (first | exact .refl | apply Pk.cons | constructor)) hok.ok_vw hl5.symm 3 rfl (by omega) rfl (fun b3 o3 ha3 hc3 => ?_))
  repeat' ((show J _ _ _ (runS _ _ _ _ (⟨_, _, _, _, _, none⟩ :: _)); (show J _ _ _ (runS _ _ _ _ (⟨_, .fieldAddr _ _ _, _, _, _, _⟩ :: _)); refine j_fieldAddr rfl rfl ?_)))
  refine j_loadv (M := [ItH t]) (v := .int .i64 (numI t3)) rfl rfl (by repeat (first | exact .refl | apply Pk.cons | constructor)) (hc3 1 _ (by show (cellsI (lsI t)[3])[1]? = _; rw [show (lsI t)[3] = t3 from by simp [hts], cells_is]; rfl)) rfl ?_
  repeat' (first | (show J _ _ _ (runS _ _ _ _ (⟨_, _, _, _, _, none⟩ :: _)); first | (show J _ _ _ (runS _ _ _ _ (⟨_, .load _ _, _, _, _, _⟩ :: _)); ((refine j_load rfl rfl (by repeat constructor) rfl rfl ?_))) | (show J _ _ _ (runS _ _ _ _ (⟨_, .fieldAddr _ _ _, _, _, _, _⟩ :: _)); refine j_fieldAddr rfl rfl ?_) | (show J _ _ _ (runS _ _ _ _ (⟨_, .store _ _ _, _, _, _, _⟩ :: _)); ((refine j_sets rfl rfl rfl (by rfl) (by repeat constructor) (by repeat constructor) (by rfl) ?_))) | (show J _ _ _ (runS _ _ _ _ (⟨_, .build _ _, _, _, _, _⟩ :: _)); refine j_build rfl (by repeat constructor) rfl ?_) | (show J _ _ _ (runS _ _ _ _ (⟨_, .alloc _, _, _, _, _⟩ :: _)); refine j_alloc rfl (fun b => ?_))) | refine j_nil ?_ | (show J _ _ _ (Code.wp _ _ _); first | refine j_seq ?_ | refine j_region ?_) | refine j_then ?_)
  (refine j_idx (α := IA) (M := [ItH t]) rfl rfl (by repeat (first | exact .refl | apply Pk.cons | constructor)) hok.ok_vw hl5.symm 4 rfl (by omega) rfl (fun b3 o3 ha3 hc3 => ?_))
  repeat' ((show J _ _ _ (runS _ _ _ _ (⟨_, _, _, _, _, none⟩ :: _)); (show J _ _ _ (runS _ _ _ _ (⟨_, .fieldAddr _ _ _, _, _, _, _⟩ :: _)); refine j_fieldAddr rfl rfl ?_)))
  refine j_loadv (M := [ItH t]) (v := .string (strI t4)) rfl rfl (by repeat (first | exact .refl | apply Pk.cons | constructor)) (hc3 2 _ (by show (cellsI (lsI t)[4])[2]? = _; rw [show (lsI t)[4] = t4 from by simp [hts], cells_is]; rfl)) rfl ?_
  repeat' (first | (show J _ _ _ (runS _ _ _ _ (⟨_, _, _, _, _, none⟩ :: _)); first | (show J _ _ _ (runS _ _ _ _ (⟨_, .load _ _, _, _, _, _⟩ :: _)); ((refine j_load rfl rfl (by repeat constructor) rfl rfl ?_))) | (show J _ _ _ (runS _ _ _ _ (⟨_, .fieldAddr _ _ _, _, _, _, _⟩ :: _)); refine j_fieldAddr rfl rfl ?_) | (show J _ _ _ (runS _ _ _ _ (⟨_, .assign _, _, _, _, _⟩ :: _)); refine j_assign rfl rfl ?_)) | refine j_nil ?_ | (show J _ _ _ (Code.wp _ _ _); first | refine j_seq ?_ | refine j_region ?_) | refine j_then ?_)
  (refine j_call rfl rfl (stells_spec (numI t0) []) (.refl) rfl (fun v M N h hN => ?_); obtain ⟨rfl, rfl⟩ := h; (try simp only [List.nil_append, List.cons_append, List.append_assoc] at hN); subst hN)
  repeat' (first | (show J _ _ _ (runS _ _ _ _ (⟨_, _, _, _, _, none⟩ :: _)); first | (show J _ _ _ (runS _ _ _ _ (⟨_, .move _, _, _, _, _⟩ :: _)); refine j_move rfl rfl ?_) | (show J _ _ _ (runS _ _ _ _ (⟨_, .binOp _ _ _ _ _, _, _, _, _⟩ :: _)); ((refine j_nestr rfl rfl rfl ?_))) | (show J _ _ _ (runS _ _ _ _ (⟨_, .pick _ _ _, _, _, _, _⟩ :: _)); (first | refine j_pick_t rfl rfl rfl ?_ | refine j_pick_f rfl rfl rfl ?_))) | refine j_nil ?_ | (show J _ _ _ (runS _ _ _ _ (⟨_, _, _, _, _, some _⟩ :: _)); first | refine j_gno_u rfl rfl rfl rfl ?_ | refine j_gyes rfl rfl rfl ?_ | refine j_gsplit_dec rfl rfl (fun h => ?_) (fun h => ?_)) | (show J _ _ _ (Code.wp _ _ _); first | refine j_seq ?_ | refine j_region ?_ | (show J _ _ _ (Code.wp _ (.cond _ _ _) _); first | refine j_true rfl ?_ | refine j_dec rfl (fun h => ?_) (fun h => ?_)) | refine j_skip ?_) | refine j_then ?_)
  · have hne : decO d = none := by
      rw [val, if_neg]
      rintro ⟨h4, -⟩
      omega
    (refine j_call rfl rfl (wcdec_spec (strI t4) []) (.refl) rfl (fun v M N h hN => ?_); obtain ⟨⟨c, e, rfl, hce⟩, rfl⟩ := h; (try simp only [List.nil_append, List.cons_append, List.append_assoc] at hN); subst hN)
    rw [show Enc.enc c = [.int .i64 c.op, .string c.nm, .string c.oo, .int .i64 c.v.a, .int .i64 c.v.b, .int .i64 c.v.c, .int .i64 c.n] from rfl]
    repeat' (first | (show J _ _ _ (runS _ _ _ _ (⟨_, _, _, _, _, none⟩ :: _)); first | (show J _ _ _ (runS _ _ _ _ (⟨_, .move _, _, _, _, _⟩ :: _)); refine j_move rfl rfl ?_) | (show J _ _ _ (runS _ _ _ _ (⟨_, .fieldAddr _ _ _, _, _, _, _⟩ :: _)); refine j_fieldAddr rfl rfl ?_) | (show J _ _ _ (runS _ _ _ _ (⟨_, .binOp _ _ _ _ _, _, _, _, _⟩ :: _)); ((refine j_bin rfl rfl rfl rfl ?_))) | (show J _ _ _ (runS _ _ _ _ (⟨_, .assign _, _, _, _, _⟩ :: _)); refine j_assign rfl rfl ?_) | (show J _ _ _ (runS _ _ _ _ (⟨_, .store _ _ _, _, _, _, _⟩ :: _)); ((refine j_sets rfl rfl rfl (by rfl) (by repeat constructor) (by repeat constructor) (by rfl) ?_))) | (show J _ _ _ (runS _ _ _ _ (⟨_, .build _ _, _, _, _, _⟩ :: _)); refine j_build rfl (by repeat constructor) rfl ?_) | (show J _ _ _ (runS _ _ _ _ (⟨_, .extract _ _, _, _, _, _⟩ :: _)); refine j_extract rfl rfl rfl ?_)) | refine j_nil ?_ | (show J _ _ _ (Code.wp _ _ _); first | refine j_seq ?_ | refine j_region ?_ | (show J _ _ _ (Code.wp _ (.cond _ _ _) _); (refine j_dec rfl (fun h => ?_) (fun h => ?_))) | refine j_ret ?_ | refine j_skip ?_) | refine j_then ?_ | refine j_then_ret ?_)
    · exact j_retc2 [.int .i64 0, .int .i64 0, .int .i64 0, .int .i64 0, .int .i64 0, .string ⟨#[]⟩, .string ⟨#[]⟩, .int .i64 0, .int .i64 0, .int .i64 0, .int .i64 0] rfl rfl rfl (by repeat constructor) rfl ⟨rfl, rfl, rfl, rfl, rfl, rfl, rfl, rfl, rfl, rfl, rfl, trivial⟩ rfl (M := Lp) (by repeat (first | exact .refl | refine .drop ?_)) ⟨⟨0, 0, 0, 0, 0, ⟨#[]⟩, ⟨#[]⟩, 0, 0, 0, 0, 4, rfl, (by rw [show decO d = none from hne, if_neg (by decide)])⟩, rfl⟩
    have he0 : e = 0 := by omega
    (refine j_loads [.int .i64 (numI t0), .int .i64 (numI t1), .int .i64 (numI t2), .int .i64 (numI t3), .int .i64 (c).op, .string (c).nm, .string (c).oo, .int .i64 (c).v.a, .int .i64 (c).v.b, .int .i64 (c).v.c, .int .i64 (c).n] rfl rfl rfl (by repeat constructor) ⟨rfl, rfl, rfl, rfl, rfl, rfl, rfl, rfl, rfl, rfl, rfl, trivial⟩ rfl ?_)
    (refine j_call rfl rfl (wmay_spec ⟨numI t0, numI t1, numI t2, numI t3, c⟩ hb []) (.refl) rfl (fun v M N h hN => ?_); obtain ⟨⟨bb, rfl, hbb⟩, rfl⟩ := h; (try simp only [List.nil_append, List.cons_append, List.append_assoc] at hN); subst hN)
    cases bb with
    | false =>
      repeat' (first | (show J _ _ _ (runS _ _ _ _ (⟨_, _, _, _, _, none⟩ :: _)); first | (show J _ _ _ (runS _ _ _ _ (⟨_, .assign _, _, _, _, _⟩ :: _)); refine j_assign rfl rfl ?_) | (show J _ _ _ (runS _ _ _ _ (⟨_, .store _ _ _, _, _, _, _⟩ :: _)); ((refine j_sets rfl rfl rfl (by rfl) (by repeat constructor) (by repeat constructor) (by rfl) ?_))) | (show J _ _ _ (runS _ _ _ _ (⟨_, .unOp _ _ _, _, _, _, _⟩ :: _)); ((refine j_not_b rfl rfl ?_))) | (show J _ _ _ (runS _ _ _ _ (⟨_, .build _ _, _, _, _, _⟩ :: _)); refine j_build rfl (by repeat constructor) rfl ?_)) | refine j_nil ?_ | (show J _ _ _ (Code.wp _ _ _); first | refine j_seq ?_ | refine j_region ?_ | (show J _ _ _ (Code.wp _ (.cond _ _ _) _); (refine j_true rfl ?_)) | refine j_ret ?_) | refine j_then ?_ | refine j_then_ret ?_)
      exact j_retc2 [.int .i64 0, .int .i64 0, .int .i64 0, .int .i64 0, .int .i64 0, .string ⟨#[]⟩, .string ⟨#[]⟩, .int .i64 0, .int .i64 0, .int .i64 0, .int .i64 0] rfl rfl rfl (by repeat constructor) rfl ⟨rfl, rfl, rfl, rfl, rfl, rfl, rfl, rfl, rfl, rfl, rfl, trivial⟩ rfl (M := Lp) (by repeat (first | exact .refl | refine .drop ?_)) ⟨⟨0, 0, 0, 0, 0, ⟨#[]⟩, ⟨#[]⟩, 0, 0, 0, 0, 4, rfl, (by rw [show decO d = none from hne, if_neg (by decide)])⟩, rfl⟩
    | true =>
      have h4 : numI t0 ≠ 4 := fun h4 => hce he0 (congrArg Cm.op (show c = zC from ((hbb h4).1 rfl).2.2.1))
      repeat' (first | (show J _ _ _ (runS _ _ _ _ (⟨_, _, _, _, _, none⟩ :: _)); (show J _ _ _ (runS _ _ _ _ (⟨_, .unOp _ _ _, _, _, _, _⟩ :: _)); ((refine j_not_b rfl rfl ?_)))) | refine j_nil ?_ | (show J _ _ _ (Code.wp _ _ _); first | refine j_seq ?_ | refine j_region ?_ | (show J _ _ _ (Code.wp _ (.cond _ _ _) _); (refine j_false rfl ?_)) | refine j_skip ?_) | refine j_then ?_)
      (refine j_loads [.int .i64 (numI t0), .int .i64 (numI t1), .int .i64 (numI t2), .int .i64 (numI t3), .int .i64 (c).op, .string (c).nm, .string (c).oo, .int .i64 (c).v.a, .int .i64 (c).v.b, .int .i64 (c).v.c, .int .i64 (c).n] rfl rfl rfl (by repeat constructor) ⟨rfl, rfl, rfl, rfl, rfl, rfl, rfl, rfl, rfl, rfl, rfl, trivial⟩ rfl ?_)
      repeat' (first | (show J _ _ _ (runS _ _ _ _ (⟨_, _, _, _, _, none⟩ :: _)); first | (show J _ _ _ (runS _ _ _ _ (⟨_, .assign _, _, _, _, _⟩ :: _)); refine j_assign rfl rfl ?_) | (show J _ _ _ (runS _ _ _ _ (⟨_, .store _ _ _, _, _, _, _⟩ :: _)); ((refine j_sets rfl rfl rfl (by rfl) (by repeat constructor) (by repeat constructor) (by rfl) ?_)))) | refine j_nil ?_ | (show J _ _ _ (Code.wp _ _ _); (refine j_ret ?_)) | refine j_then ?_)
      exact j_retc2 [.int .i64 (numI t0), .int .i64 (numI t1), .int .i64 (numI t2), .int .i64 (numI t3), .int .i64 (c).op, .string (c).nm, .string (c).oo, .int .i64 (c).v.a, .int .i64 (c).v.b, .int .i64 (c).v.c, .int .i64 (c).n] rfl rfl rfl (by repeat constructor) rfl ⟨rfl, rfl, rfl, rfl, rfl, rfl, rfl, rfl, rfl, rfl, rfl, trivial⟩ rfl (M := Lp) (by repeat (first | exact .refl | refine .drop ?_)) ⟨⟨_, _, _, _, _, _, _, _, _, _, _, 0, rfl, (by rw [hne, if_neg (fun h => h4 h.2)])⟩, rfl⟩
  · have hne : decO d = none := by
      rw [val, if_neg]
      rintro ⟨-, -, -, -, -, h4⟩
      exact absurd h4 (by assumption)
    (refine j_call rfl rfl (wcdec_spec (strI t4) []) (.refl) rfl (fun v M N h hN => ?_); obtain ⟨⟨c, e, rfl, hce⟩, rfl⟩ := h; (try simp only [List.nil_append, List.cons_append, List.append_assoc] at hN); subst hN)
    rw [show Enc.enc c = [.int .i64 c.op, .string c.nm, .string c.oo, .int .i64 c.v.a, .int .i64 c.v.b, .int .i64 c.v.c, .int .i64 c.n] from rfl]
    repeat' (first | (show J _ _ _ (runS _ _ _ _ (⟨_, _, _, _, _, none⟩ :: _)); first | (show J _ _ _ (runS _ _ _ _ (⟨_, .move _, _, _, _, _⟩ :: _)); refine j_move rfl rfl ?_) | (show J _ _ _ (runS _ _ _ _ (⟨_, .fieldAddr _ _ _, _, _, _, _⟩ :: _)); refine j_fieldAddr rfl rfl ?_) | (show J _ _ _ (runS _ _ _ _ (⟨_, .binOp _ _ _ _ _, _, _, _, _⟩ :: _)); ((refine j_bin rfl rfl rfl rfl ?_))) | (show J _ _ _ (runS _ _ _ _ (⟨_, .assign _, _, _, _, _⟩ :: _)); refine j_assign rfl rfl ?_) | (show J _ _ _ (runS _ _ _ _ (⟨_, .store _ _ _, _, _, _, _⟩ :: _)); ((refine j_sets rfl rfl rfl (by rfl) (by repeat constructor) (by repeat constructor) (by rfl) ?_))) | (show J _ _ _ (runS _ _ _ _ (⟨_, .build _ _, _, _, _, _⟩ :: _)); refine j_build rfl (by repeat constructor) rfl ?_) | (show J _ _ _ (runS _ _ _ _ (⟨_, .extract _ _, _, _, _, _⟩ :: _)); refine j_extract rfl rfl rfl ?_)) | refine j_nil ?_ | (show J _ _ _ (Code.wp _ _ _); first | refine j_seq ?_ | refine j_region ?_ | (show J _ _ _ (Code.wp _ (.cond _ _ _) _); (refine j_dec rfl (fun h => ?_) (fun h => ?_))) | refine j_ret ?_ | refine j_skip ?_) | refine j_then ?_ | refine j_then_ret ?_)
    · exact j_retc2 [.int .i64 0, .int .i64 0, .int .i64 0, .int .i64 0, .int .i64 0, .string ⟨#[]⟩, .string ⟨#[]⟩, .int .i64 0, .int .i64 0, .int .i64 0, .int .i64 0] rfl rfl rfl (by repeat constructor) rfl ⟨rfl, rfl, rfl, rfl, rfl, rfl, rfl, rfl, rfl, rfl, rfl, trivial⟩ rfl (M := Lp) (by repeat (first | exact .refl | refine .drop ?_)) ⟨⟨0, 0, 0, 0, 0, ⟨#[]⟩, ⟨#[]⟩, 0, 0, 0, 0, 4, rfl, (by rw [show decO d = none from hne, if_neg (by decide)])⟩, rfl⟩
    have he0 : e = 0 := by omega
    (refine j_loads [.int .i64 (numI t0), .int .i64 (numI t1), .int .i64 (numI t2), .int .i64 (numI t3), .int .i64 (c).op, .string (c).nm, .string (c).oo, .int .i64 (c).v.a, .int .i64 (c).v.b, .int .i64 (c).v.c, .int .i64 (c).n] rfl rfl rfl (by repeat constructor) ⟨rfl, rfl, rfl, rfl, rfl, rfl, rfl, rfl, rfl, rfl, rfl, trivial⟩ rfl ?_)
    (refine j_call rfl rfl (wmay_spec ⟨numI t0, numI t1, numI t2, numI t3, c⟩ hb []) (.refl) rfl (fun v M N h hN => ?_); obtain ⟨⟨bb, rfl, hbb⟩, rfl⟩ := h; (try simp only [List.nil_append, List.cons_append, List.append_assoc] at hN); subst hN)
    cases bb with
    | false =>
      repeat' (first | (show J _ _ _ (runS _ _ _ _ (⟨_, _, _, _, _, none⟩ :: _)); first | (show J _ _ _ (runS _ _ _ _ (⟨_, .assign _, _, _, _, _⟩ :: _)); refine j_assign rfl rfl ?_) | (show J _ _ _ (runS _ _ _ _ (⟨_, .store _ _ _, _, _, _, _⟩ :: _)); ((refine j_sets rfl rfl rfl (by rfl) (by repeat constructor) (by repeat constructor) (by rfl) ?_))) | (show J _ _ _ (runS _ _ _ _ (⟨_, .unOp _ _ _, _, _, _, _⟩ :: _)); ((refine j_not_b rfl rfl ?_))) | (show J _ _ _ (runS _ _ _ _ (⟨_, .build _ _, _, _, _, _⟩ :: _)); refine j_build rfl (by repeat constructor) rfl ?_)) | refine j_nil ?_ | (show J _ _ _ (Code.wp _ _ _); first | refine j_seq ?_ | refine j_region ?_ | (show J _ _ _ (Code.wp _ (.cond _ _ _) _); (refine j_true rfl ?_)) | refine j_ret ?_) | refine j_then ?_ | refine j_then_ret ?_)
      exact j_retc2 [.int .i64 0, .int .i64 0, .int .i64 0, .int .i64 0, .int .i64 0, .string ⟨#[]⟩, .string ⟨#[]⟩, .int .i64 0, .int .i64 0, .int .i64 0, .int .i64 0] rfl rfl rfl (by repeat constructor) rfl ⟨rfl, rfl, rfl, rfl, rfl, rfl, rfl, rfl, rfl, rfl, rfl, trivial⟩ rfl (M := Lp) (by repeat (first | exact .refl | refine .drop ?_)) ⟨⟨0, 0, 0, 0, 0, ⟨#[]⟩, ⟨#[]⟩, 0, 0, 0, 0, 4, rfl, (by rw [show decO d = none from hne, if_neg (by decide)])⟩, rfl⟩
    | true =>
      have h4 : numI t0 ≠ 4 := fun h4 => hce he0 (congrArg Cm.op (show c = zC from ((hbb h4).1 rfl).2.2.1))
      repeat' (first | (show J _ _ _ (runS _ _ _ _ (⟨_, _, _, _, _, none⟩ :: _)); (show J _ _ _ (runS _ _ _ _ (⟨_, .unOp _ _ _, _, _, _, _⟩ :: _)); ((refine j_not_b rfl rfl ?_)))) | refine j_nil ?_ | (show J _ _ _ (Code.wp _ _ _); first | refine j_seq ?_ | refine j_region ?_ | (show J _ _ _ (Code.wp _ (.cond _ _ _) _); (refine j_false rfl ?_)) | refine j_skip ?_) | refine j_then ?_)
      (refine j_loads [.int .i64 (numI t0), .int .i64 (numI t1), .int .i64 (numI t2), .int .i64 (numI t3), .int .i64 (c).op, .string (c).nm, .string (c).oo, .int .i64 (c).v.a, .int .i64 (c).v.b, .int .i64 (c).v.c, .int .i64 (c).n] rfl rfl rfl (by repeat constructor) ⟨rfl, rfl, rfl, rfl, rfl, rfl, rfl, rfl, rfl, rfl, rfl, trivial⟩ rfl ?_)
      repeat' (first | (show J _ _ _ (runS _ _ _ _ (⟨_, _, _, _, _, none⟩ :: _)); first | (show J _ _ _ (runS _ _ _ _ (⟨_, .assign _, _, _, _, _⟩ :: _)); refine j_assign rfl rfl ?_) | (show J _ _ _ (runS _ _ _ _ (⟨_, .store _ _ _, _, _, _, _⟩ :: _)); ((refine j_sets rfl rfl rfl (by rfl) (by repeat constructor) (by repeat constructor) (by rfl) ?_)))) | refine j_nil ?_ | (show J _ _ _ (Code.wp _ _ _); (refine j_ret ?_)) | refine j_then ?_)
      exact j_retc2 [.int .i64 (numI t0), .int .i64 (numI t1), .int .i64 (numI t2), .int .i64 (numI t3), .int .i64 (c).op, .string (c).nm, .string (c).oo, .int .i64 (c).v.a, .int .i64 (c).v.b, .int .i64 (c).v.c, .int .i64 (c).n] rfl rfl rfl (by repeat constructor) rfl ⟨rfl, rfl, rfl, rfl, rfl, rfl, rfl, rfl, rfl, rfl, rfl, trivial⟩ rfl (M := Lp) (by repeat (first | exact .refl | refine .drop ?_)) ⟨⟨_, _, _, _, _, _, _, _, _, _, _, 0, rfl, (by rw [hne, if_neg (fun h => h4 h.2)])⟩, rfl⟩
  · have hs : strI t4 = ⟨#[]⟩ := by simpa using h
    (refine j_loads [.int .i64 (numI t0), .int .i64 (numI t1), .int .i64 (numI t2), .int .i64 (numI t3), .int .i64 (zC).op, .string (zC).nm, .string (zC).oo, .int .i64 (zC).v.a, .int .i64 (zC).v.b, .int .i64 (zC).v.c, .int .i64 (zC).n] rfl rfl rfl (by repeat constructor) ⟨rfl, rfl, rfl, rfl, rfl, rfl, rfl, rfl, rfl, rfl, rfl, trivial⟩ rfl ?_)
    (refine j_call rfl rfl (wmay_spec ⟨numI t0, numI t1, numI t2, numI t3, zC⟩ hb []) (.refl) rfl (fun v M N h hN => ?_); obtain ⟨⟨bb, rfl, hbb⟩, rfl⟩ := h; (try simp only [List.nil_append, List.cons_append, List.append_assoc] at hN); subst hN)
    cases bb with
    | false =>
      have hne : decO d = none := by
        rw [val, if_neg]
        rintro ⟨q1, q2, q3, q4, q5, q6⟩
        exact absurd ((hbb q1).2 ⟨q2, q3, rfl, q4, q5⟩) (by decide)
      repeat' (first | (show J _ _ _ (runS _ _ _ _ (⟨_, _, _, _, _, none⟩ :: _)); first | (show J _ _ _ (runS _ _ _ _ (⟨_, .assign _, _, _, _, _⟩ :: _)); refine j_assign rfl rfl ?_) | (show J _ _ _ (runS _ _ _ _ (⟨_, .store _ _ _, _, _, _, _⟩ :: _)); ((refine j_sets rfl rfl rfl (by rfl) (by repeat constructor) (by repeat constructor) (by rfl) ?_))) | (show J _ _ _ (runS _ _ _ _ (⟨_, .unOp _ _ _, _, _, _, _⟩ :: _)); ((refine j_not_b rfl rfl ?_))) | (show J _ _ _ (runS _ _ _ _ (⟨_, .build _ _, _, _, _, _⟩ :: _)); refine j_build rfl (by repeat constructor) rfl ?_)) | refine j_nil ?_ | (show J _ _ _ (Code.wp _ _ _); first | refine j_seq ?_ | refine j_region ?_ | (show J _ _ _ (Code.wp _ (.cond _ _ _) _); (refine j_true rfl ?_)) | refine j_ret ?_) | refine j_then ?_ | refine j_then_ret ?_)
      exact j_retc2 [.int .i64 0, .int .i64 0, .int .i64 0, .int .i64 0, .int .i64 0, .string ⟨#[]⟩, .string ⟨#[]⟩, .int .i64 0, .int .i64 0, .int .i64 0, .int .i64 0] rfl rfl rfl (by repeat constructor) rfl ⟨rfl, rfl, rfl, rfl, rfl, rfl, rfl, rfl, rfl, rfl, rfl, trivial⟩ rfl (M := Lp) (by repeat (first | exact .refl | refine .drop ?_)) ⟨⟨0, 0, 0, 0, 0, ⟨#[]⟩, ⟨#[]⟩, 0, 0, 0, 0, 4, rfl, (by rw [show decO d = none from hne, if_neg (by decide)])⟩, rfl⟩
    | true =>
      have hv : decO d = if (0 : Int) = 0 ∧ numI t0 = 4 then some (numI t3) else none := by
        rw [val]
        by_cases h4 : numI t0 = 4
        · have := (hbb h4).1 rfl
          rw [if_pos ⟨h4, this.1, this.2.1, this.2.2.2.1, this.2.2.2.2, hs⟩, if_pos ⟨rfl, h4⟩]
        · rw [if_neg (fun h => h4 h.1), if_neg (fun h => h4 h.2)]
      repeat' (first | (show J _ _ _ (runS _ _ _ _ (⟨_, _, _, _, _, none⟩ :: _)); (show J _ _ _ (runS _ _ _ _ (⟨_, .unOp _ _ _, _, _, _, _⟩ :: _)); ((refine j_not_b rfl rfl ?_)))) | refine j_nil ?_ | (show J _ _ _ (Code.wp _ _ _); first | refine j_seq ?_ | refine j_region ?_ | (show J _ _ _ (Code.wp _ (.cond _ _ _) _); (refine j_false rfl ?_)) | refine j_skip ?_) | refine j_then ?_)
      (refine j_loads [.int .i64 (numI t0), .int .i64 (numI t1), .int .i64 (numI t2), .int .i64 (numI t3), .int .i64 (zC).op, .string (zC).nm, .string (zC).oo, .int .i64 (zC).v.a, .int .i64 (zC).v.b, .int .i64 (zC).v.c, .int .i64 (zC).n] rfl rfl rfl (by repeat constructor) ⟨rfl, rfl, rfl, rfl, rfl, rfl, rfl, rfl, rfl, rfl, rfl, trivial⟩ rfl ?_)
      repeat' (first | (show J _ _ _ (runS _ _ _ _ (⟨_, _, _, _, _, none⟩ :: _)); first | (show J _ _ _ (runS _ _ _ _ (⟨_, .assign _, _, _, _, _⟩ :: _)); refine j_assign rfl rfl ?_) | (show J _ _ _ (runS _ _ _ _ (⟨_, .store _ _ _, _, _, _, _⟩ :: _)); ((refine j_sets rfl rfl rfl (by rfl) (by repeat constructor) (by repeat constructor) (by rfl) ?_)))) | refine j_nil ?_ | (show J _ _ _ (Code.wp _ _ _); (refine j_ret ?_)) | refine j_then ?_)
      exact j_retc2 [.int .i64 (numI t0), .int .i64 (numI t1), .int .i64 (numI t2), .int .i64 (numI t3), .int .i64 (zC).op, .string (zC).nm, .string (zC).oo, .int .i64 (zC).v.a, .int .i64 (zC).v.b, .int .i64 (zC).v.c, .int .i64 (zC).n] rfl rfl rfl (by repeat constructor) rfl ⟨rfl, rfl, rfl, rfl, rfl, rfl, rfl, rfl, rfl, rfl, rfl, trivial⟩ rfl (M := Lp) (by repeat (first | exact .refl | refine .drop ?_)) ⟨⟨_, _, _, _, _, _, _, _, _, _, _, 0, rfl, (hv)⟩, rfl⟩
end Go.Proofs.Ytnmfpgfgjjmfhaa
end

