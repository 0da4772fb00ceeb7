/- conf.Of: the last entry that tells members. -/
import Derived.Test.YtnmfpgfgjjmfhaaSi
import Derived.Test.YtnmfpgfgjjmfhaaSt2
set_option linter.unusedVariables false
set_option linter.unusedSimpArgs false
set_option maxRecDepth 100000
namespace Go.Proofs.Ytnmfpgfgjjmfhaa
open Go
attribute [local irreducible] Exit.then Exit.inBlock Code.wp runS bodyPost postF J runT cutQ cutR Tr Sat blk Sl Old Star Ex Pu
attribute [local irreducible] wd

structure En where
  t : Int
  d : ByteArray
instance : Enc En := ⟨fun e => [.int .i64 e.t, .string e.d], 2, fun _ => rfl, by decide, fun x u hu => by simp at hu; rcases hu with rfl | rfl <;> rfl⟩
/-- what decoding tells: members, or none -/
def DecS (d : ByteArray) (r : Option Int) : Prop := ∀ Lp, Tr Try.prog 27 [.string d] Lp (fun v M => (∃ (k i s n : Int) (op : Int) (nm tn : ByteArray) (v0 v1 v2 cn : Int) (e : Int), v = .tuple #[.agg #[.int .i64 k, .int .i64 i, .int .i64 s, .int .i64 n, .int .i64 op, .string nm, .string tn, .int .i64 v0, .int .i64 v1, .int .i64 v2, .int .i64 cn], .int .i64 e] ∧ r = (if e = 0 ∧ k = 4 then some n else none)) ∧ M = Lp)
def rec0 (fn rd : Nat) (tm : Array Value) (ps : Array Tmp) (ac bd : Code) : Loop := { state := .ready, pending := none, fn := fn, tmps := tm, params := ps, assign := ac, body := bd, defers := rd }
def lastC (dec : ByteArray → Option Int) (ls : List En) : Option Int := ls.reverse.findSome? fun e => dec e.d

theorem backward_spec (a : Option Addr) (len c : Nat) (Lp : List HP) : Tr Try.prog 26 [.slice a len c] Lp (fun v M => ∃ b1, v = .func (.func 36) #[] #[.pointer (some ⟨b1, 0, none⟩)] ∧ M = blk b1 31 [.slice a len c] :: Lp) := by
  refine tr_enter Try.func26 rfl Try.ntmps26 rfl (fun F => ?_)
  repeat' (first | (show J _ _ _ (runS _ _ _ _ (⟨_, _, _, _, _, none⟩ :: _)); first | (show J _ _ _ (runS _ _ _ _ (⟨_, .assign _, _, _, _, _⟩ :: _)); refine j_assign rfl rfl ?_) | (show J _ _ _ (runS _ _ _ _ (⟨_, .box _ _, _, _, _, _⟩ :: _)); refine j_box rfl rfl (fun b => ?_))) | refine j_nil ?_ | (show J _ _ _ (Code.wp _ _ _); first | refine j_seq ?_ | refine j_region ?_) | refine j_then ?_)
  refine j_makeFunc rfl rfl ?_
  repeat' (first | (show J _ _ _ (runS _ _ _ _ (⟨_, _, _, _, _, none⟩ :: _)); (show J _ _ _ (runS _ _ _ _ (⟨_, .assign _, _, _, _, _⟩ :: _)); refine j_assign rfl rfl ?_)) | refine j_nil ?_ | (show J _ _ _ (Code.wp _ _ _); (refine j_ret ?_)) | refine j_then ?_)
  exact j_ret1 (M := blk b 31 [.slice a len c] :: Lp) rfl rfl .refl ⟨b, rfl, rfl⟩

theorem lastC_drop (dec : ByteArray → Option Int) (ls : List En) (i : Nat) (hi : i < ls.length) (h : lastC dec (ls.drop (i + 1)) = none) : lastC dec (ls.drop i) = dec ls[i].d := by
  unfold lastC at h ⊢
  rw [List.drop_eq_getElem_cons hi, List.reverse_cons, List.findSome?_append, h]
  simp
theorem lastC_le (dec : ByteArray → Option Int) (ls : List En) (i : Nat) {n : Int} (h : lastC dec (ls.drop i) = some n) : lastC dec ls = some n := by
  conv => lhs; rw [← List.take_append_drop i ls]
  unfold lastC at h ⊢
  rw [List.reverse_append, List.findSome?_append, h]
  rfl

def OfR (dec : ByteArray → Option Int) (ls : List En) (b4 b1 : Nat) (a : Option Addr) (c : Nat) (Lp : List HP) (pend : Option Code) (M' : List HP) : Prop :=
  (pend = none ∧ lastC dec ls = none ∧ M' = blk b4 2 [.int .i64 0] :: blk b1 31 [.slice a ls.length c] :: Lp) ∨
  ∃ n, pend = some .ret ∧ lastC dec ls = some n ∧ M' = blk b4 2 [.int .i64 n] :: blk b1 31 [.slice a ls.length c] :: Lp
theorem iter_spec (dec : ByteArray → Option Int) (a : Option Addr) (c : Nat) (ls : List En) (hb : ls.length ≤ 1000000) (Lp : List HP) (hv : Sees Lp (fun w => Vw w a ls)) (lp b4 b1 : Nat) (r0 : Loop) (h0 : r0.state = .ready) (h1 : r0.pending = none)
    (hy : ∀ (i : Nat) (hi : i < ls.length), Yld Try.prog 1 lp [.int .i64 (i : Nat), .agg (Enc.enc ls[i]).toArray] (pts lp (.loop r0) :: blk b4 2 [.int .i64 0] :: blk b1 31 [.slice a ls.length c] :: Lp)
      (fun b M => (b = true ∧ dec ls[i].d = none ∧ M = pts lp (.loop r0) :: blk b4 2 [.int .i64 0] :: blk b1 31 [.slice a ls.length c] :: Lp) ∨
        (∃ n r, b = false ∧ dec ls[i].d = some n ∧ r.state = .done ∧ r.pending = some .ret ∧ M = pts lp (.loop r) :: blk b4 2 [.int .i64 n] :: blk b1 31 [.slice a ls.length c] :: Lp))) :
    Tr Try.prog 36 [.func (.yield lp) #[] #[], .pointer (some ⟨b1, 0, none⟩)] (pts lp (.loop r0) :: blk b4 2 [.int .i64 0] :: blk b1 31 [.slice a ls.length c] :: Lp)
      (fun v M => ∃ (r : Loop) (M' : List HP), r.state ≠ .busy ∧ M = pts lp (.loop r) :: M' ∧ OfR dec ls b4 b1 a c Lp r.pending M') := by
  refine tr_enter Try.func36 rfl Try.ntmps36 rfl (fun F => ?_)
  repeat' (first | (show J _ _ _ (runS _ _ _ _ (⟨_, _, _, _, _, none⟩ :: _)); first | (show J _ _ _ (runS _ _ _ _ (⟨_, .load _ _, _, _, _, _⟩ :: _)); ((refine j_load rfl rfl (by repeat constructor) rfl rfl ?_))) | (show J _ _ _ (runS _ _ _ _ (⟨_, .binOp _ _ _ _ _, _, _, _, _⟩ :: _)); ((refine j_sub_ rfl rfl (by omega) rfl ?_))) | (show J _ _ _ (runS _ _ _ _ (⟨_, .assign _, _, _, _, _⟩ :: _)); refine j_assign rfl rfl ?_) | (show J _ _ _ (runS _ _ _ _ (⟨_, .call ⟨.builtin .len, _, _⟩, _, _, _, _⟩ :: _)); ((refine j_len rfl rfl ?_)))) | refine j_nil ?_ | (show J _ _ _ (Code.wp _ _ _); first | refine j_seq ?_ | refine j_region ?_ | refine j_block ?_) | refine j_then ?_)
  have e0 : (ls.length : Int) - 1 = ((ls.length : Nat) : Int) - 1 := rfl
  refine j_loop (X := { q : Nat // q ≤ ls.length ∧ lastC dec (ls.drop q) = none }) (fun q => [(0, .func (.yield lp) #[] #[]), (1, .pointer (some ⟨b1, 0, none⟩)), (3, .int .i64 ((q.1 : Nat) - 1))]) (fun q => pts lp (.loop r0) :: blk b4 2 [.int .i64 0] :: blk b1 31 [.slice a ls.length c] :: (Lp ++ F)) (fun q => q.1) ⟨ls.length, by omega, by rw [List.drop_length]; rfl⟩ ⟨rfl, rfl, rfl, trivial⟩ .refl (fun q => ?_)
  obtain ⟨q, hq, hn⟩ := q
  dsimp only at hq hn ⊢
  repeat' (first | (refine j_regionY [_, _, _, _, _, _] _ [_] rfl rfl 1 ?_) | (show J _ _ _ (runS _ _ _ _ (⟨_, _, _, _, _, none⟩ :: _)); first | (show J _ _ _ (runS _ _ _ _ (⟨_, .move _, _, _, _, _⟩ :: _)); refine j_move rfl rfl ?_) | (show J _ _ _ (runS _ _ _ _ (⟨_, .load _ _, _, _, _, _⟩ :: _)); ((refine j_load rfl rfl (by repeat constructor) rfl rfl ?_))) | (show J _ _ _ (runS _ _ _ _ (⟨_, .binOp _ _ _ _ _, _, _, _, _⟩ :: _)); ((refine j_bin rfl rfl rfl rfl ?_)))) | refine j_nil ?_ | (show J _ _ _ (Code.wp _ _ _); first | refine j_seq ?_ | refine j_region ?_ | refine j_block ?_ | (show J _ _ _ (Code.wp _ (.cond _ _ _) _); (refine j_dec rfl (fun h => ?_) (fun h => ?_))) | refine j_skip ?_ | refine j_exit ?_) | refine j_then ?_ | refine j_then_exit ?_ | refine j_inb_here ?_ | refine j_retn ?_)
  · match q, (show 0 < q by omega), hq, hn with
    | q + 1, _, hq, hn =>
    have hi : q < ls.length := by omega
    have eq1 : ((q + 1 : Nat) : Int) - 1 = (q : Int) := by omega
    rw [eq1]
    refine j_idx (α := En) (M := Lp) rfl rfl (by repeat (first | exact .refl | refine .drop ?_)) hv rfl q rfl hi rfl (fun b3 o3 ha3 hc3 => ?_)
    refine j_loadsv (M := Lp) [.int .i64 ls[q].t, .string ls[q].d] rfl rfl rfl (by repeat (first | exact .refl | refine .drop ?_)) (fun w hw j v hj => hc3 j v hj w hw) rfl ?_
    repeat' ((refine j_nil ?_))
    refine j_yield rfl rfl (hy q hi) .refl rfl rfl (fun bb M N h hN => ?_)
    subst hN
    rcases h with ⟨rfl, hd, rfl⟩ | ⟨n, r, rfl, hd, hr1, hr2, rfl⟩
    · repeat' (first | (show J _ _ _ (runS _ _ _ _ (⟨_, _, _, _, _, none⟩ :: _)); first | (show J _ _ _ (runS _ _ _ _ (⟨_, .move _, _, _, _, _⟩ :: _)); refine j_move rfl rfl ?_) | (show J _ _ _ (runS _ _ _ _ (⟨_, .binOp _ _ _ _ _, _, _, _, _⟩ :: _)); ((refine j_sub_ rfl rfl (by omega) rfl ?_))) | (show J _ _ _ (runS _ _ _ _ (⟨_, .assign _, _, _, _, _⟩ :: _)); refine j_assign rfl rfl ?_) | (show J _ _ _ (runS _ _ _ _ (⟨_, .unOp _ _ _, _, _, _, _⟩ :: _)); ((refine j_not_b rfl rfl ?_)))) | refine j_nil ?_ | (show J _ _ _ (Code.wp _ _ _); first | refine j_region ?_ | (show J _ _ _ (Code.wp _ (.cond _ _ _) _); (refine j_false rfl ?_)) | refine j_skip ?_) | refine j_then ?_ | refine j_inb ?_)
      have eq2 : (q : Int) - 1 = ((q : Nat) : Int) - 1 := rfl
      exact j_round ⟨q, by omega, by rw [lastC_drop dec ls q hi hn]; exact hd⟩ (by dsimp only; omega) ⟨rfl, rfl, rfl, trivial⟩ (by repeat ((exact .refl)))
    · repeat' (first | (show J _ _ _ (runS _ _ _ _ (⟨_, _, _, _, _, none⟩ :: _)); (show J _ _ _ (runS _ _ _ _ (⟨_, .unOp _ _ _, _, _, _, _⟩ :: _)); ((refine j_not_b rfl rfl ?_)))) | refine j_nil ?_ | (show J _ _ _ (Code.wp _ _ _); first | (show J _ _ _ (Code.wp _ (.cond _ _ _) _); (refine j_true rfl ?_)) | refine j_ret ?_) | refine j_then ?_ | refine j_then_ret ?_ | refine j_inb_ret ?_)
      exact j_ret0 (M := pts lp (.loop r) :: blk b4 2 [.int .i64 n] :: blk b1 31 [.slice a ls.length c] :: Lp) rfl .refl ⟨r, _, by rw [hr1]; decide, rfl, .inr ⟨n, hr2, lastC_le dec ls q (by rw [lastC_drop dec ls q hi hn]; exact hd), rfl⟩⟩
  · have hq0 : q = 0 := by omega
    subst hq0
    exact j_ret0 (M := pts lp (.loop r0) :: blk b4 2 [.int .i64 0] :: blk b1 31 [.slice a ls.length c] :: Lp) rfl .refl ⟨r0, _, by rw [h0]; decide, rfl, .inl ⟨h1, by simpa using hn, rfl⟩⟩

theorem foldl2 (t1 t2 : Tmp) (v1 v2 : Value) (tm : Array Value) : ((#[t1, t2] : Array Tmp).zip ([v1, v2] : List Value).toArray).foldl (fun tmps (x : Tmp × Value) => match x with | (t, a) => tmps.setIfInBounds t a) tm = (tm.setIfInBounds t1 v1).setIfInBounds t2 v2 := by simp
theorem of_spec (dec : ByteArray → Option Int) (m : Int) (a : Option Addr) (c : Nat) (ls : List En) (hdec : ∀ e ∈ ls, DecS e.d (dec e.d)) (hb : ls.length ≤ 1000000) (Lp : List HP) (hv : Sees Lp (fun w => Vw w a ls)) :
    Tr Try.prog 21 [.int .i64 m, .slice a ls.length c] Lp (fun v M => v = .int .i64 ((lastC dec ls).getD m) ∧ M = Lp) := by
  refine tr_enterM Try.func21 rfl Try.ntmps21 rfl (fun F => ?_)
  repeat' (first | (show J _ _ _ (runS _ _ _ _ (⟨_, _, _, _, _, none⟩ :: _)); first | (show J _ _ _ (runS _ _ _ _ (⟨_, .move _, _, _, _, _⟩ :: _)); refine j_move rfl rfl ?_) | (show J _ _ _ (runS _ _ _ _ (⟨_, .alloc _, _, _, _, _⟩ :: _)); refine j_alloc rfl (fun b => ?_))) | refine j_nil ?_ | (show J _ _ _ (Code.wp _ _ _); first | refine j_seq ?_ | refine j_region ?_) | refine j_then ?_)
  (refine j_call rfl rfl (backward_spec a ls.length c (blk b 2 [.int .i64 0] :: Lp)) ((by repeat ((exact .refl)))) rfl (fun v M N h hN => ?_); obtain ⟨b1, rfl, rfl⟩ := h; (try simp only [List.nil_append, List.cons_append, List.append_assoc] at hN); subst hN)
  repeat' (first | refine j_nil ?_ | (show J _ _ _ (Code.wp _ _ _); (refine j_block ?_)) | refine j_then ?_)
  refine j_rangeFunc (cap := #[.pointer (some ⟨b1, 0, none⟩)]) (Lp := blk b 2 [.int .i64 0] :: blk b1 31 [.slice a ls.length c] :: Lp) (G := F) (R := OfR dec ls b b1 a c Lp) rfl (fun fn a' lp rd hra => ?_) (by repeat (first | exact .refl | apply Pk.cons | constructor)) (fun pend M rd h => ?_)
  · refine iter_spec dec a c ls hb Lp hv lp b b1 _ rfl rfl (fun i hi => ?_)
    refine yld_of (n := 29) (fm := [(12, .agg (Enc.enc ls[i]).toArray), (11, .int .i64 (i : Nat)), (4, .pointer (some ⟨b, 0, none⟩))]) rfl ?_ (fun F => ?_)
    · have h4 := (((hra.sub (g := [(4, .pointer (some ⟨b, 0, none⟩))]) ⟨rfl, trivial⟩).put (d := 11) rfl (.int .i64 (i : Nat))).put (d := 12) rfl (.agg (Enc.enc ls[i]).toArray))
      have e : ({ tmps := (a'.tmps.setIfInBounds 11 (.int .i64 (i : Nat))).setIfInBounds 12 (.agg (Enc.enc ls[i]).toArray), defers := [] } : Act) = (a'.put (some 11) (.int .i64 (i : Nat))).put (some 12) (.agg (Enc.enc ls[i]).toArray) := by
        have := hra.defers
        cases a'
        simp only [] at this
        subst this
        rfl
      rw [← e, ← foldl2] at h4
      exact h4
    · repeat' (first | (show J _ _ _ (runS _ _ _ _ (⟨_, _, _, _, _, none⟩ :: _)); first | (show J _ _ _ (runS _ _ _ _ (⟨_, .store _ _ _, _, _, _, _⟩ :: _)); ((refine j_sets rfl rfl rfl (by rfl) (by repeat constructor) (by repeat constructor) (by rfl) ?_))) | (show J _ _ _ (runS _ _ _ _ (⟨_, .alloc _, _, _, _, _⟩ :: _)); refine j_alloc rfl (fun b => ?_))) | refine j_nil ?_ | refine j_then ?_ | refine ji_region (open_round _) rfl ?_)
      refine ji_begin rfl (by repeat constructor) ?_
      repeat' (first | (show J _ _ _ (runS _ _ _ _ (⟨_, _, _, _, _, none⟩ :: _)); first | (show J _ _ _ (runS _ _ _ _ (⟨_, .load _ _, _, _, _, _⟩ :: _)); ((refine j_load rfl rfl (by repeat constructor) rfl rfl ?_))) | (show J _ _ _ (runS _ _ _ _ (⟨_, .fieldAddr _ _ _, _, _, _, _⟩ :: _)); refine j_fieldAddr rfl rfl ?_)) | refine ji_seq ?_ | refine ji_region (open_round _) rfl ?_ | refine ji_block ?_)
      obtain ⟨b4, hb4⟩ : ∃ b', b' = b := ⟨_, rfl⟩
      (refine j_call rfl rfl (hdec ls[i] (List.getElem_mem hi) []) (.refl) rfl (fun v M N h hN => ?_); obtain ⟨⟨k, id, sq, nn, op, nm, tn, v0, v1, v2, cn, e, rfl, hdc⟩, rfl⟩ := h; (try simp only [List.nil_append, List.cons_append, List.append_assoc] at hN); subst hN)
      repeat' (first | (show J _ _ _ (runS _ _ _ _ (⟨_, _, _, _, _, none⟩ :: _)); first | (show J _ _ _ (runS _ _ _ _ (⟨_, .move _, _, _, _, _⟩ :: _)); refine j_move rfl rfl ?_) | (show J _ _ _ (runS _ _ _ _ (⟨_, .load _ _, _, _, _, _⟩ :: _)); ((refine j_load rfl rfl (by repeat constructor) rfl rfl ?_))) | (show J _ _ _ (runS _ _ _ _ (⟨_, .fieldAddr _ _ _, _, _, _, _⟩ :: _)); refine j_fieldAddr rfl rfl ?_) | (show J _ _ _ (runS _ _ _ _ (⟨_, .binOp _ _ _ _ _, _, _, _, _⟩ :: _)); ((refine j_bin rfl rfl rfl rfl ?_))) | (show J _ _ _ (runS _ _ _ _ (⟨_, .assign _, _, _, _, _⟩ :: _)); refine j_assign rfl rfl ?_) | (show J _ _ _ (runS _ _ _ _ (⟨_, .store _ _ _, _, _, _, _⟩ :: _)); (first | refine j_set rfl rfl rfl (by rfl) (by repeat constructor) (by repeat constructor) ?_ | refine j_sets rfl rfl rfl (by rfl) (by repeat constructor) (by repeat constructor) (by rfl) ?_)) | (show J _ _ _ (runS _ _ _ _ (⟨_, .pick _ _ _, _, _, _, _⟩ :: _)); (first | refine j_pick_t rfl rfl rfl ?_ | refine j_pick_f rfl rfl rfl ?_)) | (show J _ _ _ (runS _ _ _ _ (⟨_, .extract _ _, _, _, _, _⟩ :: _)); refine j_extract rfl rfl rfl ?_) | (show J _ _ _ (runS _ _ _ _ (⟨_, .alloc _, _, _, _, _⟩ :: _)); refine j_alloc rfl (fun b => ?_))) | refine j_nil ?_ | (show J _ _ _ (runS _ _ _ _ (⟨_, _, _, _, _, some _⟩ :: _)); first | refine j_gno_u rfl rfl rfl rfl ?_ | refine j_gyes rfl rfl rfl ?_ | refine j_gsplit_dec rfl rfl (fun h => ?_) (fun h => ?_)) | refine j_then ?_ | refine j_inb ?_ | refine j_inb_ret ?_ | refine ji_seq ?_ | refine ji_region (open_round _) rfl ?_ | refine ji_ret ?_ | refine ji_skip ?_ | (show J _ _ _ (Code.wpIn _ _ _ (.cond _ _ _) _); first | refine ji_false rfl ?_ | refine ji_dec rfl (fun h => ?_) (fun h => ?_)))
      · refine ji_roundRet (M := pts lp (.loop _) :: blk _ 2 [.int .i64 nn] :: blk b1 31 [.slice a ls.length c] :: Lp) (.s (.s .z)) (.drop (.drop .refl)) ?_
        exact .inr ⟨nn, _, rfl, by rw [hdc, if_pos ⟨by assumption, by assumption⟩], rfl, rfl, rfl⟩
      · refine ji_roundOn (M := pts lp (.loop _) :: blk _ 2 [.int .i64 0] :: blk b1 31 [.slice a ls.length c] :: Lp) (.s (.s .z)) (.drop (.drop .refl)) ?_
        exact .inl ⟨rfl, by rw [hdc, if_neg (by omega)], rfl⟩
      · refine ji_roundOn (M := pts lp (.loop _) :: blk _ 2 [.int .i64 0] :: blk b1 31 [.slice a ls.length c] :: Lp) (.s (.s .z)) (.drop (.drop .refl)) ?_
        exact .inl ⟨rfl, by rw [hdc, if_neg (by omega)], rfl⟩
  · rcases h with ⟨rfl, hl, rfl⟩ | ⟨nn, rfl, hl, rfl⟩
    · show J _ _ _ (wd _ (Exit.inBlock _ _ _))
      refine jd_inb (jd_then ?_)
      repeat' (first | (show J _ _ _ (runS _ _ _ _ (⟨_, _, _, _, _, none⟩ :: _)); first | (show J _ _ _ (runS _ _ _ _ (⟨_, .move _, _, _, _, _⟩ :: _)); refine j_move rfl rfl ?_) | (show J _ _ _ (runS _ _ _ _ (⟨_, .store _ _ _, _, _, _, _⟩ :: _)); ((refine j_set rfl rfl rfl (by rfl) (by repeat constructor) (by repeat constructor) ?_)))) | refine j_nil ?_ | refine jd_then ?_ | refine jd_seq ?_ | refine jd_region ?_ | refine jd_ret ?_)
      refine j_leaveM (M := Lp) (v := .int .i64 m) .z (fun a1 w hr hw => run_res1 hr rfl rfl (run_loadVar_one rfl hw (by repeat constructor) rfl)) (by repeat (first | exact .refl | refine .drop ?_)) ⟨by rw [hl]; rfl, rfl⟩
    · show J _ _ _ (wd _ (Code.wp _ _ _))
      refine jd_ret (jd_inb_ret (jd_then_ret ?_))
      exact j_leaveM (M := Lp) (v := .int .i64 nn) .z (fun a1 w hr hw => run_res1 hr rfl rfl (run_loadVar_one rfl hw (by repeat constructor) rfl)) (by repeat (first | exact .refl | refine .drop ?_)) ⟨by rw [hl]; rfl, rfl⟩
end Go.Proofs.Ytnmfpgfgjjmfhaa
