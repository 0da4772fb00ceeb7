/-
  Slices of elements that are told by lists.
-/
import Derived.Test.YtnmfpgfgjjmfhaaSz
import Derived.Laws.StructEq
set_option linter.unusedVariables false
set_option linter.unusedSimpArgs false
namespace Go.Proofs.Ytnmfpgfgjjmfhaa
open Go

class Enc (α : Type) where
  enc : α → List Value
  sz : Nat
  len : ∀ x, (enc x).length = sz
  pos : 0 < sz
  one : ∀ x, ∀ u ∈ enc x, u.oneCell' = true

instance : Enc Int := ⟨fun n => [.int .i64 n], 1, fun _ => rfl, by decide, fun x u hu => by simp at hu; subst hu; rfl⟩
instance : Enc UInt8 := ⟨fun n => [.int .u8 n.toNat], 1, fun _ => rfl, by decide, fun x u hu => by simp at hu; subst hu; rfl⟩
instance : Enc ByteArray := ⟨fun s => [.string s], 1, fun _ => rfl, by decide, fun x u hu => by simp at hu; subst hu; rfl⟩

def Sl {α : Type} [Enc α] (T : TypeId) (a : Option Addr) (cap : Nat) (ls : List α) : HP := SlO T (Enc.sz α) a cap (ls.map Enc.enc)
instance {α : Type} [Enc α] (T : TypeId) (a : Option Addr) (cap : Nat) (ls : List α) : Loc (Sl T a cap ls) := inferInstanceAs (Loc (SlO _ _ _ _ _))
/-- how a slice reads in a world -/
def Vw {α : Type} [Enc α] (w : World) (a : Option Addr) (ls : List α) : Prop := SlR w (Enc.sz α) a (ls.map Enc.enc)

theorem map_enc_len {α : Type} [Enc α] (ls : List α) : ∀ x ∈ ls.map (Enc.enc (α := α)), x.length = Enc.sz α := flatten_map_len Enc.len ls
theorem map_enc_one {α : Type} [Enc α] (ls : List α) : ∀ y ∈ ls.map (Enc.enc (α := α)), ∀ u ∈ y, u.oneCell' = true := by
  intro y hy
  obtain ⟨x, _, rfl⟩ := List.mem_map.1 hy
  exact Enc.one x

theorem at_of_get {L : List HP} {A : HP} : ∀ {i : Nat}, L[i]? = some A → At L A := by
  induction L with
  | nil => intro i h; simp at h
  | cons B L ih =>
    intro i h
    cases i with
    | zero => simp at h; subst h; exact .z
    | succ i => exact .s (ih (by simpa using h))
theorem take_flat {sz : Nat} : ∀ (xs : List (List Value)) (k : Nat), (∀ x ∈ xs, x.length = sz) → List.take (k * sz) xs.flatten = (List.take k xs).flatten
  | [], k, _ => by simp
  | y :: ys, 0, _ => by simp
  | y :: ys, k + 1, h => by
    have hy := h y (List.mem_cons_self ..)
    have := take_flat ys k (fun z hz => h z (List.mem_cons_of_mem _ hz))
    simp only [List.flatten_cons, List.take_succ_cons, Nat.succ_mul]
    rw [Nat.add_comm, ← hy, List.take_length_add_append, hy, this]
theorem drop_flat {sz : Nat} : ∀ (xs : List (List Value)) (k : Nat), (∀ x ∈ xs, x.length = sz) → List.drop (k * sz) xs.flatten = (List.drop k xs).flatten
  | [], k, _ => by simp
  | y :: ys, 0, _ => by simp
  | y :: ys, k + 1, h => by
    have hy := h y (List.mem_cons_self ..)
    have := drop_flat ys k (fun z hz => h z (List.mem_cons_of_mem _ hz))
    simp only [List.flatten_cons, List.drop_succ_cons, Nat.succ_mul]
    rw [Nat.add_comm, ← hy, List.drop_length_add_append, hy, this]

/-- what M shows, L shows -/
def Sees (M : List HP) (p : World → Prop) : Prop := ∀ w, Sat M w → p w
theorem Sees.of_at {A : HP} {L : List HP} {p : World → Prop} (h : At L A) (hp : ∀ w S, A w S → p w) : Sees L p := fun w hw => let ⟨S, hS⟩ := hw.at h; hp w S hS
theorem Sees.one {A : HP} {p : World → Prop} (hp : ∀ w S, A w S → p w) : Sees [A] p := Sees.of_at .z hp
theorem sees_sl {α : Type} [Enc α] {T : TypeId} {a : Option Addr} {cap : Nat} {ls : List α} : Sees [Sl T a cap ls] (fun w => Vw w a ls) := Sees.one fun w S h => SlO.read h
theorem sees_blk1 {α : Type} [Enc α] {T : TypeId} {b : Nat} (x : α) : Sees [blk b T (Enc.enc x)] (fun w => Vw w (some ⟨b, 0, none⟩) [x]) := by
  intro w hw
  have := slR_blk (xs := [Enc.enc x]) (sz := Enc.sz α) (M := [blk b T (Enc.enc x)]) (b := b) (T := T) (by intro y hy; simp at hy; subst hy; exact Enc.len x) (by simpa using At.z) w hw
  exact this
theorem seesL {α : Type} [Enc α] {M : List HP} {T : TypeId} {a : Option Addr} {cap : Nat} {ls : List α} (h : At M (Sl T a cap ls)) : Sees M (fun w => Vw w a ls) := Sees.of_at h (fun w S h => SlO.read h)
theorem sees_nil {α : Type} [Enc α] {M : List HP} {a : Option Addr} : Sees M (fun w => Vw w a ([] : List α)) := fun w _ => slR_nil w _ a

theorem sees_old {α : Type} [Enc α] {w0 : World} {a : Option Addr} {ls : List α} (h : Vw w0 a ls) : Sees [Old w0] (fun w => Vw w a ls) := Sees.one fun w S ho => by
  refine ⟨h.1, ?_⟩
  rcases h.2 with h | ⟨b, o, ha, h⟩
  · exact .inl h
  · refine .inr ⟨b, o, ha, fun i x hi j v hj => ?_⟩
    have h1 := h i x hi j v hj
    have hlt : b < w0.heap.size := World.block_lt_of_cell? w0 _ h1
    rw [World.cell?_of_block (w := w0) ((ho.2 b hlt).2)]
    exact h1
theorem Vw.drop {α : Type} [Enc α] {w : World} {b o : Nat} {ls : List α} (h : Vw w (some ⟨b, o, none⟩) ls) (k : Nat) : Vw w (some ⟨b, o + k * Enc.sz α, none⟩) (ls.drop k) := by
  refine ⟨map_enc_len _, ?_⟩
  rcases h.2 with h | ⟨b', o', ha, h⟩
  · left
    have : ls = [] := by simpa using h
    simp [this]
  · simp only [Option.some.injEq, Addr.mk.injEq] at ha
    obtain ⟨rfl, rfl, _⟩ := ha
    refine .inr ⟨b, _, rfl, fun i x hi j v hj => ?_⟩
    have := h (k + i) x (by simpa [List.getElem?_drop] using hi) j v hj
    rw [Nat.add_mul, ← Nat.add_assoc] at this
    exact this
theorem Vw.take {α : Type} [Enc α] {w : World} {a : Option Addr} {ls : List α} (h : Vw w a ls) (k : Nat) : Vw w a (ls.take k) := by
  refine ⟨map_enc_len _, ?_⟩
  rcases h.2 with h | ⟨b', o', ha, h⟩
  · left
    have : ls = [] := by simpa using h
    simp [this]
  · refine .inr ⟨b', o', ha, fun i x hi j v hj => h i x ?_ j v hj⟩
    rw [List.map_take] at hi
    have hlt := (List.getElem?_eq_some_iff.1 hi).1
    rw [List.getElem?_take_of_lt (by simp at hlt; omega)] at hi
    exact hi
theorem Vw.nil_addr {α : Type} [Enc α] {w : World} {ls : List α} (h : Vw w none ls) : ls = [] := by
  rcases h.2 with h | ⟨b', o', ha, h⟩
  · simpa using h
  · cases ha
/-- a slice that begins at element k, as Go makes it -/
def offA (a : Option Addr) (k cap sz : Nat) : Option Addr := if cap = k then a else a.map (·.add (k * sz))
theorem Vw.off {α : Type} [Enc α] {w : World} {a : Option Addr} {ls : List α} (h : Vw w a ls) (k cap : Nat) (hk : ls.length ≤ cap) (hsp : ∀ ad, a = some ad → ad.spot = none ∨ ls = []) : Vw w (offA a k cap (Enc.sz α)) (ls.drop k) := by
  unfold offA
  split
  · rename_i hc
    have : ls.drop k = [] := List.drop_eq_nil_of_le (by omega)
    rw [this]
    exact slR_nil _ _ _
  · cases a with
    | none => rw [h.nil_addr]; simp; exact slR_nil _ _ _
    | some ad =>
      rcases h.2 with h0 | ⟨b', o', ha, h0⟩
      · have : ls = [] := by simpa using h0
        subst this
        simp; exact slR_nil _ _ _
      · obtain rfl := Option.some.inj ha
        simp only [Option.map_some, add_lit]
        exact h.drop k

section
variable {P : Program} {EE : EX} {n : Nat} {fm : Fm} {L : List HP} {ops : Array Oper} {K : Act → World → Prop} {rest : List Oper} {d : Nat} {ty : TypeId} {pos : String} {after : Array Edge}
variable {α : Type} [ea : Enc α]

theorem j_lens_sl {X : Act → World → Prop} {T : TypeId} {a : Option Addr} {cap : Nat} {ls : List α} (hA : At L (Sl T a cap ls)) (h : ls.length ≤ cap → cap ≤ maxLen → J n fm L X) : J n fm L X :=
  j_lens hA (fun h1 h2 => h (by simpa using h1) h2)

/-- a slice that is told: its capacity and bytes -/
theorem j_append {t e : TypeId} {n1 by_ : Nat} {d1 : TypeDesc} {z : Value} {x y : Operand} [hs : TyC P t (.slice e) n1] [he : TyC P e d1 (Enc.sz α)] [hz : TyZ P e z by_] {a a2 : Option Addr} {len cap len2 c2 : Nat} {ls ms : List α} {M G : List HP} {L' : Option Addr → Nat → List HP}
    (hzs : z.cells.size = Enc.sz α) (hx : ev fm x = some (.slice a len cap)) (hy : ev fm y = some (.slice a2 len2 c2)) (hu : ∀ a' cap', Up L (Sl e a cap ls) (Sl e a' cap' (ls ++ ms)) (L' a' cap')) (hpk : Pk L (M ++ G)) (hv : Sees M (fun w => Vw w a2 ms))
    (hl1 : len = ls.length) (hl2 : len2 = ms.length) (h63 : ls.length + ms.length ≤ maxLen) (hbytes : (ls.length + ms.length) * by_ ≤ 140737488355328) (hd : Nat.blt d n = true)
    (k : ∀ a' cap', (a' = none → ls ++ ms = []) → J n ((d, .slice a' (ls ++ ms).length cap') :: fm) (L' a' cap') (runS P EE ops K rest)) :
    J n fm L (runS P EE ops K (⟨some d, .call ⟨.builtin .append, #[x, y], #[t, t]⟩, ty, pos, after, none⟩ :: rest)) := by
  subst hl1
  subst hl2
  refine j_write (L' := fun u N => ∃ a' cap', u = .slice a' (ls ++ ms).length cap' ∧ N = L' a' cap' ∧ (a' = none → ls ++ ms = [])) (by rfl) (fun aa w hr hw => ?_) hd (fun u N ⟨a', cap', h1, h2, h3⟩ => by subst h1; subst h2; exact k a' cap' h3)
  obtain ⟨i, hi, _⟩ := (hu none 0).get
  obtain ⟨hl, own, hown⟩ := id hw
  have hO := hown i _ hi
  have hR := hv w (hw.pk hpk).append_left
  obtain ⟨a', cap', w', hrun, hO', hkeep, hk0⟩ := run_append_any (P := P) (ty := ty) (t := t) (c2 := c2) hzs Enc.pos hO hR (fun h => by rw [h] at hR; simpa using hR.nil_addr) (map_enc_one ms) (by simpa using h63) (by simpa using hbytes)
  obtain ⟨i', hi', hL'⟩ := (hu a' cap').get
  rw [← List.map_append] at hrun hO'
  simp only [List.length_map] at hrun
  have hs' : Sat (L' a' cap') w' := by
    rw [hL']
    classical
    refine ⟨fun B hB => ?_, fun b => if w.heap.size ≤ b then i' else own b, fun j B hj => ?_⟩
    · rcases List.mem_or_eq_of_mem_set hB with h | h
      · exact hl B h
      · subst h; infer_instance
    · have hil : i' < L.length := (List.getElem?_eq_some_iff.1 hi').1
      by_cases hij : i' = j
      · subst hij
        rw [List.getElem?_set_self hil] at hj
        obtain rfl := Option.some.inj hj
        have hO2 := hown i' _ hi'
        obtain ⟨a2', cap2', w2', hrun2, hO2', hkeep2, hk2⟩ := run_append_any (P := P) (ty := ty) (t := t) (c2 := c2) hzs Enc.pos hO2 hR (fun h => by rw [h] at hR; simpa using hR.nil_addr) (map_enc_one ms) (by simpa using h63) (by simpa using hbytes)
        rw [← List.map_append] at hrun2 hO2'
        simp only [List.length_map] at hrun2
        rw [hrun2] at hrun
        simp only [Result.ok.injEq, Value.slice.injEq] at hrun
        obtain ⟨⟨rfl, _, rfl⟩, rfl⟩ := hrun
        refine cast ?_ hO2'
        congr 1
        funext b
        by_cases hb : w.heap.size ≤ b <;> simp [hb]
      · rw [List.getElem?_set_ne hij] at hj
        have := hl B (List.mem_of_getElem? hj)
        have hO2 := hown i' _ hi'
        obtain ⟨a2', cap2', w2', hrun2, hO2', hkeep2, hk2⟩ := run_append_any (P := P) (ty := ty) (t := t) (c2 := c2) hzs Enc.pos hO2 hR (fun h => by rw [h] at hR; simpa using hR.nil_addr) (map_enc_one ms) (by simpa using h63) (by simpa using hbytes)
        simp only [List.length_append, List.length_map] at hrun2 hrun
        rw [hrun2] at hrun
        simp only [Result.ok.injEq, Value.slice.injEq] at hrun
        obtain ⟨_, rfl⟩ := hrun
        refine Loc.loc (hown j B hj) (fun b hb hS => ⟨?_, hkeep2 b hb (fun he => hij (he.symm.trans hS))⟩) hk2
        show (if w.heap.size ≤ b then i' else own b) = j
        rw [if_neg (by omega)]
        exact hS
  refine ⟨_, w', _, ?_, ⟨a', cap', rfl, rfl, fun h => ?_⟩, hs'⟩
  · simp [execOp, resolve, invoke, builtin, hr.ev hx, hr.ev hy, hrun]
  · rcases hO'.2 with ⟨_, h3⟩ | ⟨b, junk, h3, _⟩
    · simpa using h3
    · rw [h] at h3; cases h3

/-- '[]T{x}', x told -/
theorem j_lit1 {t e : TypeId} {n1 by_ : Nat} {d1 : TypeDesc} {z : Value} {x : Operand} {v : Value} [hs : TyC P t (.slice e) n1] [he : TyC P e d1 (Enc.sz α)] [hz : TyZ P e z by_] (hzs : z.cells.size = Enc.sz α) (hx : ev fm x = some v) (x' : α) (hv : v.cells.toList = Enc.enc x')
    (hsz : Enc.sz α ≤ 16777216) (hd : Nat.blt d n = true) (k : ∀ b, J n ((d, .slice (some ⟨b, 0, none⟩) 1 1) :: fm) (blk b e (Enc.enc x') :: L) (runS P EE ops K rest)) : J n fm L (runS P EE ops K (⟨some d, .buildSlice t 1 #[(0, x)], ty, pos, after, none⟩ :: rest)) :=
  j_buildSlice1 hzs hx (by rw [hv, Enc.len]) ⟨Enc.pos, hsz⟩ hd (fun b => by rw [hv]; exact k b)

/-- the place of an element -/
theorem j_idx {t e : TypeId} {n1 : Nat} {d1 : TypeDesc} {x y : Operand} {a0 : Option Addr} {len cap : Nat} {ki : IntKind} {i : Int} [hs : TyC P t (.slice e) n1] [he : TyC P e d1 (Enc.sz α)] {M G : List HP} {ls : List α}
    (hx : ev fm x = some (.slice a0 len cap)) (hy : ev fm y = some (.int ki i)) (hpk : Pk L (M ++ G)) (hv : Sees M (fun w => Vw w a0 ls)) (hlen : len = ls.length) (j : Nat) (hj : i = (j : Int)) (hlt : j < ls.length) (hd : Nat.blt d n = true)
    (k : ∀ b o, a0 = some ⟨b, o, none⟩ → (∀ q v, (Enc.enc ls[j])[q]? = some v → Sees M (fun w => w.cell? ⟨b, o + j * Enc.sz α + q, none⟩ = some v)) → J n ((d, .pointer (some ⟨b, o + j * Enc.sz α, none⟩)) :: fm) L (runS P EE ops K rest)) :
    J n fm L (runS P EE ops K (⟨some d, .indexAddr t x y, ty, pos, after, none⟩ :: rest)) :=
  j_index (P := P) hx hy hpk hv (by simpa using hlen) j hj (by simpa using hlt) hd (fun b o ha hc => k b o ha (fun q v hq w hw => hc w hw q v (by simpa using hq)))

/-- x[lo:hi], both told by their numbers -/
theorem j_slice {t e : TypeId} {n1 sz : Nat} {d1 : TypeDesc} {x : Operand} {lo hi mx : Option Operand} {a0 : Option Addr} {len cap : Nat} [hs : TyC P t (.slice e) n1] [he : TyC P e d1 sz] (l h m : Nat)
    (hx : ev fm x = some (.slice a0 len cap)) (hm : mx = none ∧ m = cap ∨ ∃ y k i, mx = some y ∧ ev fm y = some (.int k i) ∧ i = (m : Int) ∧ m ≤ cap)
    (hh : hi = none ∧ mx = none ∧ h = len ∨ ∃ y k i, hi = some y ∧ ev fm y = some (.int k i) ∧ i = (h : Int) ∧ h ≤ m)
    (hl : lo = none ∧ l = 0 ∨ ∃ y k i, lo = some y ∧ ev fm y = some (.int k i) ∧ i = (l : Int) ∧ l ≤ h) (hd : Nat.blt d n = true)
    (k : J n ((d, .slice (offA a0 l m sz) (h - l) (m - l)) :: fm) L (runS P EE ops K rest)) :
    J n fm L (runS P EE ops K (⟨some d, .slice t x lo hi mx, ty, pos, after, none⟩ :: rest)) :=
  j_pure (by first | (simp [cls]; done) | (simp only [cls]; split <;> simp; done) | (simp only [cls]; split <;> (try split) <;> simp)) (fun a w hr => by
    have hsz := he.size
    cases hinf : P.info? e with
    | none => simp [hinf] at hsz
    | some inf =>
      simp [hinf] at hsz
      have hb : (Instr.sliceBounds true len cap (lo.map a.eval) (hi.map a.eval) (mx.map a.eval)).run P w = .ok (l, h, m) w := by
        rcases hm with ⟨rfl, rfl⟩ | ⟨ym, km, im, rfl, hym, rfl, hmc⟩ <;> rcases hh with ⟨rfl, h0, rfl⟩ | ⟨yh, kh, ih, rfl, hyh, rfl, hhm⟩ <;> rcases hl with ⟨rfl, rfl⟩ | ⟨yl, kl, il, rfl, hyl, rfl, hlh⟩ <;>
          (first | (cases h0; done) | skip) <;> simp_all [Instr.sliceBounds, Instr.sliceBound, asIntOf, hr.ev]
      simp [execOp, hr.ev hx, Instr.sliceAt, run_underlying hs.und, Instr.slice, hb, sizeOf, typeInfo, hinf, hsz, offA]) hd k

theorem j_sl_none {X : Act → World → Prop} {T : TypeId} {a : Option Addr} {cap : Nat} {ls : List α} (hA : At L (Sl T a cap ls)) (h : (a = none → ls = []) → J n fm L X) : J n fm L X := by
  intro aa w hr hw
  obtain ⟨S, hS⟩ := hw.at hA
  refine h (fun e => ?_) aa w hr hw
  rcases hS.2 with ⟨_, h0⟩ | ⟨b, junk, ha, _⟩
  · simpa using h0
  · rw [e] at ha; cases ha
/-- two values of a type that is told are held against each other -/
class EqE (P : Program) (t : TypeId) (α : Type) [Enc α] : Prop where
  eq : ∀ (q : Nat) (x y : α) (w : World), ∃ b : Bool, (Op.equalIn (q + 10) t (.agg (Enc.enc x).toArray) (.agg (Enc.enc y).toArray)).run P w = .ok b w ∧ (b = true ↔ x = y)
  guard : P.eqGuardType P.depth t = false
theorem run_part1 {t : TypeId} {d1 : TypeDesc} {n1 : Nat} [ht : TyC P t d1 n1] (ha : aggT d1 = false) {xs : Array Value} {o : Nat} {v : Value} (hv : xs[o]? = some v) (w : World) : (part t xs o).run P w = .ok v w := by
  simp [part, run_isAgg ht.und, ha, hv]
theorem j_eqS {t t2 : TypeId} {x y : Operand} {p q : α} [he : EqE P t α] (hx : ev fm x = some (.agg (Enc.enc p).toArray)) (hy : ev fm y = some (.agg (Enc.enc q).toArray)) (hd : Nat.blt d n = true)
    (k : ∀ b : Bool, (b = true ↔ p = q) → J n ((d, .bool b) :: fm) L (runS P EE ops K rest)) : J n fm L (runS P EE ops K (⟨some d, .binOp .eql t x y t2, ty, pos, after, none⟩ :: rest)) := by
  obtain ⟨b, hb, hpq⟩ := he.eq 9990 p q default
  refine j_pure (v := .bool b) (by simp [cls]) (fun a w hr => ?_) hd (k b hpq)
  obtain ⟨b', hb', hpq'⟩ := he.eq 9990 p q w
  have : b' = b := by cases b <;> cases b' <;> simp_all
  subst this
  simp only [execOp, hr.ev hx, hr.ev hy, Sem.run_bind, run_eqGuard_agg w .eql t x y _ _ he.guard, Result.andThen_ok, run_eql_struct, hb', Sem.run_pure]
theorem j_neS {t t2 : TypeId} {x y : Operand} {p q : α} [he : EqE P t α] (hx : ev fm x = some (.agg (Enc.enc p).toArray)) (hy : ev fm y = some (.agg (Enc.enc q).toArray)) (hd : Nat.blt d n = true)
    (k : ∀ b : Bool, (b = true ↔ p ≠ q) → J n ((d, .bool b) :: fm) L (runS P EE ops K rest)) : J n fm L (runS P EE ops K (⟨some d, .binOp .neq t x y t2, ty, pos, after, none⟩ :: rest)) := by
  obtain ⟨b, hb, hpq⟩ := he.eq 9990 p q default
  refine j_pure (v := .bool (!b)) (by simp [cls]) (fun a w hr => ?_) hd (k (!b) (by cases b <;> simp_all))
  obtain ⟨b', hb', hpq'⟩ := he.eq 9990 p q w
  have : b' = b := by cases b <;> cases b' <;> simp_all
  subst this
  simp only [execOp, hr.ev hx, hr.ev hy, Sem.run_bind, run_eqGuard_agg w .neq t x y _ _ he.guard, Result.andThen_ok, run_neq_struct, hb', Sem.run_pure]

/-- an owned slice that holds something lies at an array's head -/
theorem j_sl_some {X : Act → World → Prop} {T : TypeId} {a : Option Addr} {cap : Nat} {ls : List α} (hA : At L (Sl T a cap ls)) (hne : 0 < ls.length) (h : ∀ b, a = some ⟨b, 0, none⟩ → J n fm L X) : J n fm L X := by
  intro aa w hr hw
  obtain ⟨S, hS⟩ := hw.at hA
  rcases hS.2 with ⟨_, h0⟩ | ⟨b, junk, ha, _⟩
  · have : ls = [] := by simpa using h0
    subst this; simp at hne
  · exact h b ha aa w hr hw
theorem offA_some {b o k cap sz : Nat} (h : k < cap) : offA (some ⟨b, o, none⟩) k cap sz = some ⟨b, o + k * sz, none⟩ := by
  unfold offA
  rw [if_neg (by omega)]
  simp [add_lit]
theorem offA_zero {a : Option Addr} {cap sz : Nat} (h : ∀ ad, a = some ad → ad.spot = none) : offA a 0 cap sz = a := by
  unfold offA
  split
  · rfl
  · cases a with
    | none => rfl
    | some ad => simp [Addr.add]
/-- what lies behind the length is forgotten -/
theorem j_shrink {X : Act → World → Prop} {T : TypeId} {a : Option Addr} {cap : Nat} {ls : List α} {L' : List HP} (k : Nat) (hu : Up L (Sl T a cap ls) (Sl T a cap (ls.take k)) L') (h : J n fm L' X) : J n fm L X := by
  intro aa w hr hw
  refine h aa w hr (hw.up hu (fun S hS => ⟨?_, fun _ _ _ => rfl⟩) (Kept0.refl w))
  refine ⟨map_enc_len _, ?_⟩
  rcases hS.2 with ⟨h1, h0⟩ | ⟨b, junk, ha, hSb, hh, hc1, hc2, hc3⟩
  · have : ls = [] := by simpa using h0
    subst this
    exact .inl ⟨h1, by simp⟩
  · refine .inr ⟨b, ((ls.drop k).map (Enc.enc (α := α))).flatten ++ junk, ha, .inl hSb, ?_, hc1, ?_, ?_⟩
    · rw [hh, ← List.append_assoc, ← List.flatten_append, ← List.map_append, List.take_append_drop]
    · rw [List.length_append, flatten_length _ (map_enc_len _), ← Nat.add_assoc, ← Nat.add_mul, ← List.length_append, ← List.map_append, List.take_append_drop]
      exact hc2
    · simp at hc3 ⊢; omega
/-- x[k:] of a slice at a place that is known; x[:k] -/
theorem j_from {t e : TypeId} {n1 sz : Nat} {d1 : TypeDesc} {x y : Operand} {a0 : Option Addr} {len cap : Nat} {kk : IntKind} {i : Int} [hs : TyC P t (.slice e) n1] [he : TyC P e d1 sz] (l : Nat)
    (hx : ev fm x = some (.slice a0 len cap)) (hy : ev fm y = some (.int kk i)) (hi : i = (l : Int)) (hl : l ≤ len) (hd : Nat.blt d n = true)
    (k : J n ((d, .slice (offA a0 l cap sz) (len - l) (cap - l)) :: fm) L (runS P EE ops K rest)) : J n fm L (runS P EE ops K (⟨some d, .slice t x (some y) none none, ty, pos, after, none⟩ :: rest)) :=
  j_slice l len cap hx (.inl ⟨rfl, rfl⟩) (.inl ⟨rfl, rfl, rfl⟩) (.inr ⟨y, kk, i, rfl, hy, hi, hl⟩) hd k
theorem j_to {t e : TypeId} {n1 sz : Nat} {d1 : TypeDesc} {x y : Operand} {a0 : Option Addr} {len cap : Nat} {kk : IntKind} {i : Int} [hs : TyC P t (.slice e) n1] [he : TyC P e d1 sz] (h : Nat)
    (hx : ev fm x = some (.slice a0 len cap)) (hy : ev fm y = some (.int kk i)) (hi : i = (h : Int)) (hl : h ≤ cap) (ha : ∀ ad, a0 = some ad → ad.spot = none) (hd : Nat.blt d n = true)
    (k : J n ((d, .slice a0 h cap) :: fm) L (runS P EE ops K rest)) : J n fm L (runS P EE ops K (⟨some d, .slice t x none (some y) none, ty, pos, after, none⟩ :: rest)) :=
  j_slice 0 h cap hx (.inl ⟨rfl, rfl⟩) (.inr ⟨y, kk, i, rfl, hy, hi, hl⟩) (.inl ⟨rfl, rfl⟩) hd (by rw [offA_zero ha]; exact k)

/-- a slice without room that is nobody's -/
theorem j_sl0 {X : Act → World → Prop} (T : TypeId) (a : Option Addr) (h : J n fm (Sl T a 0 ([] : List α) :: L) X) : J n fm L X :=
  fun aa w hr hw => h aa w hr (hw.new (A' := Sl T a 0 ([] : List α)) ⟨fun x hx => (by cases hx), .inl ⟨rfl, rfl⟩⟩ (fun _ _ => rfl) (Kept0.refl w))

/-- '[]T{}' -/
theorem j_lit0 {t e : TypeId} {n1 : Nat} {d1 : TypeDesc} [hs : TyC P t (.slice e) n1] [he : TyC P e d1 (Enc.sz α)] (hd : Nat.blt d n = true)
    (k : ∀ b, J n ((d, .slice (some ⟨b, 0, none⟩) 0 0) :: fm) (Sl e (some ⟨b, 0, none⟩) 0 ([] : List α) :: L) (runS P EE ops K rest)) : J n fm L (runS P EE ops K (⟨some d, .buildSlice t 0 #[], ty, pos, after, none⟩ :: rest)) :=
  j_new (T := e) (l := []) (f := fun b => .slice (some ⟨b, 0, none⟩) 0 0) rfl (fun a w hr => by
    have h1 := he.size
    cases hinf : P.info? e with
    | none => simp [hinf] at h1
    | some inf =>
      simp [hinf] at h1
      simp [execOp, Instr.buildSlice, run_underlying hs.und, sizeOf, typeInfo, hinf, Instr.fill, newRow]
      congr 2
      exact Array.eq_empty_of_size_eq_zero (by simp)) hd (fun b => j_tail (j_sl0 e _ (k b)))

theorem set_flat {sz : Nat} : ∀ (xs : List (List Value)) (j q : Nat) (x : List Value) (v : Value), (∀ x ∈ xs, x.length = sz) → xs[j]? = some x → q < sz → xs.flatten.set (j * sz + q) v = (xs.set j (x.set q v)).flatten
  | [], j, q, x, v, _, h, _ => by simp at h
  | y :: ys, 0, q, x, v, hl, h, hq => by
    simp at h; subst h
    have := hl y (List.mem_cons_self ..)
    simp only [List.flatten_cons, List.set_cons_zero, Nat.zero_mul, Nat.zero_add]
    rw [List.set_append_left _ _ (by omega)]
  | y :: ys, j + 1, q, x, v, hl, h, hq => by
    have hy := hl y (List.mem_cons_self ..)
    have := set_flat ys j q x v (fun z hz => hl z (List.mem_cons_of_mem _ hz)) (by simpa using h) hq
    simp only [List.flatten_cons, List.set_cons_succ]
    rw [List.set_append_right _ _ (by rw [hy, Nat.succ_mul]; omega), hy, show (j + 1) * sz + q - sz = j * sz + q from by rw [Nat.succ_mul]; omega, this]

/-- one cell of an element stored -/
theorem j_set_sl {t : TypeId} {d1 : TypeDesc} {x y : Operand} {b o : Nat} {T : TypeId} {cap : Nat} {ls : List α} {v : Value} {L' : List HP} {n1 : Nat} [ht : TyC P t d1 n1] (h1 : Nat.beq n1 1 = true) (hx : ev fm x = some (.pointer (some ⟨b, o, none⟩)))
    (hy : ev fm y = some v) (hv : v.oneCell' = true) (j q : Nat) (hlt : j < ls.length) (ho : o = 0 + j * Enc.sz α + q) (hq : q < Enc.sz α) (x' : α) (hx' : Enc.enc x' = (Enc.enc ls[j]).set q v) (hA : Up L (Sl T (some ⟨b, 0, none⟩) cap ls) (Sl T (some ⟨b, 0, none⟩) cap (ls.set j x')) L')
    (k : J n fm L' (runS P EE ops K rest)) : J n fm L (runS P EE ops K (⟨none, .store t x y, ty, pos, after, none⟩ :: rest)) :=
  j_store rfl (fun a w hr hw => by
    have e1 : n1 = 1 := Nat.eq_of_beq_eq_true h1
    subst e1
    rw [Nat.zero_add] at ho
    subst ho
    have hsz := ht.size
    have hcells : v.cells = #[v] := by cases v <;> first | rfl | (simp [Value.oneCell'] at hv)
    cases hinf : P.info? t with
    | none => simp [hinf] at hsz
    | some inf =>
      simp [hinf] at hsz
      obtain ⟨S, hS⟩ := hw.at (by obtain ⟨i, hi, _⟩ := hA.get; exact at_of_get hi)
      rcases hS.2 with ⟨_, h0⟩ | ⟨b', junk, hb, _, hh, _⟩
      · have : ls = [] := by simpa using h0
        subst this; simp at hlt
      · simp only [Option.some.injEq, Addr.mk.injEq] at hb
        obtain ⟨rfl, _⟩ := hb
        have hfl := flatten_length _ (map_enc_len ls)
        have hlt2 : j * Enc.sz α + q < (ls.map (Enc.enc (α := α))).flatten.length := by
          rw [hfl, List.length_map]
          have : (j + 1) * Enc.sz α ≤ ls.length * Enc.sz α := Nat.mul_le_mul_right _ hlt
          rw [Nat.succ_mul] at this
          omega
        refine ⟨w.setCell ⟨b, j * Enc.sz α + q, none⟩ v, ?_, hw.up hA (fun S' hS' => ?_) ⟨rfl, rfl, rfl⟩⟩
        · have hc : (w.cell? ⟨b, j * Enc.sz α + q, none⟩).isSome = true := by
            simp only [World.cell?, hh, Option.isSome_none, Bool.false_eq_true, if_false]
            rw [List.getElem?_toArray, List.getElem?_append_left hlt2, List.getElem?_eq_getElem hlt2]
            rfl
          obtain ⟨u, hu⟩ := Option.isSome_iff_exists.1 hc
          have hf : w.frozen? ⟨b, j * Enc.sz α + q, none⟩ = false := by simp [World.frozen?, hh]
          have hst := run_store P w ⟨b, j * Enc.sz α + q, none⟩ v .plain hv
          rw [hu] at hst
          simp only [hf, Bool.false_eq_true, if_false] at hst
          simp [execOp, hr.ev hx, hr.ev hy, Instr.storeAt, Instr.sureAddr, storeVar, sizeOf, typeInfo, hinf, hsz, hcells, storeCells, add_lit, hst]
        · refine ⟨⟨map_enc_len _, ?_⟩, fun k hk hn => ?_⟩
          · rcases hS'.2 with ⟨_, h0⟩ | ⟨b', junk', hb, hSb, hh', h1, h2, h3⟩
            · have : ls = [] := by simpa using h0
              subst this; simp at hlt
            · simp only [Option.some.injEq, Addr.mk.injEq] at hb
              obtain ⟨rfl, _⟩ := hb
              refine .inr ⟨b, junk', rfl, .inl hSb, ?_, h1, by simpa using h2, by simpa using h3⟩
              simp only [World.setCell, Array.getElem?_modify, if_true, hh', Option.map_some]
              congr 2
              apply Array.toList_inj.1
              simp only [Option.isSome_none, Bool.false_eq_true, if_false, Array.toList_setIfInBounds]
              rw [List.set_append_left _ _ hlt2, set_flat _ j q _ v (map_enc_len ls) (by rw [List.getElem?_map, List.getElem?_eq_getElem hlt]; rfl) hq, ← hx', List.map_set]
          · rcases hS'.2 with ⟨_, h0⟩ | ⟨b', junk', hb, hSb, hh', h1, h2, h3⟩
            · have : ls = [] := by simpa using h0
              subst this; simp at hlt
            · simp only [Option.some.injEq, Addr.mk.injEq] at hb
              obtain ⟨rfl, _⟩ := hb
              have : b ≠ k := fun e => hn (e ▸ hSb)
              simp [World.setCell, Array.getElem?_modify, this]) k

/-- copy onto a part of an owned slice -/
theorem j_copy {t e : TypeId} {n1 : Nat} {d1 : TypeDesc} {x y : Operand} [hs : TyC P t (.slice e) n1] [he : TyC P e d1 (Enc.sz α)] {b cap : Nat} {a2 : Option Addr} {dlen dcap slen scap : Nat} {ls ms : List α} {M G L' : List HP} (k0 : Nat) {o : Nat}
    (hx : ev fm x = some (.slice (some ⟨b, o, none⟩) dlen dcap)) (ho : o = 0 + k0 * Enc.sz α) (hy : ev fm y = some (.slice a2 slen scap)) (hpk : Pk L (M ++ G)) (hv : Sees M (fun w => Vw w a2 ms)) (hl2 : slen = ms.length) (hfit : k0 + dlen ≤ ls.length)
    (hA : Up L (Sl e (some ⟨b, 0, none⟩) cap ls) (Sl e (some ⟨b, 0, none⟩) cap (ls.take k0 ++ ms.take dlen ++ ls.drop (k0 + min slen dlen))) L') (hd : Nat.blt d n = true)
    (k : J n ((d, .int .i64 (min slen dlen : Nat)) :: fm) L' (runS P EE ops K rest)) : J n fm L (runS P EE ops K (⟨some d, .call ⟨.builtin .copy, #[x, y], #[t, t]⟩, ty, pos, after, none⟩ :: rest)) := by
  subst hl2
  rw [Nat.zero_add] at ho
  subst ho
  refine j_write (L' := fun u N => u = .int .i64 (min ms.length dlen : Nat) ∧ N = L') (by rfl) (fun aa w hr hw => ?_) hd (fun u N ⟨h1, h2⟩ => by subst h1; subst h2; exact k)
  have hR := hv w (hw.pk hpk).append_left
  have hsz := he.size
  obtain ⟨i, hi, hL'⟩ := hA.get
  obtain ⟨S, hS⟩ := hw.get hi
  cases hinf : P.info? e with
  | none => simp [hinf] at hsz
  | some inf =>
    simp [hinf] at hsz
    -- what is read
    have hcs : (Builtin.firstCells (Enc.sz α) (min ms.length dlen) (.slice a2 ms.length scap)).run P w = .ok ((ms.take dlen).map (Enc.enc (α := α))).flatten.toArray w := by
      have hlenT : ((ms.take dlen).map (Enc.enc (α := α))).flatten.length = (min ms.length dlen) * Enc.sz α := by
        rw [flatten_length _ (map_enc_len _)]; simp [Nat.min_comm]
      rcases hR.2 with h0 | ⟨b2, o2, rfl, hread⟩
      · have : ms = [] := by simpa using h0
        subst this
        cases a2 <;> simp [Builtin.firstCells, loadCells, loadCellsFrom]
      · refine run_firstCells_some (P := P) w (Enc.sz α) _ ⟨b2, o2, none⟩ _ _ _ hlenT (fun j v hj => ?_)
        have hlt := (List.getElem?_eq_some_iff.1 hj).1
        rw [hlenT] at hlt
        have hp := Enc.pos (α := α)
        have hq : j / Enc.sz α < min ms.length dlen := by rw [Nat.div_lt_iff_lt_mul hp]; exact hlt
        have hdm : j / Enc.sz α * Enc.sz α + j % Enc.sz α = j := by rw [Nat.mul_comm]; exact Nat.div_add_mod j _
        have hqm : j / Enc.sz α < ms.length := by omega
        have hx1 : ((ms.take dlen).map (Enc.enc (α := α)))[j / Enc.sz α]? = some (Enc.enc ms[j / Enc.sz α]) := by
          rw [List.getElem?_map, List.getElem?_take_of_lt (by omega), List.getElem?_eq_getElem hqm]; rfl
        have hml : j % Enc.sz α < (Enc.enc ms[j / Enc.sz α]).length := by rw [Enc.len]; exact Nat.mod_lt _ hp
        have hf := flatten_get _ (j / Enc.sz α) (j % Enc.sz α) _ _ (map_enc_len _) hx1 (List.getElem?_eq_getElem hml)
        rw [hdm, hj] at hf
        rw [add_lit]
        have := hread (j / Enc.sz α) (Enc.enc ms[j / Enc.sz α]) (by rw [List.getElem?_map, List.getElem?_eq_getElem hqm]; rfl) (j % Enc.sz α) _ (List.getElem?_eq_getElem hml)
        rw [Nat.add_assoc, hdm] at this
        rw [this]
        exact hf.symm
    have hlenT : ((ms.take dlen).map (Enc.enc (α := α))).flatten.length = (min ms.length dlen) * Enc.sz α := by
      rw [flatten_length _ (map_enc_len _)]; simp [Nat.min_comm]
    rcases hS.2 with ⟨_, h0⟩ | ⟨b', junk, hb, _, hh, hc1, hc2, hc3⟩
    · -- nothing there: nothing is copied
      have h00 : ls = [] := by simpa using h0
      subst h00
      simp only [List.length_nil] at hfit
      have hk0 : k0 = 0 := by omega
      have hdl : dlen = 0 := by omega
      subst hk0; subst hdl
      refine ⟨_, w, _, ?_, ⟨rfl, rfl⟩, ?_⟩
      · simp at hcs
        simp [execOp, resolve, invoke, builtin, hr.ev hx, hr.ev hy, Builtin.copy_, run_underlying hs.und, Builtin.lenOf, sizeOf, typeInfo, hinf, hsz, hcs, storeCells, goInt]
      · rw [hL']
        have : L.set i (Sl e (some ⟨b, 0, none⟩) cap (List.take 0 ([] : List α) ++ List.take 0 ms ++ List.drop (0 + min ms.length 0) [])) = L := by
          obtain ⟨h1, h2⟩ := List.getElem?_eq_some_iff.1 hi
          simp
          rw [← h2]; exact List.set_getElem_self h1
        rw [this]; exact hw
    · simp only [Option.some.injEq, Addr.mk.injEq] at hb
      obtain ⟨rfl, _⟩ := hb
      have hfl := flatten_length _ (map_enc_len ls)
      rw [List.length_map] at hfl hc2 hc3
      have hmul : (k0 + min ms.length dlen) * Enc.sz α ≤ ls.length * Enc.sz α := Nat.mul_le_mul_right _ (by omega)
      rw [Nat.add_mul] at hmul
      have hst := run_storeCells_at P b (k0 * Enc.sz α) e ((ms.take dlen).map (Enc.enc (α := α))).flatten 0 _ w hh (by rw [hlenT]; simp [hfl]; omega) (fun v hv => by
        obtain ⟨y, hy, hvy⟩ := List.mem_flatten.1 hv
        exact map_enc_one _ y hy v hvy)
      have hrun : (Builtin.copy_ #[t, t] ty #[.slice (some ⟨b, k0 * Enc.sz α, none⟩) dlen dcap, .slice a2 ms.length scap]).run P w = .ok (.int .i64 (min ms.length dlen : Nat)) (w.setRow b (((ls.map (Enc.enc (α := α))).flatten ++ junk).toArray.toList.take (k0 * Enc.sz α + 0) ++ ((ms.take dlen).map (Enc.enc (α := α))).flatten ++ ((ls.map (Enc.enc (α := α))).flatten ++ junk).toArray.toList.drop (k0 * Enc.sz α + 0 + ((ms.take dlen).map (Enc.enc (α := α))).flatten.length)).toArray) := by
        generalize ((ms.take dlen).map (Enc.enc (α := α))).flatten = FF at hcs hst ⊢
        have hmin : Nat.min ms.length dlen = min ms.length dlen := rfl
        simp only [Builtin.copy_, Sem.run_bind, List.getElem?_toArray, List.getElem?_cons_zero, List.getElem?_cons_succ, run_underlying hs.und, Result.andThen_ok, Builtin.lenOf, Sem.run_pure, hmin, sizeOf, typeInfo, run_program, hinf, hsz, hcs, hst, goInt]
      refine ⟨_, w.setRow b _, _, by
        simp only [execOp, resolve, invoke, builtin, Sem.run_bind, Sem.run_pure, Result.andThen_ok, List.map_toArray, List.map_cons, List.map_nil, hr.ev hx, hr.ev hy, hrun]
        exact rfl, ⟨rfl, rfl⟩, hw.up hA (fun S' hS' => ?_) ⟨rfl, rfl, rfl⟩⟩
      refine ⟨⟨map_enc_len _, ?_⟩, fun q hq hn => ?_⟩
      · rcases hS'.2 with ⟨hcap, h0⟩ | ⟨b', junk', hb', hSb, hh', h1, h2, h3⟩
        · have h00 : ls = [] := by simpa using h0
          subst h00
          simp only [List.length_nil] at hfit
          have hk0 : k0 = 0 := by omega
          have hdl : dlen = 0 := by omega
          subst hk0; subst hdl
          left
          exact ⟨hcap, by simp⟩
        · simp only [Option.some.injEq, Addr.mk.injEq] at hb'
          obtain ⟨rfl, _⟩ := hb'
          rw [hh] at hh'
          simp only [Option.some.injEq, Obj.cells.injEq, and_true] at hh'
          have hj : junk = junk' := by
            have := congrArg Array.toList hh'
            simpa using this
          subst hj
          refine .inr ⟨b, junk, rfl, .inl hSb, ?_, hc1, ?_, ?_⟩
          · refine (setRow_heap w b _ _ e (0, 0) hh).trans ?_
            congr 2
            simp only [Nat.add_zero, List.map_append, List.flatten_append, List.map_take, List.map_drop]
            have e1 : List.take (k0 * Enc.sz α) ((ls.map (Enc.enc (α := α))).flatten ++ junk) = (List.take k0 (ls.map (Enc.enc (α := α)))).flatten := by
              rw [List.take_append_of_le_length (by rw [hfl]; exact Nat.mul_le_mul_right _ (by omega))]
              exact take_flat _ k0 (map_enc_len ls)
            have e2 : List.drop (k0 * Enc.sz α + ((List.take dlen (ms.map (Enc.enc (α := α)))).flatten).length) ((ls.map (Enc.enc (α := α))).flatten ++ junk) = (List.drop (k0 + min ms.length dlen) (ls.map (Enc.enc (α := α)))).flatten ++ junk := by
              rw [← List.map_take, hlenT, ← Nat.add_mul, List.drop_append_of_le_length (by rw [hfl, Nat.add_mul]; exact hmul)]
              rw [drop_flat _ _ (map_enc_len ls)]
            rw [e1, e2, List.append_assoc, List.append_assoc, List.append_assoc]
          · have : ((ls.take k0 ++ ms.take dlen ++ ls.drop (k0 + min ms.length dlen)).map (Enc.enc (α := α))).length = ls.length := by simp; omega
            rw [this]; exact hc2
          · have : ((ls.take k0 ++ ms.take dlen ++ ls.drop (k0 + min ms.length dlen)).map (Enc.enc (α := α))).length = ls.length := by simp; omega
            rw [this]; exact hc3
      · rcases hS'.2 with ⟨h00, h0⟩ | ⟨b', junk', hb', hSb, hh', h1, h2, h3⟩
        · have h00 : ls = [] := by simpa using h0
          subst h00
          simp only [List.length_nil] at hfit
          have hk0 : k0 = 0 := by omega
          have hdl : dlen = 0 := by omega
          subst hk0; subst hdl
          by_cases hqb : q = b
          · subst hqb
            refine (setRow_heap w q _ _ e (0, 0) hh).trans ?_
            rw [hh]; simp
          · exact setRow_other w b q _ hqb
        · simp only [Option.some.injEq, Addr.mk.injEq] at hb'
          obtain ⟨rfl, _⟩ := hb'
          exact setRow_other w b q _ (fun e => hn (e ▸ hSb))

end
end Go.Proofs.Ytnmfpgfgjjmfhaa
