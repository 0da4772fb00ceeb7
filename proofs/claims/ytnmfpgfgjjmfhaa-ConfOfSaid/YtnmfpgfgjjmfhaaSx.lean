/-
  The rules: one for each form of code and of operation.
-/
import Derived.Test.YtnmfpgfgjjmfhaaSw
set_option linter.unusedVariables false
set_option linter.unusedSimpArgs false
namespace Go.Proofs.Ytnmfpgfgjjmfhaa
open Go

/-! ## facts of the program, found by their types' and functions' numbers -/
class TyC (P : Program) (t : TypeId) (d : outParam TypeDesc) (k : outParam Nat) : Prop where
  und : P.underlying t = some d
  size : (P.info? t).map (·.size) = some k
class TyZ (P : Program) (t : TypeId) (z : outParam Value) (bytes : outParam Nat) : Prop where
  zero : (P.info? t).bind (·.zero) = some z
  bytes : (P.info? t).map (·.bytes) = some bytes
class Fnc (P : Program) (f : FuncId) : Prop where
  fn : ∃ fn, P.funcs[f]? = some fn ∧ fn.body.isNone = false ∧ (fn.name == "runtime.NumGoroutine") = false
class Mixed (P : Program) : Prop where
  mixed : P.follows .mixedOrders = true

/-! ## places in a list of assertions -/
inductive At : List HP → HP → Prop
  | z {A : HP} {L : List HP} : At (A :: L) A
  | s {A B : HP} {L : List HP} : At L A → At (B :: L) A
inductive Up : List HP → HP → HP → List HP → Prop
  | z {A A' : HP} {L : List HP} : Up (A :: L) A A' (A' :: L)
  | s {A A' B : HP} {L L' : List HP} : Up L A A' L' → Up (B :: L) A A' (B :: L')
inductive Tk : List HP → HP → List HP → Prop
  | z {A : HP} {L : List HP} : Tk (A :: L) A L
  | s {A B : HP} {L L' : List HP} : Tk L A L' → Tk (B :: L) A (B :: L')
inductive Pk : List HP → List HP → Prop
  | refl {L : List HP} : Pk L L
  | drop {A : HP} {L M : List HP} : Pk L M → Pk (A :: L) M
  | cons {A : HP} {L L' M : List HP} : Tk L A L' → Pk L' M → Pk L (A :: M)

theorem At.get {L : List HP} {A : HP} (h : At L A) : ∃ i : Nat, L[i]? = some A := by
  induction h with
  | z => exact ⟨0, rfl⟩
  | s _ ih => obtain ⟨i, hi⟩ := ih; exact ⟨i + 1, by simpa using hi⟩
theorem Up.get {L L' : List HP} {A A' : HP} (h : Up L A A' L') : ∃ i : Nat, L[i]? = some A ∧ L' = L.set i A' := by
  induction h with
  | z => exact ⟨0, rfl, rfl⟩
  | s _ ih => obtain ⟨i, hi, he⟩ := ih; exact ⟨i + 1, by simpa using hi, by simp [he]⟩
theorem Tk.get {L L' : List HP} {A : HP} (h : Tk L A L') : ∃ i : Nat, L[i]? = some A ∧ L' = L.eraseIdx i := by
  induction h with
  | z => exact ⟨0, rfl, rfl⟩
  | s _ ih => obtain ⟨i, hi, he⟩ := ih; exact ⟨i + 1, by simpa using hi, by simp [he]⟩

theorem Sat.at {L : List HP} {A : HP} {w : World} (h : Sat L w) (k : At L A) : ∃ S, A w S := by
  obtain ⟨i, hi⟩ := k.get
  exact h.get hi
theorem Sat.up {L L' : List HP} {A A' : HP} [Loc A'] {w w' : World} (h : Sat L w) (k : Up L A A' L')
    (hk : ∀ S, A w S → A' w' (fun b => S b ∨ w.heap.size ≤ b) ∧ ∀ b, b < w.heap.size → ¬ S b → w'.heap[b]? = w.heap[b]?) (e : Kept0 w w') : Sat L' w' := by
  obtain ⟨i, hi, rfl⟩ := k.get
  exact h.upd hi hk e
theorem Sat.tk {L L' : List HP} {A : HP} {w : World} (h : Sat L w) (k : Tk L A L') : Sat (A :: L') w := by
  obtain ⟨i, hi, rfl⟩ := k.get
  exact h.front i hi
theorem Pk.map {L M : List HP} (h : Pk L M) : ∃ g : Nat → Nat, (∀ i j, i < M.length → j < M.length → g i = g j → i = j) ∧ ∀ (i : Nat) B, M[i]? = some B → L[g i]? = some B := by
  induction h with
  | refl => exact ⟨id, fun _ _ _ _ h => h, fun _ _ h => h⟩
  | drop _ ih =>
    obtain ⟨g, h1, h2⟩ := ih
    exact ⟨fun i => g i + 1, fun i j hi hj h => h1 i j hi hj (by simpa using h), fun i B hB => by simpa using h2 i B hB⟩
  | @cons A L L' M ht _ ih =>
    obtain ⟨g, h1, h2⟩ := ih
    obtain ⟨i, hi, rfl⟩ := ht.get
    refine ⟨fun j => match j with | 0 => i | j + 1 => if g j < i then g j else g j + 1, fun j k hj hk hjk => ?_, fun j B hB => ?_⟩
    · match j, k, hj, hk, hjk with
      | 0, 0, _, _, _ => rfl
      | 0, k + 1, _, _, h => simp only at h; split at h <;> omega
      | j + 1, 0, _, _, h => simp only at h; split at h <;> omega
      | j + 1, k + 1, hj, hk, h =>
        simp only [List.length_cons] at hj hk
        simp only at h
        have : g j = g k := by split at h <;> split at h <;> omega
        rw [h1 j k (by omega) (by omega) this]
    · match j, hB with
      | 0, hB => simp at hB; subst hB; exact hi
      | j + 1, hB =>
        have h3 := h2 j B (by simpa using hB)
        rw [List.getElem?_eraseIdx] at h3
        simp only
        split at h3
        · rw [if_pos (by assumption)]; exact h3
        · rw [if_neg (by assumption)]; exact h3
theorem Sat.pk {L M : List HP} {w : World} (h : Sat L w) (k : Pk L M) : Sat M w := by
  obtain ⟨g, h1, h2⟩ := k.map
  exact h.re g h1 h2

/-! ## a block of cells: no cell of it is barred -/
def blk (b : Nat) (T : TypeId) (l : List Value) : HP := fun w S => S b ∧ ∃ fz : Nat × Nat, w.heap[b]? = some (.cells l.toArray T fz) ∧ ∀ i, i < l.length → (decide (fz.1 ≤ i) && decide (i < fz.2)) = false
instance (b : Nat) (T : TypeId) (l : List Value) : Loc (blk b T l) := ⟨fun h k _ => by
  obtain ⟨h0, fz, h1, h2⟩ := h
  obtain ⟨k1, k2⟩ := k b (lt_of_heap h1) h0
  exact ⟨k1, fz, k2.trans h1, h2⟩⟩

theorem Sat.hblk {L : List HP} {w : World} (h : Sat L w) {b : Nat} {T : TypeId} {l : List Value} (hi : At L (blk b T l)) :
    ∃ fz : Nat × Nat, w.heap[b]? = some (.cells l.toArray T fz) ∧ ∀ i, i < l.length → (decide (fz.1 ≤ i) && decide (i < fz.2)) = false := by
  obtain ⟨S, h⟩ := h.at hi
  exact h.2

theorem Sat.cell {L : List HP} {w : World} (h : Sat L w) {b : Nat} {T : TypeId} {l : List Value} (hi : At L (blk b T l)) (i : Nat) : w.cell? ⟨b, i, none⟩ = l[i]? := by
  obtain ⟨fz, h1, h2⟩ := h.hblk hi
  simp [World.cell?, h1]
theorem Sat.free {L : List HP} {w : World} (h : Sat L w) {b : Nat} {T : TypeId} {l : List Value} (hi : At L (blk b T l)) (i : Nat) (hlt : i < l.length) : w.frozen? ⟨b, i, none⟩ = false := by
  obtain ⟨fz, h1, h2⟩ := h.hblk hi
  have := h2 i hlt
  simp only [World.frozen?, h1]
  exact this

/-- a new block -/
theorem Sat.alloc {L : List HP} {w : World} (h : Sat L w) (T : TypeId) (l : List Value) : Sat (blk w.heap.size T l :: L) (w.alloc (.cells l.toArray T)) := by
  refine h.new ⟨Nat.le_refl _, (0, 0), ?_, fun i _ => by simp⟩ (fun b hb => heap_alloc_old w _ hb) ⟨rfl, rfl, rfl⟩
  exact heap_alloc_new w _

/-- one cell stored -/
theorem Sat.set {L L' : List HP} {w : World} (h : Sat L w) {b : Nat} {T : TypeId} {l : List Value} {i : Nat} {v : Value} (hu : Up L (blk b T l) (blk b T (l.set i v)) L') :
    Sat L' (w.setCell ⟨b, i, none⟩ v) := by
  refine h.up hu (fun S hS => ?_) ⟨rfl, rfl, rfl⟩
  obtain ⟨h0, fz, h1, h2⟩ := hS
  refine ⟨⟨.inl h0, fz, ?_, fun j hj => h2 j (by simpa using hj)⟩, fun k hk hn => ?_⟩
  · simp [World.setCell, Array.getElem?_modify, h1]
  · have : b ≠ k := fun e => hn (e ▸ h0)
    simp [World.setCell, Array.getElem?_modify, this]

/-! ## rules of code -/
section
variable {P : Program} {EE : EX} {n : Nat} {fm : Fm} {L : List HP} {X : Act → World → Prop} {Q : Exit → Act → World → Prop}

theorem j_seq {x y : Code} (h : J n fm L (x.wp P (Exit.then (y.wp P Q) Q))) : J n fm L ((Code.seq x y).wp P Q) := fun a w hr hs => wp_seq (h a w hr hs)
theorem j_skip (h : J n fm L (Q .normal)) : J n fm L (Code.skip.wp P Q) := fun a w hr hs => wp_skip (h a w hr hs)
theorem j_label {l : Nat} (h : J n fm L (Q .normal)) : J n fm L ((Code.label l).wp P Q) := fun a w hr hs => wp_label (h a w hr hs)
theorem j_exit {id : Nat} (h : J n fm L (Q (.exit id))) : J n fm L ((Code.exit id).wp P Q) := fun a w hr hs => wp_exit (h a w hr hs)
theorem j_ret (h : J n fm L (Q .ret)) : J n fm L (Code.ret.wp P Q) := fun a w hr hs => wp_ret (h a w hr hs)
theorem j_block {id : Nat} {c : Code} (h : J n fm L (c.wp P (Exit.inBlock id Q))) : J n fm L ((Code.block id c).wp P Q) := fun a w hr hs => wp_block (h a w hr hs)
theorem j_then {K : Act → World → Prop} (h : J n fm L K) : J n fm L (Exit.then K Q .normal) := h
theorem j_then_ret {K : Act → World → Prop} (h : J n fm L (Q .ret)) : J n fm L (Exit.then K Q .ret) := h
theorem j_then_exit {K : Act → World → Prop} {id : Nat} (h : J n fm L (Q (.exit id))) : J n fm L (Exit.then K Q (.exit id)) := h
theorem j_inb {id : Nat} (h : J n fm L (Q .normal)) : J n fm L (Exit.inBlock id Q .normal) := h
theorem j_inb_ret {id : Nat} (h : J n fm L (Q .ret)) : J n fm L (Exit.inBlock id Q .ret) := h
theorem j_inb_here {id : Nat} (h : J n fm L (Q .normal)) : J n fm L (Exit.inBlock id Q (.exit id)) := fun a w hr hs => by
  show if id = id then _ else _
  rw [if_pos rfl]
  exact h a w hr hs
theorem j_inb_out {id id' : Nat} (hne : Nat.beq id' id = false) (h : J n fm L (Q (.exit id'))) : J n fm L (Exit.inBlock id Q (.exit id')) := fun a w hr hs => by
  show if id' = id then _ else _
  rw [if_neg (fun e => by rw [e] at hne; simp at hne)]
  exact h a w hr hs
theorem j_region {id : Nat} {l : List Oper} (h : J n fm L (runS P (some fun ch => Q (.panic ch)) l.toArray (Q .normal) l)) : J n fm L ((Code.region id l.toArray false).wp P Q) :=
  fun a w hr hs => wp_region_lit (runS_wpList (EE := some fun ch => Q (.panic ch)) rfl l a w (h a w hr hs))
theorem j_draw {id : Nat} {l : List Oper} [hm : Mixed P] (hq : (seqB P l.toArray && befB l.toArray) = true) (h : J n fm L (runS P none l.toArray (Q .normal) l)) : J n fm L ((Code.region id l.toArray true).wp P Q) :=
  fun a w hr hs => wp_region_text hm.mixed hq (h a w.drew hr hs.drew)
def cutQ {X : Type} (n : Nat) (fc : X → Fm) (Lc : X → List HP) : Exit → Act → World → Prop := fun e a w => e = .normal ∧ ∃ x, Rep n (fc x) a ∧ Sat (Lc x) w
/-- what is known behind a piece of code, told; all ways through it meet there -/
theorem j_cut {X : Type} (fc : X → Fm) (Lc : X → List HP) {c : Code} (h : J n fm L (c.wp P (cutQ n fc Lc))) (k : ∀ x, J n (fc x) (Lc x) (Q .normal)) : J n fm L (c.wp P Q) :=
  fun a w hr hs => wp_mono (h a w hr hs) fun e a' w' ⟨he, x, h1, h2⟩ => by subst he; exact k x a' w' h1 h2
theorem j_plan {id : Nat} {l : List Oper} [hm : Mixed P] (p : Pl) (hq : (Region.noSelect l.toArray && edgeB l.toArray && chkT P l.toArray true (Array.replicate l.length false) p) = true) (h : J n fm L (runT P none l.toArray (Q .normal) p)) : J n fm L ((Code.region id l.toArray true).wp P Q) :=
  fun a w hr hs => wp_region_plan p hm.mixed hq (h a w.drew hr hs.drew)
theorem j_done {ops : Array Oper} {K : Act → World → Prop} (h : J n fm L K) : J n fm L (runT P EE ops K .done) := h
theorem j_stop {ops : Array Oper} {K : Act → World → Prop} : J n fm L (runT P EE ops K .stop) := fun _ _ _ _ => trivial
theorem j_take {ops : Array Oper} {K : Act → World → Prop} {i : Nat} {t : Pl} {o : Oper} (hi : ops.toList[i]? = some o) (h : J n fm L (runS P EE ops (runT P EE ops K t) [o])) : J n fm L (runT P EE ops K (.take i t)) :=
  fun a w hr hs => by show stepI P EE ops i _ a w; rw [stepI_eq (by simpa using hi)]; exact h a w hr hs
theorem j_fork {ops : Array Oper} {K : Act → World → Prop} {i : Nat} {t u : Pl} {o : Oper} (hi : ops.toList[i]? = some o) (h : J n fm L (runS P EE ops (runT P EE ops K t) [o])) (h2 : J n fm L (runT P EE ops K u)) : J n fm L (runT P EE ops K (.fork i t u)) :=
  fun a w hr hs => ⟨by rw [stepI_eq (by simpa using hi)]; exact h a w hr hs, h2 a w hr hs⟩
theorem j_nil {ops : Array Oper} {K : Act → World → Prop} (h : J n fm L K) : J n fm L (runS P EE ops K []) := h

theorem j_true {c : Operand} {x y : Code} (hc : ev fm c = some (.bool true)) (h : J n fm L (x.wp P Q)) : J n fm L ((Code.cond c x y).wp P Q) :=
  fun a w hr hs => wp_cond_true (hr.ev hc) (h a w hr hs)
theorem j_false {c : Operand} {x y : Code} (hc : ev fm c = some (.bool false)) (h : J n fm L (y.wp P Q)) : J n fm L ((Code.cond c x y).wp P Q) :=
  fun a w hr hs => wp_cond_false (hr.ev hc) (h a w hr hs)
theorem j_dec {c : Operand} {x y : Code} {p : Prop} [Decidable p] (hc : ev fm c = some (.bool (decide p))) (h1 : p → J n fm L (x.wp P Q)) (h2 : ¬ p → J n fm L (y.wp P Q)) : J n fm L ((Code.cond c x y).wp P Q) :=
  fun a w hr hs => wp_cond_split (hr.ev hc) (fun h => h1 (of_decide_eq_true h) a w hr hs) (fun h => h2 (of_decide_eq_false h) a w hr hs)
theorem j_bool {c : Operand} {x y : Code} {b : Bool} (hc : ev fm c = some (.bool b)) (h1 : b = true → J n fm L (x.wp P Q)) (h2 : b = false → J n fm L (y.wp P Q)) : J n fm L ((Code.cond c x y).wp P Q) :=
  fun a w hr hs => wp_cond_split (hr.ev hc) (fun h => h1 h a w hr hs) (fun h => h2 h a w hr hs)

/-! ### what is known, in another form -/
def Sub : Fm → Fm → Prop
  | [], _ => True
  | (i, v) :: r, f => look f i = some v ∧ Sub r f
theorem Rep.sub {g f : Fm} {a : Act} (hs : Sub g f) (h : Rep n f a) : Rep n g a := by
  refine ⟨h.defers, h.size, ?_⟩
  induction g with
  | nil => intro i v hi; simp [look] at hi
  | cons p r ih =>
    obtain ⟨k, u⟩ := p
    intro i v hi
    rw [look_cons] at hi
    split at hi
    · rename_i hki
      subst hki
      obtain rfl := Option.some.inj hi
      exact h.slot _ _ hs.1
    · exact ih hs.2 i v hi
theorem Rep.sub_self {f : Fm} {a : Act} {t : Nat} {u : Value} (h : Rep n f a) (hu : look f t = some u) : Rep n ((t, u) :: f) a := by
  refine ⟨h.defers, h.size, fun i v hi => ?_⟩
  rw [look_cons] at hi
  split at hi
  · rename_i hki
    subst hki
    obtain rfl := Option.some.inj hi
    exact h.slot _ _ hu
  · exact h.slot _ _ hi
theorem j_sub (g : Fm) (hs : Sub g fm) (h : J n g L X) : J n fm L X := fun a w hr hw => h a w (hr.sub hs) hw
theorem j_cutend {Y : Type} {fc : Y → Fm} {Lc : Y → List HP} (x : Y) (hf : Sub (fc x) fm) (hL : Pk L (Lc x)) : J n fm L (cutQ n fc Lc .normal) :=
  fun a w hr hs => ⟨rfl, x, hr.sub hf, hs.pk hL⟩
theorem j_tk {A : HP} {L' : List HP} (k : Tk L A L') (h : J n fm (A :: L') X) : J n fm L X := fun a w hr hw => h a w hr (hw.tk k)
theorem j_pk {M : List HP} (k : Pk L M) (h : J n fm M X) : J n fm L X := fun a w hr hw => h a w hr (hw.pk k)
theorem j_tail {A : HP} (h : J n fm L X) : J n fm (A :: L) X := fun a w hr hw => h a w hr hw.tail
theorem j_ex {α : Type} {A : α → HP} [∀ x, Loc (A x)] (h : ∀ x, J n fm (A x :: L) X) : J n fm (Ex A :: L) X := fun a w hr hw => let ⟨x, hx⟩ := hw.ex; h x a w hr hx
theorem j_unex {α : Type} {A : α → HP} [∀ x, Loc (A x)] (x : α) (h : J n fm (Ex A :: L) X) : J n fm (A x :: L) X := fun a w hr hw => h a w hr (hw.unex x)
theorem j_star {A B : HP} [Loc A] [Loc B] (h : J n fm (A :: B :: L) X) : J n fm (Star A B :: L) X := fun a w hr hw => h a w hr hw.star
theorem j_unstar {A B : HP} [Loc A] [Loc B] (h : J n fm (Star A B :: L) X) : J n fm (A :: B :: L) X := fun a w hr hw => h a w hr hw.unstar
theorem j_pu {p : Prop} (h : p → J n fm L X) : J n fm (Pu p :: L) X := fun a w hr hw => h hw.pu.1 a w hr hw.pu.2
theorem j_unpu {p : Prop} (hp : p) (h : J n fm (Pu p :: L) X) : J n fm L X := fun a w hr hw => h a w hr (hw.unpu hp)
theorem j_imp {A B : HP} [Loc B] (hab : ∀ w S, A w S → B w S) (h : J n fm (B :: L) X) : J n fm (A :: L) X := fun a w hr hw => h a w hr (hw.imp hab)
theorem j_split_dec {t : Nat} {p : Prop} [Decidable p] (hv : look fm t = some (.bool (decide p))) (h1 : p → J n ((t, .bool true) :: fm) L X) (h2 : ¬ p → J n ((t, .bool false) :: fm) L X) : J n fm L X := by
  intro a w hr hw
  by_cases hp : p
  · rw [decide_eq_true hp] at hv; exact h1 hp a w (hr.sub_self hv) hw
  · rw [decide_eq_false hp] at hv; exact h2 hp a w (hr.sub_self hv) hw
theorem j_split {t : Nat} {c : Bool} (hv : look fm t = some (.bool c)) (h1 : c = true → J n ((t, .bool true) :: fm) L X) (h2 : c = false → J n ((t, .bool false) :: fm) L X) : J n fm L X := by
  intro a w hr hw
  have aux : ∀ u, look fm t = some u → Rep n ((t, u) :: fm) a := fun u hu => hr.sub_self hu
  cases c with
  | true => exact h1 rfl a w (aux _ hv) hw
  | false => exact h2 rfl a w (aux _ hv) hw

end
end Go.Proofs.Ytnmfpgfgjjmfhaa
