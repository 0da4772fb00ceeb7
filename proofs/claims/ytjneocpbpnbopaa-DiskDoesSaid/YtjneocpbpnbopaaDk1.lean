/- Disks: what lies in memory; New, Down, Arm, fails. -/
import Derived.Test.YtjneocpbpnbopaaSn
import Derived.Test.YtjneocpbpnbopaaSp
import Derived.Test.YtjneocpbpnbopaaDkS
set_option linter.unusedVariables false
set_option linter.unusedSimpArgs false
set_option maxRecDepth 100000
namespace Go.Proofs.Ytjneocpbpnbopaa
open Go
attribute [local irreducible] Exit.then Exit.inBlock Code.wp runS bodyPost postF J runT cutQ cutR Tr Sat blk Sl Old Star Ex Pu
attribute [local irreducible] MapA MapB IterA IterS All
open Kv Vv

theorem vbd {p q : Prop} [Decidable p] [Decidable q] (h : p ↔ q) : Value.bool (decide p) = Value.bool (decide q) := by simp [h]
theorem vbf {p : Prop} [Decidable p] (h : ¬ p) : Value.bool false = Value.bool (decide p) := by simp [h]
theorem vbt {p : Prop} [Decidable p] (h : p) : Value.bool (decide p) = .bool true := by simp [h]
theorem vbfF {p : Prop} [Decidable p] (h : ¬ p) : Value.bool (decide p) = Value.bool false := by simp [h]

instance : Kv ByteArray := ⟨fun s => .string s⟩
instance : Vv Nat := ⟨fun p => .pointer (some ⟨p, 0, none⟩)⟩

theorem findNowS (x : ByteArray) : ∀ (es : List MapEntry) (ks : List ByteArray) (i : Nat), es.map (·.key) = ks.map kv →
    Instr.findNow .string (.string x) es i = some ((ks.findIdx? (· = x)).bind fun j => (es[j]?).map fun e => (i + j, e.val))
  | [], [], i, _ => rfl
  | [], _ :: _, _, h => by simp at h
  | _ :: _, [], _, h => by simp at h
  | e :: es, k :: ks, i, h => by
    simp only [List.map_cons, List.cons.injEq] at h
    have hk : e.key = .string k := h.1
    have hbe : (x == k) = decide (x = k) := by
      rw [Bool.eq_iff_iff]
      constructor
      · intro hh
        have h2 : (x.data == k.data) = true := hh
        have h3 : x.data = k.data := by simpa using h2
        cases x; cases k; simp_all
      · intro hh
        have h3 : x = k := by simpa using hh
        subst h3
        show (x.data == x.data) = true
        simp
    simp only [Instr.findNow, hk, Instr.sameNow, hbe]
    by_cases hxk : k = x
    · subst hxk
      simp [List.findIdx?_cons]
    · have : ¬ x = k := fun e => hxk e.symm
      simp only [this, decide_false]
      rw [findNowS x es ks (i + 1) h.2, List.findIdx?_cons]
      simp only [hxk, decide_false]
      cases ks.findIdx? (· = x) with
      | none => rfl
      | some j => simp [Nat.add_assoc, Nat.add_comm 1 j]
theorem chkStr (e : Bool) (w : World) (x : ByteArray) (n : Nat) : (Instr.checkKey e (n + 1) 9 (kv x)).run Try.prog w = .ok () w := by
  show (Instr.checkKey e (n + 1) 9 (.string x)).run Try.prog w = .ok () w
  rw [Instr.checkKey]
  simp only [Sem.run_bind, run_underlying (TyC.und (P := Try.prog) (t := 9)), Result.andThen_ok, Sem.run_pure]
theorem bitsStr (x : ByteArray) (n : Nat) : Instr.sameBits n (kv x) (kv x) = true := by
  show Instr.sameBits n (.string x) (.string x) = true
  rw [Instr.sameBits]
  show (x.data == x.data) = true
  simp
instance : Key Try.prog 9 ByteArray where
  chk := fun e w x => chkStr e w x 9999
  fnd := fun w x es ks h => by
    have := findNowS x es ks 0 h
    show (Instr.findKey 9 (.string x) es).run Try.prog w = _
    simp only [Instr.findKey, Sem.run_bind, run_underlying (TyC.und (P := Try.prog) (t := 9)), Result.andThen_ok, this, Sem.run_pure]
    simp
  bits := fun x => bitsStr x 10000

structure FileS where
  b : List UInt8
  s : Int
  deriving DecidableEq
structure DS where
  room : Int
  down : Bool
  arm : Int
  fs : List (ByteArray × FileS)
  deriving DecidableEq

def FileA (p : Nat) (f : FileS) : HP := Ex fun (q : Option Addr × Nat) => Star (blk p 74 [.slice q.1 f.b.length q.2, .int .i64 f.s]) (Sl 5 q.1 q.2 f.b)
instance (p : Nat) (f : FileS) : Loc (FileA p f) := inferInstanceAs (Loc (Ex _))
theorem j_file {n : Nat} {fm : Fm} {L : List HP} {X : Act → World → Prop} {p : Nat} {f : FileS} (h : ∀ a c, J n fm (blk p 74 [.slice a f.b.length c, .int .i64 f.s] :: Sl 5 a c f.b :: L) X) : J n fm (FileA p f :: L) X :=
  j_ex (fun q => j_star (h q.1 q.2))
theorem j_unfile {n : Nat} {fm : Fm} {L : List HP} {X : Act → World → Prop} {p : Nat} {a : Option Addr} {c len : Nat} {s : Int} {b : List UInt8} (hl : len = b.length) (h : J n fm (FileA p ⟨b, s⟩ :: L) X) : J n fm (blk p 74 [.slice a len c, .int .i64 s] :: Sl 5 a c b :: L) X := by
  subst hl
  exact j_unstar (j_unex (α := Option Addr × Nat) (A := fun q => Star (blk p 74 [.slice q.1 b.length q.2, .int .i64 s]) (Sl 5 q.1 q.2 b)) (a, c) h)

/-- what a disk's map tells: name, place, file -/
abbrev Lst := List (ByteArray × Nat × FileS)
def ptrs (l : Lst) : List (ByteArray × Nat) := l.map fun e => (e.1, e.2.1)
def fsOf (l : Lst) : List (ByteArray × FileS) := l.map fun e => (e.1, e.2.2)
def plcs (l : Lst) : List HP := l.map fun e => FileA e.2.1 e.2.2
def DiskA (d : Nat) (s : DS) : HP := Ex fun (q : Nat × Lst) => Star (Pu (fsOf q.2 = s.fs ∧ (q.2.map Prod.fst).Nodup)) (Star (blk d 65 [.int .i64 s.room, .map (some q.1), .bool s.down, .int .i64 s.arm]) (Star (MapA q.1 (ptrs q.2)) (All (plcs q.2))))
instance (d : Nat) (s : DS) : Loc (DiskA d s) := inferInstanceAs (Loc (Ex _))
theorem j_disk {n : Nat} {fm : Fm} {L : List HP} {X : Act → World → Prop} {d : Nat} {s : DS} (h : ∀ m l, fsOf l = s.fs → (l.map Prod.fst).Nodup → J n fm (blk d 65 [.int .i64 s.room, .map (some m), .bool s.down, .int .i64 s.arm] :: MapA m (ptrs l) :: All (plcs l) :: L) X) : J n fm (DiskA d s :: L) X :=
  j_ex (fun q => j_star (j_pu (fun hp => j_star (j_tk (.s .z) (j_star (j_tk (.s (.s .z)) (h q.1 q.2 hp.1 hp.2)))))))
theorem j_undisk {n : Nat} {fm : Fm} {L : List HP} {X : Act → World → Prop} {d m : Nat} {l : Lst} {room arm : Int} {down : Bool} (hn : (l.map Prod.fst).Nodup) (h : J n fm (DiskA d ⟨room, down, arm, fsOf l⟩ :: L) X) : J n fm (blk d 65 [.int .i64 room, .map (some m), .bool down, .int .i64 arm] :: MapA m (ptrs l) :: All (plcs l) :: L) X :=
  j_tk (.s .z) (j_tk (.s (.s .z)) (j_tk (.s .z) (j_unstar (j_tk (.s .z) (j_unstar (j_unpu (p := fsOf l = fsOf l ∧ (l.map Prod.fst).Nodup) ⟨rfl, hn⟩ (j_unstar (j_unex (α := Nat × Lst) (A := fun q => Star (Pu (fsOf q.2 = fsOf l ∧ (q.2.map Prod.fst).Nodup)) (Star (blk d 65 [.int .i64 room, .map (some q.1), .bool down, .int .i64 arm]) (Star (MapA q.1 (ptrs q.2)) (All (plcs q.2))))) (m, l) h))))))))
theorem sat_disk {L : List HP} {w : World} {d : Nat} {s : DS} (h : Sat (DiskA d s :: L) w) : ∃ m l, fsOf l = s.fs ∧ (l.map Prod.fst).Nodup ∧ Sat (blk d 65 [.int .i64 s.room, .map (some m), .bool s.down, .int .i64 s.arm] :: MapA m (ptrs l) :: All (plcs l) :: L) w := by
  obtain ⟨q, hq⟩ := h.ex
  obtain ⟨hp, h2⟩ := hq.star.pu
  refine ⟨q.1, q.2, hp.1, hp.2, ?_⟩
  exact (((h2.star.tk (.s .z)).star.tk (.s .z)).tk (.s (.s .z))).pk (.cons .z (.cons (.s .z) (.cons .z .refl)))
theorem sat_undisk {L : List HP} {w : World} {d m : Nat} {s : DS} {l : Lst} (hf : fsOf l = s.fs) (hn : (l.map Prod.fst).Nodup) (h : Sat (blk d 65 [.int .i64 s.room, .map (some m), .bool s.down, .int .i64 s.arm] :: MapA m (ptrs l) :: All (plcs l) :: L) w) : Sat (DiskA d s :: L) w := by
  have h1 := (((h.tk (.s .z)).tk (.s (.s .z))).tk (.s .z)).unstar
  have h2 := (h1.tk (.s .z)).unstar
  have h3 := (h2.unpu (p := fsOf l = s.fs ∧ (l.map Prod.fst).Nodup) ⟨hf, hn⟩).unstar
  exact h3.unex (α := Nat × Lst) (A := fun q => Star (Pu (fsOf q.2 = s.fs ∧ (q.2.map Prod.fst).Nodup)) (Star (blk d 65 [.int .i64 s.room, .map (some q.1), .bool s.down, .int .i64 s.arm]) (Star (MapA q.1 (ptrs q.2)) (All (plcs q.2))))) (m, l)

end Go.Proofs.Ytjneocpbpnbopaa
