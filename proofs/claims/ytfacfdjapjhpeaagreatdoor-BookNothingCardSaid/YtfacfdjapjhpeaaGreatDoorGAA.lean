/-
  Plain lemmas on worlds and memory, for every program; nothing here speaks of a given function.
-/
import Derived.WalkKit
import Derived.WalkSpells
import Derived.Laws.Rows
import Derived.Deep.Draws
import Derived.Test.YtfacfdjapjhpeaaGreatDoorBytesOrd
import Derived.Lib.DecodeN
import Derived.Lib.ValidU
import Derived.Lib.Split
import Derived.Lib.CutLaws
import Derived.Lib.CountLaws
import Derived.Test.YtfacfdjapjhpeaaGreatDoorProg
import Derived.BigQuiet
import Derived.Deep.QuietTactic
import Derived.WalkLawsBesides
import Derived.Handy
import Derived.Laws.BitsLemmas
set_option linter.unusedVariables false
set_option linter.unusedSimpArgs false
namespace Go.Proofs.YtfacfdjapjhpeaaGreatDoor
open Go.RowKit

/-- A fact kept from the walk's simp. -/
def Hd (p : Prop) : Prop := p
theorem hd {p : Prop} (h : p) : Hd p := h
theorem Hd.o {p : Prop} (h : Hd p) : p := h

/-- Only the blocks in S, and new ones, may have turned. -/
structure Chg (S : Nat → Prop) (w w' : World) : Prop where
  os : w'.os = w.os
  tape : w'.tape = w.tape
  output : w'.output = w.output
  size : w.heap.size ≤ w'.heap.size
  block : ∀ k, k < w.heap.size → ¬ S k → w'.heap[k]? = w.heap[k]?

def Non : Nat → Prop := fun _ => False
def One (b : Nat) : Nat → Prop := fun k => k = b
def From (b : Nat) : Nat → Prop := fun k => b ≤ k

theorem Chg.refl (S : Nat → Prop) (w : World) : Chg S w w := ⟨rfl, rfl, rfl, Nat.le_refl _, fun _ _ _ => rfl⟩

theorem Chg.mono {S T : Nat → Prop} {w w' : World} (h : Chg S w w') (hs : ∀ k, S k → T k) : Chg T w w' :=
  ⟨h.os, h.tape, h.output, h.size, fun k hk ht => h.block k hk fun s => ht (hs k s)⟩

/-- Two steps; the second may touch what the first made. -/
theorem Chg.trans {S S1 : Nat → Prop} {a b c : World} (h : Chg S a b) (k : Chg S1 b c) (hs : ∀ k, S1 k → S k ∨ a.heap.size ≤ k) : Chg S a c :=
  ⟨k.os.trans h.os, k.tape.trans h.tape, k.output.trans h.output, Nat.le_trans h.size k.size, fun i hi hn =>
    (k.block i (Nat.lt_of_lt_of_le hi h.size) fun s => by rcases hs i s with s | s; exact hn s; omega).trans (h.block i hi hn)⟩

theorem Chg.alloc {S : Nat → Prop} {a w : World} (h : Chg S a w) (o : Obj) : Chg S a (w.alloc o) :=
  h.trans (S1 := Non) ⟨rfl, rfl, rfl, by simp, fun k hk _ => Below.heap_alloc w o k hk⟩ (fun _ h => h.elim)

theorem Chg.drew {S : Nat → Prop} {a w : World} (h : Chg S a w) : Chg S a w.drew := ⟨h.os, h.tape, h.output, h.size, h.block⟩
theorem Chg.drewN {S : Nat → Prop} {a w : World} (h : Chg S a w) (n : Nat) : Chg S a (w.drewN n) := ⟨h.os, h.tape, h.output, h.size, h.block⟩

theorem Chg.setCell {S : Nat → Prop} {a w : World} (h : Chg S a w) {p : Addr} (hp : S p.block ∨ a.heap.size ≤ p.block) (u : Value) : Chg S a (w.setCell p u) :=
  h.trans (S1 := One p.block) ⟨rfl, rfl, rfl, by simp [World.setCell], fun k _ hk => Below.heap_setCell w p u k hk⟩ (fun k hk => by cases hk; exact hp)

theorem Chg.grown {S : Nat → Prop} {a w w' : World} {row : Option Nat} (h : Chg S a w) (hg : w.grownBy w' row) (hr : ∀ k, row = some k → S k ∨ a.heap.size ≤ k) : Chg S a w' :=
  h.trans (S1 := fun k => some k = row) ⟨hg.os, hg.tape, hg.output, hg.size, fun k hk hn => hg.block k hk hn⟩ (fun k hk => hr k hk.symm)

theorem Chg.of_below {w w' : World} (S : Nat → Prop) (h : Below w.heap.size w w') : Chg S w w' := ⟨h.os, h.tape, h.output, h.size, fun k hk _ => h.block k hk⟩

theorem Chg.below {S : Nat → Prop} {w w' : World} {B : Nat} (h : Chg S w w') (hs : ∀ k, S k → B ≤ k) (hB : B ≤ w.heap.size) : Below B w w' :=
  ⟨h.os, h.tape, h.output, h.size, fun k hk => h.block k (by omega) fun s => by have := hs k s; omega⟩

/-- After a step that only makes memory. -/
theorem Chg.then_below {S : Nat → Prop} {a w w' : World} (h : Chg S a w) (k : Below w.heap.size w w') : Chg S a w' :=
  h.trans (S1 := Non) (Chg.of_below _ k) (fun _ h => h.elim)

/-- Block g is just these cells, none frozen. -/
def Blk (w : World) (g : Nat) (t : TypeId) (cs : Array Value) : Prop := w.heap[g]? = some (.cells cs t (0, 0))

section
variable {w w' : World} {g : Nat} {t : TypeId} {cs : Array Value}
theorem Blk.lt (h : Blk w g t cs) : g < w.heap.size := by
  rcases Nat.lt_or_ge g w.heap.size with hlt | hge
  · exact hlt
  · unfold Blk at h; rw [Array.getElem?_eq_none hge] at h; cases h
theorem Blk.cell (h : Blk w g t cs) (i : Nat) : w.cell? ⟨g, i, none⟩ = cs[i]? := cell_of_row w g i cs t (0, 0) h
theorem Blk.at_ (h : Blk w g t cs) (i : Nat) {v : Value} (hv : cs[i]? = some v) : w.cell? ⟨g, i, none⟩ = some v := (h.cell i).trans hv
theorem Blk.frozen (h : Blk w g t cs) (i : Nat) : w.frozen? ⟨g, i, none⟩ = false := by
  unfold Blk at h
  simp [World.frozen?, h]
theorem Blk.new (w : World) (t : TypeId) (cs : Array Value) : Blk (w.alloc (.cells cs t)) w.heap.size t cs := heap_alloc_new w _
theorem Blk.new_ (w : World) (g : Nat) (hg : g = w.heap.size) (t : TypeId) (cs : Array Value) : Blk (w.alloc (.cells cs t)) g t cs := by subst hg; exact heap_alloc_new w _
theorem Blk.drew (h : Blk w g t cs) : Blk w.drew g t cs := h
theorem Blk.drewN (h : Blk w g t cs) (n : Nat) : Blk (w.drewN n) g t cs := h
theorem Blk.alloc (h : Blk w g t cs) (o : Obj) : Blk (w.alloc o) g t cs := (Below.heap_alloc w o g h.lt).trans h
theorem Blk.set_ (h : Blk w g t cs) (i : Nat) (u : Value) : Blk (w.setCell ⟨g, i, none⟩ u) g t (cs.setIfInBounds i u) := by
  unfold Blk at h ⊢
  simp [World.setCell, Array.getElem?_modify, h]
theorem Blk.far (h : Blk w g t cs) {p : Addr} (hp : g ≠ p.block) (u : Value) : Blk (w.setCell p u) g t cs := (Below.heap_setCell w p u g hp).trans h
theorem Blk.chg {S : Nat → Prop} (h : Blk w g t cs) (hb : Chg S w w') (hg : ¬ S g) : Blk w' g t cs := (hb.block g h.lt hg).trans h
theorem Blk.below {B : Nat} (h : Blk w g t cs) (hb : Below B w w') (hg : g < B) : Blk w' g t cs := (hb.block g hg).trans h
theorem Blk.grown {row : Option Nat} (h : Blk w g t cs) (hb : w.grownBy w' row) (hg : some g ≠ row) : Blk w' g t cs := (hb.block g h.lt hg).trans h
theorem Blk.ne_ {g' : Nat} {t' : TypeId} {cs' : Array Value} (h : Blk w g t cs) (h' : Blk w g' t' cs') (ht : t ≠ t') : g ≠ g' := by
  rintro rfl
  unfold Blk at h h'
  rw [h] at h'
  injection h' with h'
  injection h' with _ h'
  exact ht h'
end

theorem size_setCell (w : World) (p : Addr) (u : Value) : (w.setCell p u).heap.size = w.heap.size := by simp [World.setCell]

/-- A slice value that owns its row: blocks in S. -/
structure Row (w : World) (S : Nat → Prop) (e : TypeId) (size : Nat) (A : Option Addr) (n c : Nat) (xs : List Value) : Prop where
  own : w.ownsRow 0 e size (.slice A n c) n xs
  fp : ∀ a, A = some a → S a.block

section
variable {w w' : World} {S T : Nat → Prop} {e : TypeId} {size n c : Nat} {A : Option Addr} {xs : List Value}

theorem Row.nil (w : World) (S : Nat → Prop) (e size : Nat) : Row w S e size none 0 0 [] := ⟨World.ownsRow_nil _ _ _ _, fun _ h => by cases h⟩
theorem Row.len (h : Row w S e size A n c xs) : xs.length = n * size := h.own.1
/-- Where there is an element: the block. -/
theorem Row.at_ (h : Row w S e size A n c xs) (hn : 0 < n) : ∃ g, A = some ⟨g, 0, none⟩ ∧ S g ∧ g < w.heap.size ∧ n ≤ c ∧ c ≤ maxLen ∧ (∀ j u, xs[j]? = some u → w.cell? ⟨g, j, none⟩ = some u) ∧ (∀ j, w.frozen? ⟨g, j, none⟩ = false) := by
  obtain ⟨h1, h2⟩ := h.own
  rcases h2 with ⟨_, rfl⟩ | ⟨g, cap, cur, hv, _, hg, hnc, hcm, hcs, ht⟩
  · omega
  · injection hv with hA _ hc
    subst hA; subst hc
    refine ⟨g, rfl, h.fp _ rfl, (Array.getElem?_eq_some_iff.1 hg).1, hnc, hcm, fun j u hu => ?_, fun j => Blk.frozen hg j⟩
    rw [Blk.cell hg]
    rw [← ht, List.getElem?_take] at hu
    split at hu
    · simpa using hu
    · cases hu
theorem Row.cap (h : Row w S e size A n c xs) : n ≤ c ∧ c ≤ maxLen := by
  obtain ⟨h1, h2⟩ := h.own
  rcases h2 with ⟨hv, rfl⟩ | ⟨g, cap, cur, hv, _, hg, hnc, hcm, hcs, ht⟩
  · injection hv with _ _ hc; subst hc; simp
  · injection hv with hA _ hc; subst hc; exact ⟨hnc, hcm⟩
theorem Row.none_ (h : Row w S e size none n c xs) : n = 0 ∧ c = 0 ∧ xs = [] := by
  obtain ⟨h1, h2⟩ := h.own
  rcases h2 with ⟨hv, rfl⟩ | ⟨g, cap, cur, hv, _⟩
  · injection hv with _ _ hc; exact ⟨rfl, hc, List.eq_nil_of_length_eq_zero (by simpa using h1)⟩
  · injection hv with hA; cases hA
/-- Where there is an address at all. -/
theorem Row.block (h : Row w S e size A n c xs) {a : Addr} (ha : A = some a) : ∃ g cur, a = ⟨g, 0, none⟩ ∧ S g ∧ Blk w g e cur ∧ n ≤ c ∧ c ≤ maxLen ∧ cur.size = c * size ∧ cur.toList.take (n * size) = xs := by
  obtain ⟨h1, h2⟩ := h.own
  rcases h2 with ⟨hv, rfl⟩ | ⟨g, cap, cur, hv, _, hg, hnc, hcm, hcs, ht⟩
  · injection hv with hA; rw [ha] at hA; cases hA
  · injection hv with hA _ hc
    subst hc
    rw [ha] at hA; injection hA with hA; subst hA
    exact ⟨g, cur, rfl, h.fp _ ha, hg, hnc, hcm, hcs, ht⟩
theorem Row.of_block {g : Nat} {cur : Array Value} (hg : Blk w g e cur) (hS : S g) (hnc : n ≤ c) (hcm : c ≤ maxLen) (hcs : cur.size = c * size) (ht : cur.toList.take (n * size) = xs) (hl : xs.length = n * size) : Row w S e size (some ⟨g, 0, none⟩) n c xs :=
  ⟨⟨hl, .inr ⟨g, c, cur, rfl, Nat.zero_le _, hg, hnc, hcm, hcs, ht⟩⟩, fun a ha => by cases ha; exact hS⟩
theorem Row.mono (h : Row w S e size A n c xs) (hs : ∀ k, S k → T k) : Row w T e size A n c xs := ⟨h.own, fun a ha => hs _ (h.fp a ha)⟩
theorem Row.lt (h : Row w S e size A n c xs) {a : Addr} (ha : A = some a) : a.block < w.heap.size := by
  obtain ⟨g, cur, rfl, _, hb, _⟩ := h.block ha
  exact hb.lt
/-- What keeps the row's block keeps the row. -/
theorem Row.keep (h : Row w S e size A n c xs) (hk : ∀ a, A = some a → w'.heap[a.block]? = w.heap[a.block]?) : Row w' S e size A n c xs := by
  cases A with
  | none => obtain ⟨rfl, rfl, rfl⟩ := h.none_; exact Row.nil _ _ _ _
  | some a =>
    obtain ⟨g, cur, rfl, hS, hb, h1, h2, h3, h4⟩ := h.block rfl
    exact Row.of_block ((hk _ rfl).trans hb) hS h1 h2 h3 h4 h.len
theorem Row.chg (h : Row w S e size A n c xs) (hc : Chg T w w') (hd : ∀ k, S k → ¬ T k) : Row w' S e size A n c xs :=
  h.keep fun a ha => hc.block _ (h.lt ha) (hd _ (h.fp a ha))
theorem Row.alloc (h : Row w S e size A n c xs) (o : Obj) : Row (w.alloc o) S e size A n c xs := h.keep fun _ ha => Below.heap_alloc w o _ (h.lt ha)
theorem Row.below (h : Row w S e size A n c xs) (hb : Below w.heap.size w w') : Row w' S e size A n c xs := h.keep fun _ ha => hb.block _ (h.lt ha)
theorem Row.drew (h : Row w S e size A n c xs) : Row w.drew S e size A n c xs := ⟨h.own, h.fp⟩
theorem Row.drewN (h : Row w S e size A n c xs) (k : Nat) : Row (w.drewN k) S e size A n c xs := ⟨h.own, h.fp⟩
theorem Row.far (h : Row w S e size A n c xs) {p : Addr} (hp : ∀ a, A = some a → a.block ≠ p.block) (u : Value) : Row (w.setCell p u) S e size A n c xs :=
  h.keep fun a ha => Below.heap_setCell w p u _ (hp a ha)
end

theorem Row.ne_blk {w : World} {S : Nat → Prop} {e : TypeId} {size n c : Nat} {A : Option Addr} {xs : List Value} {b : Nat} {t : TypeId} {cs : Array Value} (h : Row w S e size A n c xs) (hb : Blk w b t cs) (ht : e ≠ t) : ∀ a, A = some a → a.block ≠ b := by
  intro a ha
  obtain ⟨g, cur, rfl, _, hg, _⟩ := h.block ha
  exact hg.ne_ hb ht
/-- The block of a slice's address. -/
def Of (A : Option Addr) : Nat → Prop := fun k => some k = A.map (·.block)
/-- S, and what is made from B on. -/
def Plus (S : Nat → Prop) (B : Nat) : Nat → Prop := fun k => S k ∨ B ≤ k
theorem Of.none {k : Nat} : ¬ Of Option.none k := fun h => by cases h
theorem Of.some_ {a : Addr} {k : Nat} (h : Of (some a) k) : k = a.block := by injection h
theorem Row.own_ {w : World} {S : Nat → Prop} {e : TypeId} {size n c : Nat} {A : Option Addr} {xs : List Value} (h : Row w S e size A n c xs) : Row w (Of A) e size A n c xs :=
  ⟨h.own, fun a ha => by rw [ha]; rfl⟩
theorem Row.of_sub {w : World} {S : Nat → Prop} {e : TypeId} {size n c : Nat} {A : Option Addr} {xs : List Value} (h : Row w S e size A n c xs) : ∀ k, Of A k → S k := by
  intro k hk
  cases A with
  | none => exact (Of.none hk).elim
  | some a => rw [hk.some_]; exact h.fp a rfl

/-- A call in a quiet region: what leaves the world alone. -/
theorem q1 {P : Program} {f : FuncId} {args : Array Value} {w : World} {n : Nat} {v : Value} (h : Calls P f args (w.drewN n) fun e w' => e = .returned v ∧ w.drewN n = w') :
    Calls P f args (w.drewN n) fun e w'' => e = .returned v ∧ ∃ m, w'' = w.drewN m := h.mono fun _ _ ⟨he, hm⟩ => ⟨he, n, hm.symm⟩
theorem q2 {P : Program} {f : FuncId} {args : Array Value} {w : World} {a n : Nat} {v : Value} (h : Calls P f args (w.drewN (a + n)) fun e w' => e = .returned v ∧ w.drewN (a + n) = w') :
    Calls P f args (w.drewN (a + n)) fun e w'' => e = .returned v ∧ ∃ m, w'' = w.drewN (a + m) := h.mono fun _ _ ⟨he, hm⟩ => ⟨he, n, hm.symm⟩

/-- Texts as lists of bytes: the walk does not look behind the name. -/
def bs (l : List UInt8) : ByteArray := ⟨l.toArray⟩
theorem bs_data (l : List UInt8) : (bs l).data.toList = l := rfl
theorem bs_self (b : ByteArray) : bs b.data.toList = b := rfl
theorem bs_size (l : List UInt8) : (bs l).size = l.length := by simp [bs, ByteArray.size]
theorem ba_of {b : ByteArray} {l : List UInt8} (h : b.data.toList = l) : b = ⟨l.toArray⟩ := by subst h; rfl
theorem ba_app (a b : ByteArray) : (a ++ b).data.toList = a.data.toList ++ b.data.toList := by simp
theorem ba_size (b : ByteArray) : b.size = b.data.toList.length := by rw [Array.length_toList]; rfl
theorem ba_ext {a b : ByteArray} (h : a.data.toList = b.data.toList) : a = b := by rw [ba_of h]
/-- A slice that is read: its elements' cells; nothing is said of who owns it. -/
structure Rds (w : World) (A : Option Addr) (n size : Nat) (xs : List Value) : Prop where
  len : xs.length = n * size
  at_ : 0 < n → ∃ g o, A = some ⟨g, o, none⟩ ∧ g < w.heap.size ∧ ∀ j u, xs[j]? = some u → w.cell? ⟨g, o + j, none⟩ = some u
theorem Row.rds {w : World} {S : Nat → Prop} {e : TypeId} {size n c : Nat} {A : Option Addr} {xs : List Value} (h : Row w S e size A n c xs) : Rds w A n size xs :=
  ⟨h.len, fun hn => by
    obtain ⟨g, hA, _, hg, _, _, hc, _⟩ := h.at_ hn
    exact ⟨g, 0, hA, hg, fun j u hu => by rw [Nat.zero_add]; exact hc j u hu⟩⟩
theorem Rds.keep {w w' : World} {A : Option Addr} {n size : Nat} {xs : List Value} (h : Rds w A n size xs) (hs : w.heap.size ≤ w'.heap.size) (hk : ∀ a, A = some a → w'.heap[a.block]? = w.heap[a.block]?) : Rds w' A n size xs :=
  ⟨h.len, fun hn => by
    obtain ⟨g, o, hA, hg, hc⟩ := h.at_ hn
    exact ⟨g, o, hA, by omega, fun j u hu => (World.cell?_of_block (a := ⟨g, o + j, none⟩) (hk ⟨g, o, none⟩ hA)).trans (hc j u hu)⟩⟩
theorem Rds.chg {w w' : World} {S : Nat → Prop} {A : Option Addr} {n size : Nat} {xs : List Value} (h : Rds w A n size xs) (hc : Chg S w w') (hd : ∀ k, Of A k → ¬ S k) : Rds w' A n size xs :=
  ⟨h.len, fun hn => by
    obtain ⟨g, o, hA, hg, hcl⟩ := h.at_ hn
    refine ⟨g, o, hA, by have := hc.size; omega, fun j u hu => (World.cell?_of_block (hc.block g hg (hd g ?_))).trans (hcl j u hu)⟩
    rw [hA]; rfl⟩
theorem Rds.below {w w' : World} {A : Option Addr} {n size : Nat} {xs : List Value} (h : Rds w A n size xs) (hb : Below w.heap.size w w') : Rds w' A n size xs :=
  h.chg (Chg.of_below Non hb) (fun _ _ => id)
theorem Rds.alloc {w : World} {A : Option Addr} {n size : Nat} {xs : List Value} (h : Rds w A n size xs) (o : Obj) : Rds (w.alloc o) A n size xs :=
  h.below ((Below.refl _ w).alloc (Nat.le_refl _) o)
theorem Rds.drewN {w : World} {A : Option Addr} {n size : Nat} {xs : List Value} (h : Rds w A n size xs) (k : Nat) : Rds (w.drewN k) A n size xs := ⟨h.len, h.at_⟩

theorem bdrewN {B : Nat} {a w : World} (h : Below B a w) (n : Nat) : Below B a (w.drewN n) := ⟨h.os, h.tape, h.output, h.size, h.block⟩

theorem ret_int {k : IntKind} {a b : Int} (h : a = b) : Ending.returned (.int k a) = .returned (.int k b) := by rw [h]
theorem ret_bool {a b : Bool} (h : a = b) : Ending.returned (.bool a) = .returned (.bool b) := by rw [h]
theorem ret_val {a b : Value} (h : a = b) : Ending.returned a = .returned b := by rw [h]

end Go.Proofs.YtfacfdjapjhpeaaGreatDoor
namespace Go.Proofs.YtfacfdjapjhpeaaGreatDoor
open Go.RowKit

/-- The last bytes, from the front. -/
def tl : Nat → Nat → List UInt8
  | 0, _ => []
  | j + 1, n => UInt8.ofNat (n / 256 ^ j) :: tl j n
end Go.Proofs.YtfacfdjapjhpeaaGreatDoor
namespace Go.Proofs.YtfacfdjapjhpeaaGreatDoor
open Go.RowKit

/-- An item: UID, version, whether it is gone, its card. -/
structure It where
  uid : List UInt8
  ver : Int
  gone : Bool
  card : List UInt8
  deriving DecidableEq
def itEnc (x : It) : List Value := [.string (bs x.uid), .int .i64 x.ver, .bool x.gone, .string (bs x.card)]
/-- A card of a collection: version, text. -/
structure Ce where
  ver : Int
  text : List UInt8
  deriving DecidableEq
def ceEnc (x : Ce) : List Value := [.int .i64 x.ver, .string (bs x.text)]

theorem flat_at {R : Type} (enc : R → List Value) (k : Nat) (hk : ∀ r, (enc r).length = k) : ∀ (l : List R) (i : Nat) (h : i < l.length) (j : Nat), j < k → (l.flatMap enc)[i * k + j]? = (enc l[i])[j]?
  | [], i, h, _, _ => by simp at h
  | a :: l, 0, _, j, hj => by
    rw [List.flatMap_cons, Nat.zero_mul, Nat.zero_add, List.getElem?_append_left (by rw [hk]; exact hj)]
    rfl
  | a :: l, i + 1, h, j, hj => by
    have e : (i + 1) * k + j = k + (i * k + j) := by rw [Nat.add_mul, Nat.one_mul]; omega
    rw [List.flatMap_cons, e, List.getElem?_append_right (by rw [hk]; omega), hk, show k + (i * k + j) - k = i * k + j by omega, flat_at enc k hk l i (by simpa using h) j hj]
    rfl
theorem flat_length {R : Type} (enc : R → List Value) (k : Nat) (hk : ∀ r, (enc r).length = k) (l : List R) : (l.flatMap enc).length = l.length * k := by
  induction l with
  | nil => simp
  | cons a l ih => rw [List.flatMap_cons, List.length_append, hk, ih, List.length_cons, Nat.add_mul]; omega
theorem flat_take {R : Type} (enc : R → List Value) (k : Nat) (hk : ∀ r, (enc r).length = k) : ∀ (l : List R) (i : Nat), (l.flatMap enc).take (i * k) = (l.take i).flatMap enc
  | [], i => by simp
  | a :: l, 0 => by simp
  | a :: l, i + 1 => by
    rw [List.flatMap_cons, Nat.add_mul, Nat.one_mul, Nat.add_comm, List.take_succ_cons, List.flatMap_cons, ← flat_take enc k hk l i]
    rw [List.take_append, hk, List.take_of_length_le (by rw [hk]; omega)]
    congr 2
    omega
theorem flat_drop {R : Type} (enc : R → List Value) (k : Nat) (hk : ∀ r, (enc r).length = k) : ∀ (l : List R) (i : Nat), (l.flatMap enc).drop (i * k) = (l.drop i).flatMap enc
  | [], i => by simp
  | a :: l, 0 => by simp
  | a :: l, i + 1 => by
    rw [List.flatMap_cons, Nat.add_mul, Nat.one_mul, Nat.add_comm, List.drop_succ_cons, ← flat_drop enc k hk l i]
    rw [List.drop_append, hk, List.drop_of_length_le (by rw [hk]; omega), List.nil_append]
    congr 1
    omega
theorem flat_set {R : Type} (enc : R → List Value) (l : List R) (i : Nat) (h : i < l.length) (x : R) : (l.set i x).flatMap enc = (l.take i).flatMap enc ++ enc x ++ (l.drop (i + 1)).flatMap enc := by
  rw [List.set_eq_take_append_cons_drop, if_pos h, List.flatMap_append, List.flatMap_cons, List.append_assoc]

end Go.Proofs.YtfacfdjapjhpeaaGreatDoor
namespace Go.Proofs.YtfacfdjapjhpeaaGreatDoor
open Go.RowKit Go.Lib

/-- A write. -/
structure OpV where
  del : Bool
  uid : List UInt8
  card : List UInt8
  ck : Int
  cv : Int
  deriving DecidableEq
def opEnc (o : OpV) : List Value := [.bool o.del, .string (bs o.uid), .string (bs o.card), .int .i64 o.ck, .int .i64 o.cv]
theorem opEnc_len (o : OpV) : (opEnc o).length = 5 := rfl

def verM (ml : ML Ce) (k : List UInt8) : Int := match getM ml k with | some v => v.ver | none => 0
def txtM (ml : ML Ce) (k : List UInt8) : List UInt8 := match getM ml k with | some v => v.text | none => []
theorem txt_none {ml : ML Ce} {k : List UInt8} (h : hasM ml k = false) : txtM ml k = [] := by
  unfold hasM at h
  unfold txtM
  cases hg : getM ml k with
  | none => rfl
  | some v => rw [hg] at h; cases h
theorem ver_none {ml : ML Ce} {k : List UInt8} (h : hasM ml k = false) : verM ml k = 0 := by
  unfold hasM at h
  unfold verM
  cases hg : getM ml k with
  | none => rfl
  | some v => rw [hg] at h; cases h
def bytesM (ml : ML Ce) : Int := (ml.map fun e => (e.2.text.length : Int)).sum
theorem bytesM_nil : bytesM [] = 0 := rfl
theorem bytesM_cons (e : List UInt8 × Ce) (ml : ML Ce) : bytesM (e :: ml) = e.2.text.length + bytesM ml := by simp [bytesM]
theorem bytesM_nn : ∀ ml : ML Ce, 0 ≤ bytesM ml
  | [] => by simp [bytesM]
  | e :: ml => by
    have := bytesM_nn ml
    rw [bytesM_cons]
    omega
theorem txtM_cons_ne {e : List UInt8 × Ce} {ml : ML Ce} {k : List UInt8} (h : e.1 ≠ k) : txtM (e :: ml) k = txtM ml k := by unfold txtM; rw [getM_cons_ne h]
theorem txtM_cons_eq {e : List UInt8 × Ce} {ml : ML Ce} {k : List UInt8} (h : e.1 = k) : txtM (e :: ml) k = e.2.text := by unfold txtM; rw [getM_cons_eq h]
theorem bytesM_put : ∀ {ml : ML Ce} (k : List UInt8) (v : Ce), Rising ml → bytesM (putM ml k v) = bytesM ml - (txtM ml k).length + v.text.length
  | [], k, v, _ => by simp [putM, hasM, getM, place, bytesM, txtM]
  | e :: ml, k, v, hr => by
    by_cases h : compareBytes e.1 k < 0
    · rw [putM_cons_lt h, bytesM_cons, bytesM_cons, bytesM_put k v hr.tail, txtM_cons_ne (cmp_ne h)]
      omega
    · by_cases he : e.1 = k
      · have e1 : putM (e :: ml) k v = (k, v) :: ml := by simp [putM, hasM_cons_eq he, place_cons_ge hr h]
        rw [e1, bytesM_cons, bytesM_cons, txtM_cons_eq he]
        simp only
        omega
      · have e1 : putM (e :: ml) k v = (k, v) :: e :: ml := by simp [putM, hasM_cons_gt hr h he, place_cons_ge hr h]
        rw [e1, bytesM_cons, txt_none (hasM_cons_gt hr h he)]
        simp
        omega
theorem bytesM_del : ∀ {ml : ML Ce} (k : List UInt8), Rising ml → bytesM (delM ml k) = bytesM ml - (txtM ml k).length
  | [], k, _ => by simp [delM, hasM, getM, bytesM, txtM]
  | e :: ml, k, hr => by
    by_cases h : compareBytes e.1 k < 0
    · rw [delM_cons_lt h, bytesM_cons, bytesM_cons, bytesM_del k hr.tail, txtM_cons_ne (cmp_ne h)]
      omega
    · by_cases he : e.1 = k
      · have e1 : delM (e :: ml) k = ml := by simp [delM, hasM_cons_eq he, place_cons_ge hr h]
        rw [e1, bytesM_cons, txtM_cons_eq he]
        omega
      · have e1 : delM (e :: ml) k = e :: ml := by simp [delM, hasM_cons_gt hr h he]
        rw [e1, txt_none (hasM_cons_gt hr h he)]
        simp
theorem txtM_le {ml : ML Ce} (k : List UInt8) : ((txtM ml k).length : Int) ≤ bytesM ml := by
  induction ml with
  | nil => simp [txtM, getM, bytesM]
  | cons e ml ih =>
    by_cases h : e.1 = k
    · rw [txtM_cons_eq h, bytesM_cons]; have := bytesM_nn ml; omega
    · rw [txtM_cons_ne h, bytesM_cons]; omega

/-- The collection's state. -/
structure Cs where
  most : Int
  cap : Int
  ml : ML Ce
  log : List (Int × List UInt8)
  latest : Int
  horizon : Int
def pushFull (cap : Int) (l : List (Int × List UInt8)) : Bool := decide ((l.length : Int) = cap)
def pushL (cap : Int) (l : List (Int × List UInt8)) (x : Int × List UInt8) : List (Int × List UInt8) := (if pushFull cap l = true then l.drop 1 else l) ++ [x]
def Cs.no (s : Cs) (o : OpV) (t : Int) : Bool := decide (t < s.latest) || (o.del && !hasM s.ml o.uid) || (!o.del && !hasM s.ml o.uid && decide (s.most ≤ (s.ml.length : Int)))
def Cs.mls (s : Cs) (o : OpV) (t : Int) : ML Ce := if o.del = true then delM s.ml o.uid else putM s.ml o.uid ⟨t, o.card⟩
def Cs.hor (s : Cs) : Int := if pushFull s.cap s.log = true then max s.horizon (s.log.headD (0, [])).1 else s.horizon
def Cs.app (s : Cs) (o : OpV) (t : Int) : Cs := ⟨s.most, s.cap, s.mls o t, pushL s.cap s.log (t, o.uid), t, s.hor⟩
def Cs.step (s : Cs) (o : OpV) (t : Int) : Bool × Cs := if s.no o t = true then (false, s) else (true, s.app o t)
/-- What is always so. -/
structure Cs.Ok (s : Cs) : Prop where
  rise : Rising s.ml
  cap1 : 1 ≤ s.cap
  loglen : (s.log.length : Int) ≤ s.cap
  most1 : 1 ≤ s.most
  mllen : (s.ml.length : Int) ≤ s.most
def Cs.new (birth cards log : Int) : Cs := ⟨max cards 1, max log 1, [], [], birth, birth⟩
theorem Cs.new_ok (birth cards log : Int) : (Cs.new birth cards log).Ok := ⟨List.Pairwise.nil, by show 1 ≤ max log 1; omega, by show (0 : Int) ≤ max log 1; omega, by show 1 ≤ max cards 1; omega, by show (0 : Int) ≤ max cards 1; omega⟩
theorem pushL_len (cap : Int) (l : List (Int × List UInt8)) (x : Int × List UInt8) (h1 : 1 ≤ cap) (h : (l.length : Int) ≤ cap) : ((pushL cap l x).length : Int) ≤ cap ∧ (pushL cap l x).length ≤ l.length + 1 := by
  unfold pushL pushFull
  by_cases hf : (l.length : Int) = cap
  · simp [hf]
    have : 1 ≤ l.length := by omega
    omega
  · simp [hf]
    omega
theorem putM_there_len {V : Type} {l : ML V} {k : List UInt8} {v : V} (h : hasM l k = true) : (putM l k v).length = l.length := by simp [putM, h]
theorem Cs.app_ok {s : Cs} (h : s.Ok) {o : OpV} {t : Int} (hn : s.no o t = false) : (s.app o t).Ok := by
  have hp := pushL_len s.cap s.log (t, o.uid) h.cap1 h.loglen
  refine ⟨?_, h.cap1, hp.1, h.most1, ?_⟩
  · show Rising (s.mls o t)
    unfold Cs.mls
    split
    · exact (delM_spec _ h.rise).1
    · exact (putM_spec _ _ h.rise).1
  · show ((s.mls o t).length : Int) ≤ s.most
    have hm := h.mllen
    unfold Cs.mls
    by_cases hd : o.del = true
    · rw [if_pos hd]
      have := delM_len s.ml o.uid
      omega
    · rw [if_neg hd]
      by_cases hh : hasM s.ml o.uid = true
      · rw [putM_there_len hh]; exact hm
      · have := putM_len s.ml o.uid ⟨t, o.card⟩
        have hd2 : o.del = false := by simpa using hd
        have hh2 : hasM s.ml o.uid = false := by simpa using hh
        simp [Cs.no, hd2, hh2] at hn
        omega
theorem Cs.step_ok {s : Cs} (h : s.Ok) (o : OpV) (t : Int) : (s.step o t).2.Ok := by
  unfold Cs.step
  cases hn : s.no o t with
  | true => exact h
  | false => exact Cs.app_ok h hn
end Go.Proofs.YtfacfdjapjhpeaaGreatDoor
namespace Go.Proofs.YtfacfdjapjhpeaaGreatDoor
def mayP (ck cv : Int) : Bool := if ck = 0 ∨ ck = 1 ∨ ck = 2 then cv == 0 else if ck = 3 then decide (1 ≤ cv) else false
def holdsP (ck cv : Int) (th : Bool) (v : Int) : Bool := mayP ck cv && (if ck = 1 then !th else if ck = 2 then th else if ck = 3 then th && (v == cv) else true)
end Go.Proofs.YtfacfdjapjhpeaaGreatDoor
namespace Go.Proofs.YtfacfdjapjhpeaaGreatDoor
open Go.Lib

/-- How many bytes the sign at the head has; 0: none. -/
def signN (n b0 b1 b2 b3 : Nat) : Nat :=
  if b0 < 128 then 1
  else if 194 ≤ b0 ∧ b0 ≤ 223 then (if 1 < n ∧ b1 / 64 = 2 then 2 else 0)
  else if 224 ≤ b0 ∧ b0 ≤ 239 then
    (if (2 < n ∧ b1 / 64 = 2 ∧ b2 / 64 = 2) ∧ ¬ (b0 % 16 * 4096 + b1 % 64 * 64 + b2 % 64 < 2048) ∧ ¬ (55296 ≤ b0 % 16 * 4096 + b1 % 64 * 64 + b2 % 64 ∧ b0 % 16 * 4096 + b1 % 64 * 64 + b2 % 64 ≤ 57343) then 3 else 0)
  else if 240 ≤ b0 ∧ b0 ≤ 244 then
    (if (3 < n ∧ b1 / 64 = 2 ∧ b2 / 64 = 2 ∧ b3 / 64 = 2) ∧ ¬ (b0 % 8 * 262144 + b1 % 64 * 4096 + b2 % 64 * 64 + b3 % 64 < 65536) ∧ ¬ (1114111 < b0 % 8 * 262144 + b1 % 64 * 4096 + b2 % 64 * 64 + b3 % 64) then 4 else 0)
  else 0
theorem sign_none (n b0 b1 b2 b3 : Nat) (e : decodeN n b0 b1 b2 b3 = (65533, 1)) (h : signN n b0 b1 b2 b3 = 0) : signN n b0 b1 b2 b3 = if (decodeN n b0 b1 b2 b3).1 = 65533 ∧ (decodeN n b0 b1 b2 b3).2 = 1 then 0 else (decodeN n b0 b1 b2 b3).2 := by
  rw [e, h]; simp
theorem sign_some (n b0 b1 b2 b3 r k : Nat) (hk : r ≠ 65533 ∨ k ≠ 1) (e : decodeN n b0 b1 b2 b3 = (r, k)) (h : signN n b0 b1 b2 b3 = k) : signN n b0 b1 b2 b3 = if (decodeN n b0 b1 b2 b3).1 = 65533 ∧ (decodeN n b0 b1 b2 b3).2 = 1 then 0 else (decodeN n b0 b1 b2 b3).2 := by
  rw [e, h, if_neg (by simp only; omega)]
set_option maxRecDepth 100000 in
set_option maxHeartbeats 4000000 in
theorem sign_dec (n b0 b1 b2 b3 : Nat) (h0 : b0 < 256) (h1 : b1 < 256) (h2 : b2 < 256) (h3 : b3 < 256) : signN n b0 b1 b2 b3 = if (decodeN n b0 b1 b2 b3).1 = 65533 ∧ (decodeN n b0 b1 b2 b3).2 = 1 then 0 else (decodeN n b0 b1 b2 b3).2 := by
  by_cases c0 : b0 < 128
  · exact sign_some n b0 b1 b2 b3 b0 1 (by omega) (by rw [decodeN, if_pos c0]) (by rw [signN, if_pos c0])
  · by_cases c1 : b0 / 32 = 6
    · by_cases c2 : 1 < n ∧ b1 / 64 = 2
      · by_cases c7 : 194 ≤ b0
        · exact sign_some n b0 b1 b2 b3 _ 2 (by omega) (by rw [decodeN, if_neg c0, if_pos ⟨c1, c2⟩, if_pos (by omega)]) (by rw [signN, if_neg c0, if_pos (by omega), if_pos c2])
        · exact sign_none n b0 b1 b2 b3 (by rw [decodeN, if_neg c0, if_pos ⟨c1, c2⟩, if_neg (by omega)]) (by rw [signN, if_neg c0, if_neg (by omega), if_neg (by omega), if_neg (by omega)])
      · exact sign_none n b0 b1 b2 b3 (by rw [decodeN, if_neg c0, if_neg (fun h => c2 h.2), if_neg (by omega), if_neg (by omega)]) (by
          rw [signN, if_neg c0]
          split <;> first | rfl | rw [if_neg c2] | rw [if_neg (by omega), if_neg (by omega)])
    · by_cases c3 : b0 / 16 = 14
      · by_cases c4 : (1 < n ∧ b1 / 64 = 2) ∧ (2 < n ∧ b2 / 64 = 2)
        · by_cases c8 : b0 % 16 * 4096 + b1 % 64 * 64 + b2 % 64 ≥ 2048 ∧ (b0 % 16 * 4096 + b1 % 64 * 64 + b2 % 64 < 55296 ∨ (57344 ≤ b0 % 16 * 4096 + b1 % 64 * 64 + b2 % 64 ∧ b0 % 16 * 4096 + b1 % 64 * 64 + b2 % 64 ≤ 1114111))
          · exact sign_some n b0 b1 b2 b3 _ 3 (by omega) (by rw [decodeN, if_neg c0, if_neg (fun h => c1 h.1), if_pos ⟨c3, c4⟩, if_pos c8]) (by rw [signN, if_neg c0, if_neg (by omega), if_pos (by omega), if_pos (by omega)])
          · exact sign_none n b0 b1 b2 b3 (by rw [decodeN, if_neg c0, if_neg (fun h => c1 h.1), if_pos ⟨c3, c4⟩, if_neg c8]) (by rw [signN, if_neg c0, if_neg (by omega), if_pos (by omega), if_neg (by omega)])
        · exact sign_none n b0 b1 b2 b3 (by rw [decodeN, if_neg c0, if_neg (fun h => c1 h.1), if_neg (fun h => c4 h.2), if_neg (by omega)]) (by rw [signN, if_neg c0, if_neg (by omega), if_pos (by omega), if_neg (by omega)])
      · by_cases c5 : b0 / 8 = 30
        · by_cases c6 : (1 < n ∧ b1 / 64 = 2) ∧ (2 < n ∧ b2 / 64 = 2) ∧ (3 < n ∧ b3 / 64 = 2)
          · by_cases c8 : b0 % 8 * 262144 + b1 % 64 * 4096 + b2 % 64 * 64 + b3 % 64 ≥ 65536 ∧ (b0 % 8 * 262144 + b1 % 64 * 4096 + b2 % 64 * 64 + b3 % 64 < 55296 ∨ (57344 ≤ b0 % 8 * 262144 + b1 % 64 * 4096 + b2 % 64 * 64 + b3 % 64 ∧ b0 % 8 * 262144 + b1 % 64 * 4096 + b2 % 64 * 64 + b3 % 64 ≤ 1114111))
            · exact sign_some n b0 b1 b2 b3 _ 4 (by omega) (by rw [decodeN, if_neg c0, if_neg (fun h => c1 h.1), if_neg (fun h => c3 h.1), if_pos ⟨c5, c6⟩, if_pos c8]) (by rw [signN, if_neg c0, if_neg (by omega), if_neg (by omega), if_pos (by omega), if_pos (by omega)])
            · exact sign_none n b0 b1 b2 b3 (by rw [decodeN, if_neg c0, if_neg (fun h => c1 h.1), if_neg (fun h => c3 h.1), if_pos ⟨c5, c6⟩, if_neg c8]) (by
                rw [signN, if_neg c0, if_neg (by omega), if_neg (by omega)]
                split
                · rw [if_neg (by omega)]
                · rfl)
          · exact sign_none n b0 b1 b2 b3 (by rw [decodeN, if_neg c0, if_neg (fun h => c1 h.1), if_neg (fun h => c3 h.1), if_neg (fun h => c6 h.2)]) (by
              rw [signN, if_neg c0, if_neg (by omega), if_neg (by omega)]
              split
              · rw [if_neg (by omega)]
              · rfl)
        · exact sign_none n b0 b1 b2 b3 (by rw [decodeN, if_neg c0, if_neg (fun h => c1 h.1), if_neg (fun h => c3 h.1), if_neg (fun h => c5 h.1)]) (by rw [signN, if_neg c0, if_neg (by omega), if_neg (by omega), if_neg (by omega)])

/-- The number at a place. -/
def bt (l : List UInt8) (i : Nat) : Nat := (l.getD i 0).toNat
theorem bt_lt (l : List UInt8) (i : Nat) : bt l i < 256 := UInt8.toNat_lt _
theorem bt_zero (c : UInt8) (l : List UInt8) : bt (c :: l) 0 = c.toNat := rfl
theorem bt_drop (l : List UInt8) (k i : Nat) : bt (l.drop k) i = bt l (k + i) := by
  simp [bt, List.getD_eq_getElem?_getD, List.getElem?_drop]
theorem bt_self (s : ByteArray) (i : Nat) (h : i < s.size) : bt s.data.toList i = s[i].toNat := by
  have hl : i < s.data.toList.length := by simpa using h
  simp only [bt, List.getD_eq_getElem?_getD, List.getElem?_eq_getElem hl, Option.getD_some]
  rfl
theorem get_q (b : ByteArray) (i : Nat) : b.get! i = b.data.toList.getD i 0 := by
  cases b with | mk d =>
  show d[i]! = _
  simp [List.getD_eq_getElem?_getD, getElem!_def]
  cases h : d[i]? <;> rfl
theorem get_bt (l : List UInt8) (i : Nat) : ((⟨l.toArray⟩ : ByteArray).get! i).toNat = bt l i := by
  rw [get_q]; rfl
def sgn (l : List UInt8) : Nat := signN l.length (bt l 0) (bt l 1) (bt l 2) (bt l 3)
theorem decL (l : List UInt8) : decodeL l = decodeN l.length (bt l 0) (bt l 1) (bt l 2) (bt l 3) := by
  unfold decodeL
  rw [decode_at, get_bt, get_bt, get_bt, get_bt]
  rfl
theorem sgn_dec (l : List UInt8) : sgn l = if (decodeL l).1 = 65533 ∧ (decodeL l).2 = 1 then 0 else (decodeL l).2 := by
  rw [decL]
  exact sign_dec _ _ _ _ _ (bt_lt l 0) (bt_lt l 1) (bt_lt l 2) (bt_lt l 3)
/-- A sign that may stand in a text. -/
def okC (n : Nat) : Bool := decide (32 ≤ n) && decide (n ≠ 127)
def okB (c : UInt8) : Bool := okC c.toNat
theorem okC_hi (n : Nat) (h : n / 64 = 2) : okC n = true := by simp [okC]; omega
theorem sgn_cases (b0 : UInt8) (t : List UInt8) : sgn (b0 :: t) = 0 ∨ (sgn (b0 :: t) = 1) ∨
    (sgn (b0 :: t) = 2 ∧ ∃ b1 r, t = b1 :: r ∧ b1.toNat / 64 = 2) ∨ (sgn (b0 :: t) = 3 ∧ ∃ b1 b2 r, t = b1 :: b2 :: r ∧ b1.toNat / 64 = 2 ∧ b2.toNat / 64 = 2) ∨
    (sgn (b0 :: t) = 4 ∧ ∃ b1 b2 b3 r, t = b1 :: b2 :: b3 :: r ∧ b1.toNat / 64 = 2 ∧ b2.toNat / 64 = 2 ∧ b3.toNat / 64 = 2) := by
  unfold sgn signN
  split
  · exact .inr (.inl rfl)
  · split
    · split
      · next h =>
        refine .inr (.inr (.inl ⟨rfl, ?_⟩))
        cases t with
        | nil => simp at h
        | cons b1 r => exact ⟨b1, r, rfl, h.2⟩
      · exact .inl rfl
    · split
      · split
        · next h =>
          refine .inr (.inr (.inr (.inl ⟨rfl, ?_⟩)))
          match t, h with
          | b1 :: b2 :: r, h => exact ⟨b1, b2, r, rfl, h.1.2.1, h.1.2.2⟩
          | [b1], h => simp at h
          | [], h => simp at h
        · exact .inl rfl
      · split
        · split
          · next h =>
            refine .inr (.inr (.inr (.inr ⟨rfl, ?_⟩)))
            match t, h with
            | b1 :: b2 :: b3 :: r, h => exact ⟨b1, b2, b3, r, rfl, h.1.2.1, h.1.2.2.1, h.1.2.2.2⟩
            | [b1, b2], h => simp at h
            | [b1], h => simp at h
            | [], h => simp at h
          · exact .inl rfl
        · exact .inl rfl
theorem sgn_le (l : List UInt8) (h : l ≠ []) : sgn l ≤ l.length := by
  cases l with
  | nil => exact absurd rfl h
  | cons b0 t =>
    rcases sgn_cases b0 t with h | h | ⟨h, b1, r, rfl, _⟩ | ⟨h, b1, b2, r, rfl, _⟩ | ⟨h, b1, b2, b3, r, rfl, _⟩ <;> rw [h] <;> simp
/-- Sign by sign: are they whole, and may they stand? -/
def scanF : Nat → List UInt8 → Bool
  | 0, _ => true
  | n + 1, l => if l = [] then true else if sgn l = 0 ∨ okC (bt l 0) = false then false else scanF n (l.drop (sgn l))
theorem scan_eq : ∀ (n : Nat) (l : List UInt8), l.length ≤ n → scanF n l = (validGoD n l && l.all okB) := by
  intro n
  induction n with
  | zero => intro l h; have : l = [] := List.eq_nil_of_length_eq_zero (by omega); subst this; rfl
  | succ n ih =>
    intro l h
    rw [scanF, validGoD]
    by_cases hl : l = []
    · subst hl; simp
    · rw [if_neg hl, if_neg hl]
      have hd := sgn_dec l
      by_cases hv : (decodeL l).1 = 65533 ∧ (decodeL l).2 = 1
      · rw [if_pos hv] at hd
        rw [if_pos (.inl hd), if_pos hv]
        simp
      · rw [if_neg hv] at hd
        rw [if_neg hv, ← hd]
        cases l with
        | nil => exact absurd rfl hl
        | cons b0 t =>
          have hle : t.length ≤ n := by simpa using h
          have key : ∀ (r : List UInt8), r.length ≤ n → sgn (b0 :: t) ≠ 0 → (b0 :: t).drop (sgn (b0 :: t)) = r → (t.all okB = r.all okB) → (if sgn (b0 :: t) = 0 ∨ okC (bt (b0 :: t) 0) = false then false else scanF n ((b0 :: t).drop (sgn (b0 :: t)))) = (validGoD n ((b0 :: t).drop (sgn (b0 :: t))) && (b0 :: t).all okB) := by
            intro r hr h0 hdr hall
            rw [hdr, List.all_cons, hall]
            cases hb : okC (bt (b0 :: t) 0) with
            | false =>
              rw [if_pos (.inr rfl), show okB b0 = false from hb]
              simp
            | true =>
              rw [if_neg (by simp [h0]), ih r hr, show okB b0 = true from hb]
              simp
          rcases sgn_cases b0 t with h0 | h0 | ⟨h0, b1, r, rfl, q1⟩ | ⟨h0, b1, b2, r, rfl, q1, q2⟩ | ⟨h0, b1, b2, b3, r, rfl, q1, q2, q3⟩
          · exfalso
            have e : (decodeL (b0 :: t)).2 = 0 := by rw [← hd]; exact h0
            rw [decL] at e
            unfold decodeN at e
            repeat' split at e
            all_goals simp at e
          · exact key t hle (by omega) (by rw [h0]; rfl) rfl
          · exact key r (by simp at hle; omega) (by omega) (by rw [h0]; rfl) (by simp [show okB b1 = true from okC_hi _ q1])
          · exact key r (by simp at hle; omega) (by omega) (by rw [h0]; rfl) (by simp [show okB b1 = true from okC_hi _ q1, show okB b2 = true from okC_hi _ q2])
          · exact key r (by simp at hle; omega) (by omega) (by rw [h0]; rfl) (by simp [show okB b1 = true from okC_hi _ q1, show okB b2 = true from okC_hi _ q2, show okB b3 = true from okC_hi _ q3])
theorem scan_valid (l : List UInt8) : scanF l.length l = (validD l && l.all okB) := scan_eq _ l (Nat.le_refl _)

end Go.Proofs.YtfacfdjapjhpeaaGreatDoor
namespace Go.Proofs.YtfacfdjapjhpeaaGreatDoor
open Go.Lib

theorem index_one (c : UInt8) : ∀ l : List UInt8, index l [c] = if c ∈ l then ((l.takeWhile (fun x => x != c)).length : Int) else -1
  | [] => by simp [index]
  | b :: l => by
    have ih := index_one c l
    unfold index
    by_cases h : c = b
    · subst h
      simp
    · have h1 : ([c] : List UInt8).isPrefixOf (b :: l) = false := by simp [List.isPrefixOf, h]
      have h2 : (b != c) = true := by simpa using fun e : b = c => h e.symm
      rw [h1, ih]
      by_cases hm : c ∈ l
      · have h3 : c ∈ b :: l := by simp [hm]
        rw [if_pos hm, if_pos h3, List.takeWhile_cons, if_pos h2]
        have : ¬ (((l.takeWhile (fun x => x != c)).length : Int) == -1) = true := by simp
        rw [if_neg (by simp), if_neg this]
        simp
      · have h3 : ¬ c ∈ b :: l := by simp [hm, h]
        rw [if_neg hm, if_neg h3]
        simp
/-- Up to the first c, and behind it. -/
def bef (c : UInt8) (l : List UInt8) : List UInt8 := l.takeWhile (fun x => x != c)
def aft (c : UInt8) (l : List UInt8) : List UInt8 := (l.dropWhile (fun x => x != c)).tail
theorem bef_not (c : UInt8) (l : List UInt8) : c ∉ bef c l := by
  induction l with
  | nil => simp [bef]
  | cons b l ih =>
    unfold bef at ih ⊢
    rw [List.takeWhile_cons]
    split
    · next h => simp only [List.mem_cons, not_or]; exact ⟨fun e => by simp [e] at h, ih⟩
    · simp
theorem bef_aft (c : UInt8) (l : List UInt8) (h : c ∈ l) : l = bef c l ++ c :: aft c l := by
  induction l with
  | nil => simp at h
  | cons b l ih =>
    unfold bef aft at *
    rw [List.takeWhile_cons, List.dropWhile_cons]
    by_cases hb : b = c
    · subst hb; simp
    · have h2 : (b != c) = true := by simpa using hb
      have hm : c ∈ l := by
        rcases List.mem_cons.1 h with e | e
        · exact absurd e.symm hb
        · exact e
      rw [if_pos h2, if_pos h2, List.cons_append, ← ih hm]
theorem take_bef (c : UInt8) (l : List UInt8) (h : c ∈ l) : l.take (bef c l).length = bef c l := by
  have e := bef_aft c l h
  generalize bef c l = a at *
  generalize aft c l = b at *
  subst e
  simp
theorem drop_bef (c : UInt8) (l : List UInt8) (h : c ∈ l) : l.drop ((bef c l).length + 1) = aft c l := by
  have e := bef_aft c l h
  generalize bef c l = a at *
  generalize aft c l = b at *
  subst e
  rw [show a ++ c :: b = (a ++ [c]) ++ b by simp, List.drop_left' (by simp)]
/-- What lies before the first c, and behind it, told by the two parts. -/
theorem bef_app (c : UInt8) (a b : List UInt8) (h : c ∉ a) : bef c (a ++ c :: b) = a ∧ aft c (a ++ c :: b) = b := by
  induction a with
  | nil => simp [bef, aft]
  | cons x a ih =>
    simp only [List.mem_cons, not_or] at h
    have h2 : (x != c) = true := by simpa using fun e : x = c => h.1 e.symm
    obtain ⟨i1, i2⟩ := ih h.2
    unfold bef aft at *
    rw [List.cons_append, List.takeWhile_cons, List.dropWhile_cons, if_pos h2, if_pos h2, i1]
    exact ⟨rfl, i2⟩
theorem cut_one (c : UInt8) (l : List UInt8) : cut l [c] = if c ∈ l then (bef c l, aft c l, true) else (l, [], false) := by
  unfold cut
  rw [index_one]
  by_cases h : c ∈ l
  · rw [if_pos h, if_pos (by omega), if_pos h]
    have e1 := take_bef c l h
    have e2 := drop_bef c l h
    show (l.take ((bef c l).length : Int).toNat, l.drop (((bef c l).length : Int).toNat + [c].length), true) = _
    rw [Int.toNat_natCast, e1]
    simp [e2]
  · rw [if_neg h, if_neg (by omega), if_neg h]

def splitC (c : UInt8) : List UInt8 → List (List UInt8)
  | [] => [[]]
  | b :: l => if b = c then [] :: splitC c l else match splitC c l with
    | h :: t => (b :: h) :: t
    | [] => [[b]]
theorem splitC_ne (c : UInt8) (l : List UInt8) : splitC c l ≠ [] := by
  cases l with
  | nil => simp [splitC]
  | cons b l => unfold splitC; split; simp; split <;> simp
theorem splitC_not (c : UInt8) : ∀ l : List UInt8, c ∉ l → splitC c l = [l]
  | [], _ => rfl
  | b :: l, h => by
    simp only [List.mem_cons, not_or] at h
    rw [splitC, if_neg (fun e => h.1 e.symm), splitC_not c l h.2]
theorem splitC_app (c : UInt8) (b : List UInt8) : ∀ a : List UInt8, c ∉ a → splitC c (a ++ c :: b) = a :: splitC c b
  | [], _ => by simp [splitC]
  | x :: a, h => by
    simp only [List.mem_cons, not_or] at h
    rw [List.cons_append, splitC, if_neg (fun e => h.1 e.symm), splitC_app c b a h.2]
theorem splitC_in (c : UInt8) (l : List UInt8) (h : c ∈ l) : splitC c l = bef c l :: splitC c (aft c l) := by
  conv => lhs; rw [bef_aft c l h]
  exact splitC_app c _ _ (bef_not c l)
theorem aft_len (c : UInt8) (l : List UInt8) (h : c ∈ l) : (aft c l).length < l.length := by
  have e := congrArg List.length (bef_aft c l h)
  rw [List.length_append, List.length_cons] at e
  omega
theorem splitK_one (c : UInt8) : ∀ (k : Nat) (l : List UInt8), l.count c ≤ k → splitK [c] 0 k l = splitC c l
  | 0, l, h => by
    have : c ∉ l := List.count_eq_zero.1 (by omega)
    rw [splitC_not c l this]; rfl
  | k + 1, l, h => by
    unfold splitK
    rw [index_one]
    by_cases hm : c ∈ l
    · rw [if_pos hm, if_neg (by simp), splitC_in c l hm]
      have e := bef_aft c l hm
      have e1 := take_bef c l hm
      have e2 := drop_bef c l hm
      have hc : (aft c l).count c ≤ k := by
        have : l.count c = (bef c l).count c + ((aft c l).count c + 1) := by
          conv => lhs; rw [e]
          rw [List.count_append, List.count_cons_self]
        omega
      show l.take (((bef c l).length : Int).toNat + 0) :: splitK [c] 0 k (l.drop (((bef c l).length : Int).toNat + 1)) = _
      rw [Int.toNat_natCast, Nat.add_zero, e1, e2, splitK_one c k _ hc]
    · rw [if_neg hm, if_pos (by simp), splitC_not c l hm]
theorem count_one (c : UInt8) : ∀ (n : Nat) (l : List UInt8), l.length ≤ n → count l [c] = l.count c
  | 0, l, h => by
    have : l = [] := List.eq_nil_of_length_eq_zero (by omega)
    subst this
    exact count_miss (by simp [index])
  | n + 1, l, h => by
    have hi := index_one c l
    by_cases hm : c ∈ l
    · rw [if_pos hm] at hi
      rw [count_hit (by simp) hi]
      have e := bef_aft c l hm
      have e2 := drop_bef c l hm
      have hl := aft_len c l hm
      show 1 + count (l.drop ((bef c l).length + 1)) [c] = _
      rw [e2, count_one c n _ (by omega)]
      conv => rhs; rw [e]
      rw [List.count_append, List.count_cons_self, List.count_eq_zero.2 (bef_not c l)]
      omega
    · rw [if_neg hm] at hi
      rw [count_miss hi, List.count_eq_zero.2 hm]
theorem split_one (c : UInt8) (l : List UInt8) : splitK [c] 0 (count l [c]) l = splitC c l :=
  splitK_one c _ l (Nat.le_of_eq (count_one c l.length l (Nat.le_refl _)).symm)

/-- Two dots side by side. -/
def dd (l : List UInt8) : Prop := ∃ i, i + 1 < l.length ∧ bt l i = 46 ∧ bt l (i + 1) = 46
theorem dd_cons (a : UInt8) (l : List UInt8) : dd (a :: l) ↔ (a.toNat = 46 ∧ 0 < l.length ∧ bt l 0 = 46) ∨ dd l := by
  constructor
  · rintro ⟨i, h1, h2, h3⟩
    cases i with
    | zero => exact .inl ⟨h2, by simpa using h1, h3⟩
    | succ i => exact .inr ⟨i, by simpa using h1, h2, h3⟩
  · rintro (⟨h1, h2, h3⟩ | ⟨i, h1, h2, h3⟩)
    · exact ⟨0, by simpa using h2, h1, h3⟩
    · exact ⟨i + 1, by simpa using h1, h2, h3⟩
theorem eq46 (c : UInt8) : c.toNat = 46 ↔ c = 46 := ⟨fun h => UInt8.toNat_inj.1 h, fun h => by subst h; rfl⟩
theorem contains_dd : ∀ l : List UInt8, contains l [46, 46] = true ↔ dd l
  | [] => by simp [contains, index, dd]
  | a :: l => by
    have ih := contains_dd l
    unfold contains at ih
    rw [decide_eq_true_eq] at ih
    rw [dd_cons, ← ih, contains, index, decide_eq_true_eq]
    have hge := index_ge l [46, 46]
    rw [eq46]
    cases l with
    | nil => simp [List.isPrefixOf, index]
    | cons b t =>
      rw [bt_zero, eq46]
      generalize index (b :: t) [46, 46] = z at *
      by_cases h : a = 46 ∧ b = 46
      · obtain ⟨rfl, rfl⟩ := h
        simp [List.isPrefixOf]
      · have hp : ([46, 46] : List UInt8).isPrefixOf (a :: b :: t) = false := by
          simp only [List.isPrefixOf, Bool.and_true, Bool.and_eq_false_iff, beq_eq_false_iff_ne]
          by_cases ha : a = 46
          · exact .inr fun e => h ⟨ha, e.symm⟩
          · exact .inl fun e => ha e.symm
        rw [hp, if_neg (by simp)]
        by_cases hi : z = -1
        · rw [hi, if_pos (by simp)]
          constructor
          · intro hh; omega
          · rintro (⟨h1, _, h2⟩ | hh)
            · exact absurd ⟨h1, h2⟩ h
            · omega
        · rw [if_neg (by simpa using hi)]
          constructor
          · intro _; exact .inr (by omega)
          · intro _; omega

/-- The signs of a local part, of a label. -/
def locC (n : Nat) : Prop := (97 ≤ n ∧ n ≤ 122) ∨ (65 ≤ n ∧ n ≤ 90) ∨ (48 ≤ n ∧ n ≤ 57) ∨ n = 46 ∨ n = 95 ∨ n = 43 ∨ n = 45
def labC (n : Nat) : Prop := (97 ≤ n ∧ n ≤ 122) ∨ (48 ≤ n ∧ n ≤ 57) ∨ n = 45
instance (n : Nat) : Decidable (locC n) := by unfold locC; infer_instance
instance (n : Nat) : Decidable (labC n) := by unfold labC; infer_instance
def LocP (l : List UInt8) : Prop := 1 ≤ l.length ∧ l.length ≤ 32 ∧ bt l 0 ≠ 46 ∧ bt l (l.length - 1) ≠ 46 ∧ ¬ dd l ∧ ∀ i, i < l.length → locC (bt l i)
def LabP (l : List UInt8) : Prop := 1 ≤ l.length ∧ l.length ≤ 20 ∧ bt l 0 ≠ 45 ∧ bt l (l.length - 1) ≠ 45 ∧ ∀ i, i < l.length → labC (bt l i)
def DomP (l : List UInt8) : Prop := 2 ≤ (splitC 46 l).length ∧ ∀ x ∈ splitC 46 l, LabP x
open Classical in
noncomputable def locB (l : List UInt8) : Bool := decide (LocP l)
open Classical in
noncomputable def labB (l : List UInt8) : Bool := decide (LabP l)
theorem locB_t {l : List UInt8} (h : LocP l) : locB l = true := by simp [locB, h]
theorem locB_f {l : List UInt8} (h : ¬ LocP l) : locB l = false := by simp [locB, h]
theorem labB_t {l : List UInt8} (h : LabP l) : labB l = true := by simp [labB, h]
theorem labB_f {l : List UInt8} (h : ¬ LabP l) : labB l = false := by simp [labB, h]
/-- An address. -/
def AddrP (l : List UInt8) : Prop := l.length ≤ 64 ∧ 64 ∈ l ∧ LocP (bef 64 l) ∧ DomP (aft 64 l)
open Classical in
noncomputable def addrB (l : List UInt8) : Bool := decide (AddrP l)
theorem addrB_t {l : List UInt8} (h : AddrP l) : addrB l = true := by simp [addrB, h]
theorem addrB_f {l : List UInt8} (h : ¬ AddrP l) : addrB l = false := by simp [addrB, h]
noncomputable def partA (l : List UInt8) : List UInt8 := if addrB l = true then bef 64 l else []
noncomputable def partB (l : List UInt8) : List UInt8 := if addrB l = true then aft 64 l else []

theorem mem_bt {l : List UInt8} {c : UInt8} (h : c ∈ l) : ∃ i, i < l.length ∧ bt l i = c.toNat := by
  obtain ⟨i, hi, e⟩ := List.getElem_of_mem h
  exact ⟨i, hi, by simp [bt, List.getD_eq_getElem?_getD, hi, e]⟩
theorem splitC_mem (c : UInt8) : ∀ (l : List UInt8) (x : UInt8), x ∈ l → x ≠ c → ∃ p ∈ splitC c l, x ∈ p
  | b :: l, x, h, hx => by
    rcases List.mem_cons.1 h with rfl | h
    · rw [splitC, if_neg hx]
      split
      · next e => exact ⟨_, List.mem_cons_self .., by simp⟩
      · exact ⟨_, List.mem_cons_self .., by simp⟩
    · obtain ⟨p, hp, hxp⟩ := splitC_mem c l x h hx
      rw [splitC]
      split
      · exact ⟨p, by simp [hp], hxp⟩
      · split
        · next q t e =>
          rw [e] at hp
          rcases List.mem_cons.1 hp with rfl | hp
          · exact ⟨_, List.mem_cons_self .., by simp [hxp]⟩
          · exact ⟨p, by simp [hp], hxp⟩
        · next e => rw [e] at hp; simp at hp
/-- No @ in a domain, none in a local part. -/
theorem dom_no_at {l : List UInt8} (h : DomP l) : (64 : UInt8) ∉ l := by
  intro hm
  obtain ⟨p, hp, hx⟩ := splitC_mem 46 l 64 hm (by decide)
  obtain ⟨i, hi, e⟩ := mem_bt hx
  have := (h.2 p hp).2.2.2.2 i hi
  rw [e] at this
  revert this
  decide
/-- Signs as small ones. -/
def lowU (c : UInt8) : UInt8 := if 65 ≤ c.toNat ∧ c.toNat ≤ 90 then c + 32 else c
def foldL (l : List UInt8) : List UInt8 := l.map lowU

/-- Blanks that say nothing go. -/
def sq (out : List UInt8) (c : UInt8) : List UInt8 := if c = 32 ∧ (out = [] ∨ out.getLast? = some 32) then out else out ++ [c]
def trimE (out : List UInt8) : List UInt8 := if out.getLast? = some 32 then out.dropLast else out
def sqz (l : List UInt8) : List UInt8 := trimE (l.foldl sq [])
def cleanB (l : List UInt8) : Bool := validD l && l.all okB
def cleanT (l : List UInt8) : List UInt8 := if cleanB l = true then (if sqz l = [] then [] else if 64 < (sqz l).length then [] else sqz l) else []
def cleanE (l : List UInt8) : Int := if cleanB l = true then (if sqz l = [] then 14 else if 64 < (sqz l).length then 2 else 0) else 1
theorem sq_len (out : List UInt8) (c : UInt8) : (sq out c).length ≤ out.length + 1 := by unfold sq; split <;> simp
theorem fold_sq_len : ∀ (l out : List UInt8), (l.foldl sq out).length ≤ out.length + l.length
  | [], out => by simp
  | c :: l, out => by
    have := fold_sq_len l (sq out c)
    have := sq_len out c
    simp only [List.foldl_cons, List.length_cons]
    omega
theorem fold_take (s : ByteArray) (k : Nat) (h : k < s.size) : (s.data.toList.take (k + 1)).foldl sq [] = sq ((s.data.toList.take k).foldl sq []) s[k] := by
  have hl : k < s.data.toList.length := by simpa using h
  rw [List.take_succ_eq_append_getElem hl, List.foldl_append]
  rfl

end Go.Proofs.YtfacfdjapjhpeaaGreatDoor
namespace Go.Proofs.YtfacfdjapjhpeaaGreatDoor
open Go.RowKit

theorem retB {a b : Bool} (h : a = b) : Ending.returned (.bool a) = .returned (.bool b) := by rw [h]
set_option maxHeartbeats 2000000 in
theorem isLabel_calls (s : ByteArray) (hs : s.size ≤ 1000000000) (w : World) : Calls Tryz.prog 276 #[.string s] w fun e w' => e = .returned (.bool (labB s.data.toList)) ∧ w = w' := by
  have hl : s.data.toList.length = s.size := by simp
  obtain ⟨v, hv⟩ : ∃ v, labB s.data.toList = v := ⟨_, rfl⟩
  rw [hv]
  have HF := hd (fun h => hv.symm.trans (labB_f h) : ¬ LabP s.data.toList → v = false)
  have HT := hd (fun h => hv.symm.trans (labB_t h) : LabP s.data.toList → v = true)
  clear hv
  have HL := hd hl
  clear hl
  by_cases c1 : s.size < 1
  · go_enter Tryz.func276, Tryz.ntmps276
    go_wp2
    go_ret
    exact ⟨retB (HF.o (fun h => by have := h.1; rw [HL.o] at this; omega)).symm, rfl⟩
  by_cases c2 : 20 < s.size
  · go_enter Tryz.func276, Tryz.ntmps276
    go_wp2
    go_ret
    exact ⟨retB (HF.o (fun h => by have := h.2.1; rw [HL.o] at this; omega)).symm, rfl⟩
  have c3 : 0 < s.size := by omega
  have c4 : s.size - 1 < s.size := by omega
  have B0 := hd (bt_self s 0 c3)
  have B1 := hd (bt_self s (s.size - 1) c4)
  by_cases c5 : s[0].toNat = 45
  · have n5 : ((s[0].toNat : Int) == 45) = true := by simp; omega
    have H5 := hd c5
    clear c5
    go_enter Tryz.func276, Tryz.ntmps276
    go_wp2
    go_ret
    exact ⟨retB (HF.o (fun h => h.2.2.1 (B0.o.trans H5.o))).symm, rfl⟩
  have n5 : ((s[0].toNat : Int) == 45) = false := by simp; omega
  by_cases c6 : s[s.size - 1].toNat = 45
  · have n6 : ((s[s.size - 1].toNat : Int) == 45) = true := by simp; omega
    have H6 := hd c6
    clear c6 c5
    go_enter Tryz.func276, Tryz.ntmps276
    go_wp2
    go_ret
    exact ⟨retB (HF.o (fun h => h.2.2.2.1 (by rw [HL.o]; exact B1.o.trans H6.o))).symm, rfl⟩
  have n6 : ((s[s.size - 1].toNat : Int) == 45) = false := by simp; omega
  have H5 := hd c5
  have H6 := hd c6
  clear c5 c6
  go_enter Tryz.func276, Tryz.ntmps276
  go_wp2
  go_loop [28] (fun i => ∃ k : Nat, i = .int .i64 k ∧ k ≤ s.size ∧ Hd (∀ j, j < k → labC (bt s.data.toList j))) (fun i => s.size - (intOf i).toNat)
  case atStart => exact ⟨0, rfl, Nat.zero_le _, fun j hj => absurd hj (Nat.not_lt_zero _)⟩
  case round =>
    obtain ⟨k, rfl, hk, hh⟩ := hrel
    by_cases hlt : k < s.size
    · have BK := hd (bt_self s k hlt)
      by_cases hc : labC s[k].toNat
      · have HN : Hd (∀ j, j < k + 1 → labC (bt s.data.toList j)) := fun j hj => by
          by_cases e : j = k
          · subst e; rw [BK.o]; exact hc
          · exact hh.o j (by omega)
        unfold labC at hc
        go_wp2
        all_goals
          go_round
          case rel => exact ⟨k + 1, by go_num, by omega, HN⟩
          case measure => simp [intOf]; omega
      · have HV := hd (HF.o (fun h => hc (by rw [← BK.o]; exact h.2.2.2.2 k (by rw [HL.o]; exact hlt))))
        unfold labC at hc
        have n45 : ((s[k].toNat : Int) != 45) = true := by simp; omega
        go_wp2
        all_goals first
          | (exfalso; omega)
          | (exfalso; simp only [bne_iff_ne, ne_eq, beq_iff_eq, bne_eq_false_iff_eq, beq_eq_false_iff_ne, bne_self_eq_false, Bool.false_eq_true] at *; omega)
          | (go_ret; exact ⟨retB HV.o.symm, rfl⟩)
    · have : k = s.size := by omega
      subst this
      go_wp2
      go_ret
      exact ⟨retB (HT.o ⟨by rw [HL.o]; omega, by rw [HL.o]; omega, by rw [B0.o]; exact H5.o, by rw [HL.o, B1.o]; exact H6.o, fun i hi => hh.o i (by rw [HL.o] at hi; exact hi)⟩).symm, rfl⟩

end Go.Proofs.YtfacfdjapjhpeaaGreatDoor
namespace Go.Proofs.YtfacfdjapjhpeaaGreatDoor
open Go.RowKit

end Go.Proofs.YtfacfdjapjhpeaaGreatDoor
