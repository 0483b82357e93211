/-
  Plain lemmas on worlds and memory, for every program; nothing here speaks of a given function.
-/
import Derived.WalkKit
import Derived.WalkSpells
import Derived.Laws.Rows
import Derived.Deep.Draws
set_option linter.unusedVariables false
set_option linter.unusedSimpArgs false
namespace Go.Proofs.YtpejlcaoggedfaaGreatDoor
open Go.RowKit

/-- A fact kept from the walk's simp. -/
def Hd (p : Prop) : Prop := p
theorem hd {p : Prop} (h : p) : Hd p := h
theorem Hd.o {p : Prop} (h : Hd p) : p := h

/-- Only the blocks in S, and new ones, may have turned. -/
structure Chg (S : Nat → Prop) (w w' : World) : Prop where
  os : w'.os = w.os
  tape : w'.tape = w.tape
  output : w'.output = w.output
  size : w.heap.size ≤ w'.heap.size
  block : ∀ k, k < w.heap.size → ¬ S k → w'.heap[k]? = w.heap[k]?

def Non : Nat → Prop := fun _ => False
def One (b : Nat) : Nat → Prop := fun k => k = b
def From (b : Nat) : Nat → Prop := fun k => b ≤ k

theorem Chg.refl (S : Nat → Prop) (w : World) : Chg S w w := ⟨rfl, rfl, rfl, Nat.le_refl _, fun _ _ _ => rfl⟩

theorem Chg.mono {S T : Nat → Prop} {w w' : World} (h : Chg S w w') (hs : ∀ k, S k → T k) : Chg T w w' :=
  ⟨h.os, h.tape, h.output, h.size, fun k hk ht => h.block k hk fun s => ht (hs k s)⟩

/-- Two steps; the second may touch what the first made. -/
theorem Chg.trans {S S1 : Nat → Prop} {a b c : World} (h : Chg S a b) (k : Chg S1 b c) (hs : ∀ k, S1 k → S k ∨ a.heap.size ≤ k) : Chg S a c :=
  ⟨k.os.trans h.os, k.tape.trans h.tape, k.output.trans h.output, Nat.le_trans h.size k.size, fun i hi hn =>
    (k.block i (Nat.lt_of_lt_of_le hi h.size) fun s => by rcases hs i s with s | s; exact hn s; omega).trans (h.block i hi hn)⟩

theorem Chg.alloc {S : Nat → Prop} {a w : World} (h : Chg S a w) (o : Obj) : Chg S a (w.alloc o) :=
  h.trans (S1 := Non) ⟨rfl, rfl, rfl, by simp, fun k hk _ => Below.heap_alloc w o k hk⟩ (fun _ h => h.elim)

theorem Chg.drew {S : Nat → Prop} {a w : World} (h : Chg S a w) : Chg S a w.drew := ⟨h.os, h.tape, h.output, h.size, h.block⟩
theorem Chg.drewN {S : Nat → Prop} {a w : World} (h : Chg S a w) (n : Nat) : Chg S a (w.drewN n) := ⟨h.os, h.tape, h.output, h.size, h.block⟩

theorem Chg.setCell {S : Nat → Prop} {a w : World} (h : Chg S a w) {p : Addr} (hp : S p.block ∨ a.heap.size ≤ p.block) (u : Value) : Chg S a (w.setCell p u) :=
  h.trans (S1 := One p.block) ⟨rfl, rfl, rfl, by simp [World.setCell], fun k _ hk => Below.heap_setCell w p u k hk⟩ (fun k hk => by cases hk; exact hp)

theorem Chg.grown {S : Nat → Prop} {a w w' : World} {row : Option Nat} (h : Chg S a w) (hg : w.grownBy w' row) (hr : ∀ k, row = some k → S k ∨ a.heap.size ≤ k) : Chg S a w' :=
  h.trans (S1 := fun k => some k = row) ⟨hg.os, hg.tape, hg.output, hg.size, fun k hk hn => hg.block k hk hn⟩ (fun k hk => hr k hk.symm)

theorem Chg.of_below {w w' : World} (S : Nat → Prop) (h : Below w.heap.size w w') : Chg S w w' := ⟨h.os, h.tape, h.output, h.size, fun k hk _ => h.block k hk⟩

theorem Chg.below {S : Nat → Prop} {w w' : World} {B : Nat} (h : Chg S w w') (hs : ∀ k, S k → B ≤ k) (hB : B ≤ w.heap.size) : Below B w w' :=
  ⟨h.os, h.tape, h.output, h.size, fun k hk => h.block k (by omega) fun s => by have := hs k s; omega⟩

/-- After a step that only makes memory. -/
theorem Chg.then_below {S : Nat → Prop} {a w w' : World} (h : Chg S a w) (k : Below w.heap.size w w') : Chg S a w' :=
  h.trans (S1 := Non) (Chg.of_below _ k) (fun _ h => h.elim)

/-- Block g is just these cells, none frozen. -/
def Blk (w : World) (g : Nat) (t : TypeId) (cs : Array Value) : Prop := w.heap[g]? = some (.cells cs t (0, 0))

section
variable {w w' : World} {g : Nat} {t : TypeId} {cs : Array Value}
theorem Blk.lt (h : Blk w g t cs) : g < w.heap.size := by
  rcases Nat.lt_or_ge g w.heap.size with hlt | hge
  · exact hlt
  · unfold Blk at h; rw [Array.getElem?_eq_none hge] at h; cases h
theorem Blk.cell (h : Blk w g t cs) (i : Nat) : w.cell? ⟨g, i, none⟩ = cs[i]? := cell_of_row w g i cs t (0, 0) h
theorem Blk.at_ (h : Blk w g t cs) (i : Nat) {v : Value} (hv : cs[i]? = some v) : w.cell? ⟨g, i, none⟩ = some v := (h.cell i).trans hv
theorem Blk.frozen (h : Blk w g t cs) (i : Nat) : w.frozen? ⟨g, i, none⟩ = false := by
  unfold Blk at h
  simp [World.frozen?, h]
theorem Blk.new (w : World) (t : TypeId) (cs : Array Value) : Blk (w.alloc (.cells cs t)) w.heap.size t cs := heap_alloc_new w _
theorem Blk.new_ (w : World) (g : Nat) (hg : g = w.heap.size) (t : TypeId) (cs : Array Value) : Blk (w.alloc (.cells cs t)) g t cs := by subst hg; exact heap_alloc_new w _
theorem Blk.drew (h : Blk w g t cs) : Blk w.drew g t cs := h
theorem Blk.drewN (h : Blk w g t cs) (n : Nat) : Blk (w.drewN n) g t cs := h
theorem Blk.alloc (h : Blk w g t cs) (o : Obj) : Blk (w.alloc o) g t cs := (Below.heap_alloc w o g h.lt).trans h
theorem Blk.set_ (h : Blk w g t cs) (i : Nat) (u : Value) : Blk (w.setCell ⟨g, i, none⟩ u) g t (cs.setIfInBounds i u) := by
  unfold Blk at h ⊢
  simp [World.setCell, Array.getElem?_modify, h]
theorem Blk.far (h : Blk w g t cs) {p : Addr} (hp : g ≠ p.block) (u : Value) : Blk (w.setCell p u) g t cs := (Below.heap_setCell w p u g hp).trans h
theorem Blk.chg {S : Nat → Prop} (h : Blk w g t cs) (hb : Chg S w w') (hg : ¬ S g) : Blk w' g t cs := (hb.block g h.lt hg).trans h
theorem Blk.below {B : Nat} (h : Blk w g t cs) (hb : Below B w w') (hg : g < B) : Blk w' g t cs := (hb.block g hg).trans h
theorem Blk.grown {row : Option Nat} (h : Blk w g t cs) (hb : w.grownBy w' row) (hg : some g ≠ row) : Blk w' g t cs := (hb.block g h.lt hg).trans h
theorem Blk.ne_ {g' : Nat} {t' : TypeId} {cs' : Array Value} (h : Blk w g t cs) (h' : Blk w g' t' cs') (ht : t ≠ t') : g ≠ g' := by
  rintro rfl
  unfold Blk at h h'
  rw [h] at h'
  injection h' with h'
  injection h' with _ h'
  exact ht h'
end

theorem size_setCell (w : World) (p : Addr) (u : Value) : (w.setCell p u).heap.size = w.heap.size := by simp [World.setCell]

/-- A slice value that owns its row: blocks in S. -/
structure Row (w : World) (S : Nat → Prop) (e : TypeId) (size : Nat) (A : Option Addr) (n c : Nat) (xs : List Value) : Prop where
  own : w.ownsRow 0 e size (.slice A n c) n xs
  fp : ∀ a, A = some a → S a.block

section
variable {w w' : World} {S T : Nat → Prop} {e : TypeId} {size n c : Nat} {A : Option Addr} {xs : List Value}

theorem Row.nil (w : World) (S : Nat → Prop) (e size : Nat) : Row w S e size none 0 0 [] := ⟨World.ownsRow_nil _ _ _ _, fun _ h => by cases h⟩
theorem Row.len (h : Row w S e size A n c xs) : xs.length = n * size := h.own.1
/-- Where there is an element: the block. -/
theorem Row.at_ (h : Row w S e size A n c xs) (hn : 0 < n) : ∃ g, A = some ⟨g, 0, none⟩ ∧ S g ∧ g < w.heap.size ∧ n ≤ c ∧ c ≤ maxLen ∧ (∀ j u, xs[j]? = some u → w.cell? ⟨g, j, none⟩ = some u) ∧ (∀ j, w.frozen? ⟨g, j, none⟩ = false) := by
  obtain ⟨h1, h2⟩ := h.own
  rcases h2 with ⟨_, rfl⟩ | ⟨g, cap, cur, hv, _, hg, hnc, hcm, hcs, ht⟩
  · omega
  · injection hv with hA _ hc
    subst hA; subst hc
    refine ⟨g, rfl, h.fp _ rfl, (Array.getElem?_eq_some_iff.1 hg).1, hnc, hcm, fun j u hu => ?_, fun j => Blk.frozen hg j⟩
    rw [Blk.cell hg]
    rw [← ht, List.getElem?_take] at hu
    split at hu
    · simpa using hu
    · cases hu
theorem Row.cap (h : Row w S e size A n c xs) : n ≤ c ∧ c ≤ maxLen := by
  obtain ⟨h1, h2⟩ := h.own
  rcases h2 with ⟨hv, rfl⟩ | ⟨g, cap, cur, hv, _, hg, hnc, hcm, hcs, ht⟩
  · injection hv with _ _ hc; subst hc; simp
  · injection hv with hA _ hc; subst hc; exact ⟨hnc, hcm⟩
theorem Row.none_ (h : Row w S e size none n c xs) : n = 0 ∧ c = 0 ∧ xs = [] := by
  obtain ⟨h1, h2⟩ := h.own
  rcases h2 with ⟨hv, rfl⟩ | ⟨g, cap, cur, hv, _⟩
  · injection hv with _ _ hc; exact ⟨rfl, hc, List.eq_nil_of_length_eq_zero (by simpa using h1)⟩
  · injection hv with hA; cases hA
/-- Where there is an address at all. -/
theorem Row.block (h : Row w S e size A n c xs) {a : Addr} (ha : A = some a) : ∃ g cur, a = ⟨g, 0, none⟩ ∧ S g ∧ Blk w g e cur ∧ n ≤ c ∧ c ≤ maxLen ∧ cur.size = c * size ∧ cur.toList.take (n * size) = xs := by
  obtain ⟨h1, h2⟩ := h.own
  rcases h2 with ⟨hv, rfl⟩ | ⟨g, cap, cur, hv, _, hg, hnc, hcm, hcs, ht⟩
  · injection hv with hA; rw [ha] at hA; cases hA
  · injection hv with hA _ hc
    subst hc
    rw [ha] at hA; injection hA with hA; subst hA
    exact ⟨g, cur, rfl, h.fp _ ha, hg, hnc, hcm, hcs, ht⟩
theorem Row.of_block {g : Nat} {cur : Array Value} (hg : Blk w g e cur) (hS : S g) (hnc : n ≤ c) (hcm : c ≤ maxLen) (hcs : cur.size = c * size) (ht : cur.toList.take (n * size) = xs) (hl : xs.length = n * size) : Row w S e size (some ⟨g, 0, none⟩) n c xs :=
  ⟨⟨hl, .inr ⟨g, c, cur, rfl, Nat.zero_le _, hg, hnc, hcm, hcs, ht⟩⟩, fun a ha => by cases ha; exact hS⟩
theorem Row.mono (h : Row w S e size A n c xs) (hs : ∀ k, S k → T k) : Row w T e size A n c xs := ⟨h.own, fun a ha => hs _ (h.fp a ha)⟩
theorem Row.lt (h : Row w S e size A n c xs) {a : Addr} (ha : A = some a) : a.block < w.heap.size := by
  obtain ⟨g, cur, rfl, _, hb, _⟩ := h.block ha
  exact hb.lt
/-- What keeps the row's block keeps the row. -/
theorem Row.keep (h : Row w S e size A n c xs) (hk : ∀ a, A = some a → w'.heap[a.block]? = w.heap[a.block]?) : Row w' S e size A n c xs := by
  cases A with
  | none => obtain ⟨rfl, rfl, rfl⟩ := h.none_; exact Row.nil _ _ _ _
  | some a =>
    obtain ⟨g, cur, rfl, hS, hb, h1, h2, h3, h4⟩ := h.block rfl
    exact Row.of_block ((hk _ rfl).trans hb) hS h1 h2 h3 h4 h.len
theorem Row.chg (h : Row w S e size A n c xs) (hc : Chg T w w') (hd : ∀ k, S k → ¬ T k) : Row w' S e size A n c xs :=
  h.keep fun a ha => hc.block _ (h.lt ha) (hd _ (h.fp a ha))
theorem Row.alloc (h : Row w S e size A n c xs) (o : Obj) : Row (w.alloc o) S e size A n c xs := h.keep fun _ ha => Below.heap_alloc w o _ (h.lt ha)
theorem Row.below (h : Row w S e size A n c xs) (hb : Below w.heap.size w w') : Row w' S e size A n c xs := h.keep fun _ ha => hb.block _ (h.lt ha)
theorem Row.drew (h : Row w S e size A n c xs) : Row w.drew S e size A n c xs := ⟨h.own, h.fp⟩
theorem Row.drewN (h : Row w S e size A n c xs) (k : Nat) : Row (w.drewN k) S e size A n c xs := ⟨h.own, h.fp⟩
theorem Row.far (h : Row w S e size A n c xs) {p : Addr} (hp : ∀ a, A = some a → a.block ≠ p.block) (u : Value) : Row (w.setCell p u) S e size A n c xs :=
  h.keep fun a ha => Below.heap_setCell w p u _ (hp a ha)
end

theorem Row.ne_blk {w : World} {S : Nat → Prop} {e : TypeId} {size n c : Nat} {A : Option Addr} {xs : List Value} {b : Nat} {t : TypeId} {cs : Array Value} (h : Row w S e size A n c xs) (hb : Blk w b t cs) (ht : e ≠ t) : ∀ a, A = some a → a.block ≠ b := by
  intro a ha
  obtain ⟨g, cur, rfl, _, hg, _⟩ := h.block ha
  exact hg.ne_ hb ht
theorem cells_lit (v : Value) (l : List Value) (i : Nat) : ((v :: l).toArray)[i + 1]? = (l.toArray)[i]? := by simp

/-- An owned row's value is a slice. -/
theorem own_form {w : World} {base : Nat} {e : TypeId} {size : Nat} {v : Value} {n : Nat} {xs : List Value} (h : w.ownsRow base e size v n xs) : ∃ A c, v = .slice A n c := by
  rcases h.2 with ⟨rfl, rfl⟩ | ⟨g, cap, cur, rfl, _⟩
  · exact ⟨_, _, rfl⟩
  · exact ⟨_, _, rfl⟩
theorem own_base {w : World} {base : Nat} {e : TypeId} {size : Nat} {v : Value} {n : Nat} {xs : List Value} (h : w.ownsRow base e size v n xs) : w.ownsRow 0 e size v n xs := by
  refine ⟨h.1, ?_⟩
  rcases h.2 with h | ⟨g, cap, cur, h1, _, h2⟩
  · exact .inl h
  · exact .inr ⟨g, cap, cur, h1, Nat.zero_le _, h2⟩
/-- The block of a slice's address. -/
def Of (A : Option Addr) : Nat → Prop := fun k => some k = A.map (·.block)
/-- S, and what is made from B on. -/
def Plus (S : Nat → Prop) (B : Nat) : Nat → Prop := fun k => S k ∨ B ≤ k
theorem Of.none {k : Nat} : ¬ Of Option.none k := fun h => by cases h
theorem Of.some_ {a : Addr} {k : Nat} (h : Of (some a) k) : k = a.block := by injection h
theorem Row.own_ {w : World} {S : Nat → Prop} {e : TypeId} {size n c : Nat} {A : Option Addr} {xs : List Value} (h : Row w S e size A n c xs) : Row w (Of A) e size A n c xs :=
  ⟨h.own, fun a ha => by rw [ha]; rfl⟩
theorem Row.of_sub {w : World} {S : Nat → Prop} {e : TypeId} {size n c : Nat} {A : Option Addr} {xs : List Value} (h : Row w S e size A n c xs) : ∀ k, Of A k → S k := by
  intro k hk
  cases A with
  | none => exact (Of.none hk).elim
  | some a => rw [hk.some_]; exact h.fp a rfl

/-- Rows of unlike elements lie apart. -/
theorem Row.apart {w : World} {S T : Nat → Prop} {e e' : TypeId} {size size' n n' c c' : Nat} {A A' : Option Addr} {xs xs' : List Value} (h : Row w S e size A n c xs) (h' : Row w T e' size' A' n' c' xs') (he : e ≠ e') : ∀ k, Of A k → ¬ Of A' k := by
  intro k hk hk'
  cases A with
  | none => exact Of.none hk
  | some a =>
    cases A' with
    | none => exact Of.none hk'
    | some a' =>
      obtain ⟨g, cur, rfl, _, hg, _⟩ := h.block rfl
      obtain ⟨g', cur', rfl, _, hg', _⟩ := h'.block rfl
      exact hg.ne_ hg' he (hk.some_.symm.trans hk'.some_)
/-- A call in a quiet region: what leaves the world alone. -/
theorem q1 {P : Program} {f : FuncId} {args : Array Value} {w : World} {n : Nat} {v : Value} (h : Calls P f args (w.drewN n) fun e w' => e = .returned v ∧ w.drewN n = w') :
    Calls P f args (w.drewN n) fun e w'' => e = .returned v ∧ ∃ m, w'' = w.drewN m := h.mono fun _ _ ⟨he, hm⟩ => ⟨he, n, hm.symm⟩
theorem q2 {P : Program} {f : FuncId} {args : Array Value} {w : World} {a n : Nat} {v : Value} (h : Calls P f args (w.drewN (a + n)) fun e w' => e = .returned v ∧ w.drewN (a + n) = w') :
    Calls P f args (w.drewN (a + n)) fun e w'' => e = .returned v ∧ ∃ m, w'' = w.drewN (a + m) := h.mono fun _ _ ⟨he, hm⟩ => ⟨he, n, hm.symm⟩

/-- Texts as lists of bytes: the walk does not look behind the name. -/
def bs (l : List UInt8) : ByteArray := ⟨l.toArray⟩
theorem bs_data (l : List UInt8) : (bs l).data.toList = l := rfl
theorem bs_self (b : ByteArray) : bs b.data.toList = b := rfl
theorem bs_size (l : List UInt8) : (bs l).size = l.length := by simp [bs, ByteArray.size]
theorem ba_of {b : ByteArray} {l : List UInt8} (h : b.data.toList = l) : b = ⟨l.toArray⟩ := by subst h; rfl
theorem ba_app (a b : ByteArray) : (a ++ b).data.toList = a.data.toList ++ b.data.toList := by simp
theorem ba_size (b : ByteArray) : b.size = b.data.toList.length := by rw [Array.length_toList]; rfl
theorem ba_ext {a b : ByteArray} (h : a.data.toList = b.data.toList) : a = b := by rw [ba_of h]
theorem ret_str {a b : ByteArray} (h : a.data.toList = b.data.toList) : Ending.returned (.string a) = .returned (.string b) := by rw [ba_ext h]

/-- A slice that is read: its elements' cells; nothing is said of who owns it. -/
structure Rds (w : World) (A : Option Addr) (n size : Nat) (xs : List Value) : Prop where
  len : xs.length = n * size
  at_ : 0 < n → ∃ g o, A = some ⟨g, o, none⟩ ∧ g < w.heap.size ∧ ∀ j u, xs[j]? = some u → w.cell? ⟨g, o + j, none⟩ = some u
theorem Row.rds {w : World} {S : Nat → Prop} {e : TypeId} {size n c : Nat} {A : Option Addr} {xs : List Value} (h : Row w S e size A n c xs) : Rds w A n size xs :=
  ⟨h.len, fun hn => by
    obtain ⟨g, hA, _, hg, _, _, hc, _⟩ := h.at_ hn
    exact ⟨g, 0, hA, hg, fun j u hu => by rw [Nat.zero_add]; exact hc j u hu⟩⟩
theorem Rds.keep {w w' : World} {A : Option Addr} {n size : Nat} {xs : List Value} (h : Rds w A n size xs) (hs : w.heap.size ≤ w'.heap.size) (hk : ∀ a, A = some a → w'.heap[a.block]? = w.heap[a.block]?) : Rds w' A n size xs :=
  ⟨h.len, fun hn => by
    obtain ⟨g, o, hA, hg, hc⟩ := h.at_ hn
    exact ⟨g, o, hA, by omega, fun j u hu => (World.cell?_of_block (a := ⟨g, o + j, none⟩) (hk ⟨g, o, none⟩ hA)).trans (hc j u hu)⟩⟩
theorem Rds.chg {w w' : World} {S : Nat → Prop} {A : Option Addr} {n size : Nat} {xs : List Value} (h : Rds w A n size xs) (hc : Chg S w w') (hd : ∀ k, Of A k → ¬ S k) : Rds w' A n size xs :=
  ⟨h.len, fun hn => by
    obtain ⟨g, o, hA, hg, hcl⟩ := h.at_ hn
    refine ⟨g, o, hA, by have := hc.size; omega, fun j u hu => (World.cell?_of_block (hc.block g hg (hd g ?_))).trans (hcl j u hu)⟩
    rw [hA]; rfl⟩
theorem Rds.below {w w' : World} {A : Option Addr} {n size : Nat} {xs : List Value} (h : Rds w A n size xs) (hb : Below w.heap.size w w') : Rds w' A n size xs :=
  h.chg (Chg.of_below Non hb) (fun _ _ => id)
theorem Rds.alloc {w : World} {A : Option Addr} {n size : Nat} {xs : List Value} (h : Rds w A n size xs) (o : Obj) : Rds (w.alloc o) A n size xs :=
  h.below ((Below.refl _ w).alloc (Nat.le_refl _) o)
theorem Rds.drewN {w : World} {A : Option Addr} {n size : Nat} {xs : List Value} (h : Rds w A n size xs) (k : Nat) : Rds (w.drewN k) A n size xs := ⟨h.len, h.at_⟩

theorem bdrewN {B : Nat} {a w : World} (h : Below B a w) (n : Nat) : Below B a (w.drewN n) := ⟨h.os, h.tape, h.output, h.size, h.block⟩

theorem ret_int {k : IntKind} {a b : Int} (h : a = b) : Ending.returned (.int k a) = .returned (.int k b) := by rw [h]
theorem ret_bool {a b : Bool} (h : a = b) : Ending.returned (.bool a) = .returned (.bool b) := by rw [h]
theorem ret_val {a b : Value} (h : a = b) : Ending.returned a = .returned b := by rw [h]

end Go.Proofs.YtpejlcaoggedfaaGreatDoor
