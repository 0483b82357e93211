/-
  Plain lemmas on worlds and memory, for every program; nothing here speaks of a given function.
-/
import Derived.Test.YtogjokofmfpmgaaGreatDoorGAA
import Derived.WalkKit
import Derived.WalkSpells
import Derived.Laws.Rows
import Derived.Deep.Draws
import Derived.Test.YtogjokofmfpmgaaGreatDoorBytesOrd
import Derived.Lib.Bytealg
import Derived.Test.YtogjokofmfpmgaaGreatDoorGAI
import Derived.Test.YtogjokofmfpmgaaGreatDoorGAO
import Derived.Test.YtogjokofmfpmgaaGreatDoorGAJ
import Derived.Test.YtogjokofmfpmgaaGreatDoorSacLift
import Derived.Test.YtogjokofmfpmgaaGreatDoorLift
import Derived.Test.YtogjokofmfpmgaaGreatDoorSesJ
import Derived.Test.YtogjokofmfpmgaaGreatDoorGAT
import Derived.Test.YtogjokofmfpmgaaGreatDoorSFst
import Derived.Test.YtogjokofmfpmgaaGreatDoorSOk
set_option linter.unusedVariables false
set_option linter.unusedSimpArgs false
namespace Go.Proofs.YtogjokofmfpmgaaGreatDoor
open Go.RowKit

section
variable {w w' : World} {g : Nat} {t : TypeId} {cs : Array Value}
end

section
variable {w w' : World} {S T : Nat → Prop} {e : TypeId} {size n c : Nat} {A : Option Addr} {xs : List Value}

end

/-- Rows of unlike elements lie apart. -/
theorem Row.apart {w : World} {S T : Nat → Prop} {e e' : TypeId} {size size' n n' c c' : Nat} {A A' : Option Addr} {xs xs' : List Value} (h : Row w S e size A n c xs) (h' : Row w T e' size' A' n' c' xs') (he : e ≠ e') : ∀ k, Of A k → ¬ Of A' k := by
  intro k hk hk'
  cases A with
  | none => exact Of.none hk
  | some a =>
    cases A' with
    | none => exact Of.none hk'
    | some a' =>
      obtain ⟨g, cur, rfl, _, hg, _⟩ := h.block rfl
      obtain ⟨g', cur', rfl, _, hg', _⟩ := h'.block rfl
      exact hg.ne_ hg' he (hk.some_.symm.trans hk'.some_)
end Go.Proofs.YtogjokofmfpmgaaGreatDoor
namespace Go.Proofs.YtogjokofmfpmgaaGreatDoor
open Go.Lib

variable {V : Type}
/-- How many keys are below one. -/
def place (l : ML V) (k : List UInt8) : Nat := l.countP fun x => decide (compareBytes x.1 k < 0)
/-- Put, Del. -/
def putM (l : ML V) (k : List UInt8) (v : V) : ML V := if hasM l k = true then l.set (place l k) (k, v) else l.take (place l k) ++ (k, v) :: l.drop (place l k)
def delM (l : ML V) (k : List UInt8) : ML V := if hasM l k = true then l.eraseIdx (place l k) else l

end Go.Proofs.YtogjokofmfpmgaaGreatDoor
namespace Go.Proofs.YtogjokofmfpmgaaGreatDoor
open Go.RowKit Go.Lib

def pushL (cap : Int) (l : List (Int × List UInt8)) (x : Int × List UInt8) : List (Int × List UInt8) := (if pushFull cap l = true then l.drop 1 else l) ++ [x]
def Cs.mls (s : Cs) (o : OpV) (t : Int) : ML Ce := if o.del = true then delM s.ml o.uid else putM s.ml o.uid ⟨t, o.card⟩
def Cs.app (s : Cs) (o : OpV) (t : Int) : Cs := ⟨s.most, s.cap, s.mls o t, pushL s.cap s.log (t, o.uid), t, s.hor⟩
def Cs.step (s : Cs) (o : OpV) (t : Int) : Bool × Cs := if s.no o t = true then (false, s) else (true, s.app o t)
end Go.Proofs.YtogjokofmfpmgaaGreatDoor
namespace Go.Proofs.YtogjokofmfpmgaaGreatDoor
open Go.RowKit

theorem more_look {s : Ss} (m : List UInt8) (h : lookW s ≠ 0) (hc : s.closed = false) : lookW (moreS s m) = lookW s := by
  by_cases h1 : s.broken = true
  · simp [lookW, moreS, h1]
  · by_cases h2 : frE s.buf = 14
    · simp [lookW, h1, h2, hc] at h
    · have := (frE_app h2 m).1
      unfold lookW
      rw [show (moreS s m).buf = s.buf ++ m from rfl, this]
      rfl
theorem more_next {s : Ss} (m : List UInt8) (h : lookW s ≠ 0) (hc : s.closed = false) : nextS (moreS s m) = ((nextS s).1, moreS (nextS s).2 m) := by
  have hl := more_look m h hc
  rcases look_or s with h1 | h1 | ⟨h1, hb, he, he2⟩ | ⟨h1, hb, he⟩
  · exact absurd h1 h
  · rw [next_4 h1, next_4 (hl.trans h1)]
  · rw [next_3 h1, next_3 (hl.trans h1)]
    have := (frE_app he2 m).1
    simp only [moreS, this]
  · obtain ⟨e1, e2⟩ := frE_app (by rw [he]; decide : frE s.buf ≠ 14) m
    obtain ⟨k1, k2, k3, k4⟩ := e2 he
    have ke : errS (moreS s m) = errS s := by unfold errS; simp only [moreS, k1, k2]
    have kk : kindS (moreS s m) = kindS s := by unfold kindS; simp only [moreS, k1]
    have kg : goS (moreS s m) = moreS (goS s) m := by
      unfold goS
      simp only [moreS, k3]
      rw [List.drop_append_of_le_length k4]
    have kd : decQ (frK (moreS s m).buf) (frB (moreS s m).buf) = decQ (frK s.buf) (frB s.buf) := by simp only [moreS, k1, k2]
    by_cases h3 : errS s = 0
    · rw [next_1 h1 h3, next_1 (hl.trans h1) (ke.trans h3), kd, kk, kg]
      by_cases h4 : (decQ (frK s.buf) (frB s.buf)).1.k = 1
      · simp only [h4, if_true]; rfl
      · simp only [h4, if_false]; rfl
    · rw [next_2 h1 h3, next_2 (hl.trans h1) (by rw [ke]; exact h3), ke, kk, kg]
      rfl
theorem next_closed (s : Ss) : (nextS s).2.closed = s.closed ∧ (nextS s).2.room = s.room := by
  rcases look_or s with h1 | h1 | ⟨h1, _⟩ | ⟨h1, _⟩
  · rw [next_0 h1]; exact ⟨rfl, rfl⟩
  · rw [next_4 h1]; exact ⟨rfl, rfl⟩
  · rw [next_3 h1]; exact ⟨rfl, rfl⟩
  · by_cases h3 : errS s = 0
    · rw [next_1 h1 h3]
      simp only
      split <;> exact ⟨rfl, rfl⟩
    · rw [next_2 h1 h3]; exact ⟨rfl, rfl⟩
theorem half_next {s : Ss} (h : lookW s ≠ 0) : lookW (halfS s) = lookW s ∧ nextS (halfS s) = ((nextS s).1, halfS (nextS s).2) := by
  have hl : lookW (halfS s) = lookW s := by
    by_cases h1 : s.broken = true <;> by_cases h2 : frE s.buf = 14 <;> by_cases h3 : s.closed = true <;> simp_all [lookW, halfS]
  refine ⟨hl, ?_⟩
  rcases look_or s with h1 | h1 | ⟨h1, hb, he, he2⟩ | ⟨h1, hb, he⟩
  · exact absurd h1 h
  · rw [next_4 h1, next_4 (hl.trans h1)]
  · rw [next_3 h1, next_3 (hl.trans h1)]; rfl
  · by_cases h3 : errS s = 0
    · rw [next_1 h1 h3, next_1 (hl.trans h1) h3]
      simp only
      by_cases h4 : (decQ (frK s.buf) (frB s.buf)).1.k = 1
      · rw [if_pos h4, if_pos (show (decQ (frK (halfS s).buf) (frB (halfS s).buf)).1.k = 1 from h4)]; rfl
      · rw [if_neg h4, if_neg (show ¬ (decQ (frK (halfS s).buf) (frB (halfS s).buf)).1.k = 1 from h4)]; rfl
    · rw [next_2 h1 h3, next_2 (hl.trans h1) h3]; rfl

/-- All turns up to nothing, or over. -/
inductive Runs : Ss → List Tn → Ss → Prop
  | nothing {s : Ss} : lookW s = 0 → Runs s [] s
  | over {s : Ss} : lookW s = 4 → Runs s [tn0 4] s
  | step {s : Ss} {l : List Tn} {s' : Ss} : lookW s ≠ 0 → lookW s ≠ 4 → Runs (nextS s).2 l s' → Runs s ((nextS s).1 :: l) s'
theorem runs_uniq {s : Ss} {l : List Tn} {a : Ss} (h : Runs s l a) : ∀ {m : List Tn} {b : Ss}, Runs s m b → l = m ∧ a = b := by
  induction h with
  | nothing h =>
    intro m b k
    cases k with
    | nothing => exact ⟨rfl, rfl⟩
    | over k => omega
    | step k => exact absurd h k
  | over h =>
    intro m b k
    cases k with
    | nothing k => omega
    | over => exact ⟨rfl, rfl⟩
    | step _ k => exact absurd h k
  | step h1 h2 _ ih =>
    intro m b k
    cases k with
    | nothing k => exact absurd k h1
    | over k => exact absurd k h2
    | step _ _ k =>
      obtain ⟨e1, e2⟩ := ih k
      exact ⟨by rw [e1], e2⟩
theorem runs_end {s : Ss} {l : List Tn} {a : Ss} (h : Runs s l a) : (lookW a = 0 ∧ ∀ t ∈ l.getLast?, t.what ≠ 4) ∨ (lookW a = 4 ∧ l.getLast? = some (tn0 4)) := by
  induction h with
  | nothing h => exact .inl ⟨h, fun t ht => by simp at ht⟩
  | over h => exact .inr ⟨h, rfl⟩
  | step h1 h2 hr ih =>
    next s l a =>
    rcases ih with ⟨e1, e2⟩ | ⟨e1, e2⟩
    · refine .inl ⟨e1, fun t ht => ?_⟩
      cases l with
      | nil =>
        simp at ht
        subst ht
        exact fun k => h2 ((next_what s).2.1 k)
      | cons x t2 =>
        rw [List.getLast?_cons_cons] at ht
        exact e2 t ht
    · refine .inr ⟨e1, ?_⟩
      cases l with
      | nil => cases e2
      | cons x t2 => rw [List.getLast?_cons_cons]; exact e2
/-- More bytes behind one that has come to nothing. -/
theorem runs_more {s : Ss} {l : List Tn} {a : Ss} (h : Runs s l a) (hc : s.closed = false) (ha : lookW a = 0) (m : List UInt8) {l2 : List Tn} {b : Ss} (h2 : Runs (moreS a m) l2 b) : Runs (moreS s m) (l ++ l2) b := by
  induction h with
  | nothing h => exact h2
  | over h => omega
  | step h1 h3 _ ih =>
    next s l a _ =>
    have hn := more_next m h1 hc
    have hl := more_look m h1 hc
    have hr := ih (by rw [(next_closed s).1]; exact hc) ha h2
    have := Runs.step (s := moreS s m) (l := l ++ l2) (s' := b) (by rw [hl]; exact h1) (by rw [hl]; exact h3) (by rw [hn]; exact hr)
    rw [hn] at this
    exact this
/-- More bytes behind one that is over. -/
theorem runs_over {s : Ss} {l : List Tn} {a : Ss} (h : Runs s l a) (hc : s.closed = false) (ha : lookW a = 4) (m : List UInt8) : Runs (moreS s m) l (moreS a m) := by
  induction h with
  | nothing h => omega
  | over h => exact Runs.over (by rw [more_look m (by omega) hc]; exact h)
  | step h1 h3 _ ih =>
    next s l a _ =>
    have hn := more_next m h1 hc
    have hl := more_look m h1 hc
    have hr := ih (by rw [(next_closed s).1]; exact hc) ha
    have := Runs.step (s := moreS s m) (l := l) (s' := moreS a m) (by rw [hl]; exact h1) (by rw [hl]; exact h3) (by rw [hn]; exact hr)
    rw [hn] at this
    exact this
theorem half_0 {s : Ss} (h : lookW s = 0) : lookW (halfS s) = 4 := by
  by_cases h1 : s.broken = true <;> by_cases h2 : frE s.buf = 14 <;> by_cases h3 : s.closed = true <;> by_cases h4 : frE s.buf = 0 <;> simp_all [lookW, halfS]
theorem runs_half {s : Ss} {l : List Tn} {a : Ss} (h : Runs s l a) : Runs (halfS s) (if lookW a = 0 then l ++ [tn0 4] else l) (halfS a) := by
  induction h with
  | nothing h => rw [if_pos h]; exact Runs.over (half_0 h)
  | over h => rw [if_neg (by omega)]; exact Runs.over (by rw [(half_next (by omega)).1]; exact h)
  | step h1 h3 _ ih =>
    next s l a _ =>
    obtain ⟨hl, hn⟩ := half_next h1
    have := Runs.step (s := halfS s) (by rw [hl]; exact h1) (by rw [hl]; exact h3) (by rw [hn]; exact ih)
    rw [hn] at this
    by_cases h0 : lookW a = 0
    · rw [if_pos h0] at this ⊢; exact this
    · rw [if_neg h0] at this ⊢; exact this
theorem runs_closed {s : Ss} {l : List Tn} {a : Ss} (h : Runs s l a) : a.closed = s.closed ∧ a.room = s.room ∧ a.buf.length ≤ s.buf.length := by
  induction h with
  | nothing => exact ⟨rfl, rfl, Nat.le_refl _⟩
  | over => exact ⟨rfl, rfl, Nat.le_refl _⟩
  | step h1 h2 _ ih =>
    next s l a _ =>
    obtain ⟨c1, c2⟩ := next_closed s
    refine ⟨ih.1.trans c1, ih.2.1.trans c2, Nat.le_trans ih.2.2 ?_⟩
    rcases look_or s with h | h | ⟨h, _⟩ | ⟨h, _, he⟩
    · exact absurd h h1
    · exact absurd h h2
    · rw [next_3 h]; exact Nat.le_refl _
    · by_cases h3 : errS s = 0
      · rw [next_1 h h3]
        simp only
        split <;> (show (s.buf.drop (frN s.buf)).length ≤ _; rw [List.length_drop]; omega)
      · rw [next_2 h h3]
        show (s.buf.drop (frN s.buf)).length ≤ _
        rw [List.length_drop]; omega
/-- How long it goes on. -/
theorem next_len {s : Ss} (h : lookW s = 1) : (nextS s).2.buf.length + 6 ≤ s.buf.length := by
  rcases look_or s with h0 | h0 | ⟨h0, _⟩ | ⟨_, _, he⟩
  · omega
  · omega
  · omega
  · have hl := frE_le he
    by_cases h3 : errS s = 0
    · rw [next_1 h h3]
      simp only
      split <;> (show (s.buf.drop (frN s.buf)).length + 6 ≤ _; rw [List.length_drop]; omega)
    · rw [next_2 h h3]
      show (s.buf.drop (frN s.buf)).length + 6 ≤ _
      rw [List.length_drop]; omega
theorem runs_step_len {s : Ss} (h : lookW s = 3) : (nextS s).2.broken = true ∧ lookW (nextS s).2 = 4 := by
  rw [next_3 h]
  refine ⟨rfl, ?_⟩
  unfold lookW
  rw [if_pos rfl]

end Go.Proofs.YtogjokofmfpmgaaGreatDoor
namespace Go.Proofs.YtogjokofmfpmgaaGreatDoor
open Go.RowKit

theorem moreS_app (s : Ss) (a b : List UInt8) : moreS (moreS s a) b = moreS s (a ++ b) := by unfold moreS; simp
theorem moreS_nil (s : Ss) : moreS s [] = s := by unfold moreS; simp
theorem new_look (room : Int) : lookW (newS room) = 0 := by
  simp [lookW, newS, frE]
theorem pieces_0 (room : Int) : Runs (moreS (newS room) []) [] (newS room) := by rw [moreS_nil]; exact Runs.nothing (new_look room)
theorem pieces_go {room : Int} {c p : List UInt8} {y l : List Tn} {o a : Ss} (h : Runs (moreS (newS room) c) y o) (ho : lookW o = 0) (h2 : Runs (moreS o p) l a) : Runs (moreS (newS room) (c ++ p)) (y ++ l) a := by
  have := runs_more h rfl ho p h2
  rwa [moreS_app] at this
theorem pieces_over {room : Int} {c p : List UInt8} {y : List Tn} {o : Ss} (h : Runs (moreS (newS room) c) y o) (ho : lookW o = 4) : Runs (moreS (newS room) (c ++ p)) y (moreS o p) := by
  have := runs_over h rfl ho p
  rwa [moreS_app] at this
theorem half_over {o : Ss} (h : lookW o = 0) {l : List Tn} {a : Ss} (h2 : Runs (halfS o) l a) : l = [tn0 4] ∧ a = halfS o := by
  obtain ⟨e1, e2⟩ := runs_uniq (Runs.over (half_0 h)) h2
  exact ⟨e1.symm, e2.symm⟩
theorem pieces_end {room : Int} {c : List UInt8} {x y : List Tn} {o a : Ss} (h : Runs (moreS (newS room) c) y o) (h2 : Runs (halfS (moreS (newS room) c)) x a) :
    x = (if lookW o = 0 then y ++ [tn0 4] else y) ∧ a = halfS o ∧ x.getLast? = some (tn0 4) := by
  obtain ⟨e1, e2⟩ := runs_uniq h2 (runs_half h)
  refine ⟨e1, e2, ?_⟩
  rcases runs_end h2 with ⟨k1, k2⟩ | ⟨_, k2⟩
  · exfalso
    rw [e2] at k1
    rcases look_or o with h0 | h0 | ⟨h0, _⟩ | ⟨h0, _⟩
    · rw [half_0 h0] at k1; cases k1
    all_goals
      rw [(half_next (by rw [h0]; decide)).1, h0] at k1
      cases k1
  · exact k2
theorem runs_or {s : Ss} {l : List Tn} {a : Ss} (h : Runs s l a) : lookW a = 0 ∨ lookW a = 4 := (runs_end h).elim (fun h => .inl h.1) (fun h => .inr h.1)

/-- How many turns there are. -/
theorem runs_len {s : Ss} {l : List Tn} {a : Ss} (h : Runs s l a) : l.length * 6 ≤ s.buf.length + 12 := by
  induction h with
  | nothing => simp
  | over => simp
  | step h1 h2 hr ih =>
    next s l a =>
    rw [List.length_cons]
    rcases look_or s with h | h | ⟨h, _⟩ | ⟨h, _⟩
    · exact absurd h h1
    · exact absurd h h2
    · obtain ⟨_, k⟩ := runs_step_len h
      obtain ⟨e, _⟩ := runs_uniq hr (Runs.over k)
      rw [e]
      simp
    · have := next_len h
      omega

end Go.Proofs.YtogjokofmfpmgaaGreatDoor
namespace Go.Proofs.YtogjokofmfpmgaaGreatDoor
open Go.ChangeShapes Go.WideShapes Go.ChangeAt Go.RowKit

section
variable {H : Type} {enc : TypeId × Value → H} {W : World} {base : Nat} {spare : Nat → Bool} {held : Bool}

def txC (x : List UInt8) : List Value := [.string (bs x)]
def txE (l : List (List UInt8)) : List Value := l.flatMap txC
theorem rds_of_strs {t : TypeId} {A : Option Addr} {n c : Nat} {d : DataW H} {p : List MemPlace} (ht : Tryz.prog.underlying t = some (.slice 9)) (h : DataW.Trod enc Tryz.prog W base spare held t (.slice A n c) d p) :
    ∃ l : List (List UInt8), Rds W A n 1 (txE l) ∧ n = l.length ∧ n ≤ maxLen ∧ (∀ a ∈ l, a.length ≤ maxLen) :=
  rds_of_slice (R := List UInt8) txC 1 (fun _ => rfl) (by decide) (fun a => a.length ≤ maxLen) ht sc_str (fun fuel cs x hx hl => by
    match cs, hl with
    | [c0], _ =>
      obtain ⟨s1, e1, _, z1⟩ := DataW.trod_string Tryz.underlying9 hx
      exact ⟨s1.data.toList, e1, by rw [← ba_size]; exact z1⟩) h
end

end Go.Proofs.YtogjokofmfpmgaaGreatDoor
namespace Go.Proofs.YtogjokofmfpmgaaGreatDoor
open Go.RowKit
theorem c15 {w : World} {g : Nat} {t : TypeId} {c0 c1 c2 c3 c4 c5 c6 c7 c8 c9 c10 c11 c12 c13 c14 : Value} (h : Blk w g t #[c0, c1, c2, c3, c4, c5, c6, c7, c8, c9, c10, c11, c12, c13, c14]) : w.cell? ⟨g, 0, none⟩ = some c0 ∧ w.cell? ⟨g, 1, none⟩ = some c1 ∧ w.cell? ⟨g, 2, none⟩ = some c2 ∧ w.cell? ⟨g, 3, none⟩ = some c3 ∧ w.cell? ⟨g, 4, none⟩ = some c4 ∧ w.cell? ⟨g, 5, none⟩ = some c5 ∧ w.cell? ⟨g, 6, none⟩ = some c6 ∧ w.cell? ⟨g, 7, none⟩ = some c7 ∧ w.cell? ⟨g, 8, none⟩ = some c8 ∧ w.cell? ⟨g, 9, none⟩ = some c9 ∧ w.cell? ⟨g, 10, none⟩ = some c10 ∧ w.cell? ⟨g, 11, none⟩ = some c11 ∧ w.cell? ⟨g, 12, none⟩ = some c12 ∧ w.cell? ⟨g, 13, none⟩ = some c13 ∧ w.cell? ⟨g, 14, none⟩ = some c14 :=
  ⟨h.at_ 0 rfl, h.at_ 1 rfl, h.at_ 2 rfl, h.at_ 3 rfl, h.at_ 4 rfl, h.at_ 5 rfl, h.at_ 6 rfl, h.at_ 7 rfl, h.at_ 8 rfl, h.at_ 9 rfl, h.at_ 10 rfl, h.at_ 11 rfl, h.at_ 12 rfl, h.at_ 13 rfl, h.at_ 14 rfl⟩
theorem f15 {w : World} {g : Nat} {t : TypeId} {cs : Array Value} (h : Blk w g t cs) : w.frozen? ⟨g, 0, none⟩ = false ∧ w.frozen? ⟨g, 1, none⟩ = false ∧ w.frozen? ⟨g, 2, none⟩ = false ∧ w.frozen? ⟨g, 3, none⟩ = false ∧ w.frozen? ⟨g, 4, none⟩ = false ∧ w.frozen? ⟨g, 5, none⟩ = false ∧ w.frozen? ⟨g, 6, none⟩ = false ∧ w.frozen? ⟨g, 7, none⟩ = false ∧ w.frozen? ⟨g, 8, none⟩ = false ∧ w.frozen? ⟨g, 9, none⟩ = false ∧ w.frozen? ⟨g, 10, none⟩ = false ∧ w.frozen? ⟨g, 11, none⟩ = false ∧ w.frozen? ⟨g, 12, none⟩ = false ∧ w.frozen? ⟨g, 13, none⟩ = false ∧ w.frozen? ⟨g, 14, none⟩ = false :=
  ⟨h.frozen 0, h.frozen 1, h.frozen 2, h.frozen 3, h.frozen 4, h.frozen 5, h.frozen 6, h.frozen 7, h.frozen 8, h.frozen 9, h.frozen 10, h.frozen 11, h.frozen 12, h.frozen 13, h.frozen 14⟩
theorem c11 {w : World} {g : Nat} {t : TypeId} {c0 c1 c2 c3 c4 c5 c6 c7 c8 c9 c10 : Value} (h : Blk w g t #[c0, c1, c2, c3, c4, c5, c6, c7, c8, c9, c10]) : w.cell? ⟨g, 0, none⟩ = some c0 ∧ w.cell? ⟨g, 1, none⟩ = some c1 ∧ w.cell? ⟨g, 2, none⟩ = some c2 ∧ w.cell? ⟨g, 3, none⟩ = some c3 ∧ w.cell? ⟨g, 4, none⟩ = some c4 ∧ w.cell? ⟨g, 5, none⟩ = some c5 ∧ w.cell? ⟨g, 6, none⟩ = some c6 ∧ w.cell? ⟨g, 7, none⟩ = some c7 ∧ w.cell? ⟨g, 8, none⟩ = some c8 ∧ w.cell? ⟨g, 9, none⟩ = some c9 ∧ w.cell? ⟨g, 10, none⟩ = some c10 :=
  ⟨h.at_ 0 rfl, h.at_ 1 rfl, h.at_ 2 rfl, h.at_ 3 rfl, h.at_ 4 rfl, h.at_ 5 rfl, h.at_ 6 rfl, h.at_ 7 rfl, h.at_ 8 rfl, h.at_ 9 rfl, h.at_ 10 rfl⟩
theorem Row.set15 {w : World} {S : Nat → Prop} {e : TypeId} {size n c g : Nat} {A : Option Addr} {xs : List Value} {t : TypeId} {cs : Array Value} {v0 v1 v2 v3 v4 v5 v6 v7 v8 v9 v10 v11 v12 v13 v14 : Value} (h : Row w S e size A n c xs) (hb : Blk w g t cs) (ht : e ≠ t) : Row (((((((((((((((w.setCell ⟨g, 0, none⟩ v0).setCell ⟨g, 1, none⟩ v1).setCell ⟨g, 2, none⟩ v2).setCell ⟨g, 3, none⟩ v3).setCell ⟨g, 4, none⟩ v4).setCell ⟨g, 5, none⟩ v5).setCell ⟨g, 6, none⟩ v6).setCell ⟨g, 7, none⟩ v7).setCell ⟨g, 8, none⟩ v8).setCell ⟨g, 9, none⟩ v9).setCell ⟨g, 10, none⟩ v10).setCell ⟨g, 11, none⟩ v11).setCell ⟨g, 12, none⟩ v12).setCell ⟨g, 13, none⟩ v13).setCell ⟨g, 14, none⟩ v14) S e size A n c xs :=
  (h.own_.chg (chg15 (S := One g) (Chg.refl _ _) (.inl rfl)) (fun k hk h1 => by
    cases A with
    | none => exact Of.none hk
    | some a => exact h.ne_blk hb ht a rfl ((Of.some_ hk).symm.trans h1))).mono h.of_sub
end Go.Proofs.YtogjokofmfpmgaaGreatDoor
namespace Go.Proofs.YtogjokofmfpmgaaGreatDoor
open Go.RowKit

theorem turnInfo : (Tryz.prog.info? 61).map (fun i => (i.zero, i.size, i.bytes)) = some (some (.agg #[.int .i64 0, .int .i64 0, .int .i64 0, .int .i64 0, .string ⟨#[]⟩, .string ⟨#[]⟩, .string ⟨#[]⟩, .string ⟨#[]⟩, .int .i64 0, .int .i64 0, .slice none 0 0, .int .i64 0, .int .i64 0, .int .i64 0, .int .i64 0]), 15, 168) := by kernel_rfl
/-- A turn of a slice: where its ops lie. -/
structure TnA where
  t : Tn
  A : Option Addr
  c : Nat
def tnaEnc (x : TnA) : List Value := turnE x.t x.A x.c
def tnaE (l : List TnA) : List Value := l.flatMap tnaEnc
theorem tnaEnc_len (x : TnA) : (tnaEnc x).length = 15 := rfl
theorem tnaE_at (l : List TnA) (i : Nat) (h : i < l.length) (j : Nat) (hj : j < 15) : (tnaE l)[i * 15 + j]? = (tnaEnc l[i])[j]? := flat_at tnaEnc 15 tnaEnc_len l i h j hj
theorem tnaE_app (a b : List TnA) : tnaE (a ++ b) = tnaE a ++ tnaE b := List.flatMap_append
theorem tna_ones (l : List TnA) : ∀ u ∈ tnaE l, u.oneCell' = true := by
  intro u hu
  obtain ⟨x, _, hx⟩ := List.mem_flatMap.1 hu
  simp only [tnaEnc, turnE, reqE, List.mem_cons, List.mem_append, List.not_mem_nil, or_false, List.cons_append, List.nil_append] at hx
  rcases hx with rfl | rfl | rfl | rfl | rfl | rfl | rfl | rfl | rfl | rfl | rfl | rfl | rfl | rfl | rfl <;> rfl
def AllB : Nat → Prop := fun _ => True
structure TopsR (w : World) (L : List TnA) : Prop where
  o : ∀ x ∈ L, Row w AllB 43 5 x.A x.t.q.ops.length x.c (opsE x.t.q.ops)
theorem chg_row {w w' : World} {S T : Nat → Prop} {e : TypeId} {size n c : Nat} {A : Option Addr} {xs : List Value} (h : Row w S e size A n c xs) (hc : Chg T w w') (hn : ∀ a, A = some a → ¬ T a.block) : Row w' S e size A n c xs :=
  (h.own_.chg hc (fun k hk hk2 => by
    cases A with
    | none => exact Of.none hk
    | some a => exact hn a rfl (by rw [← hk.some_]; exact hk2))).mono h.of_sub
theorem TopsR.two {w w' : World} {g p : Nat} {s : Ss} {L : List TnA} (h : TopsR w L) (hs : SesR w g p s) (hc : Chg (Two g p) w w') : TopsR w' L :=
  ⟨fun x hx => chg_row (h.o x hx) hc (fun a ha k => by rcases k with k | k; exact (h.o x hx).ne_blk hs.b (by decide) a ha k; exact (h.o x hx).ne_blk hs.p (by decide) a ha k)⟩
theorem TopsR.below {w w' : World} {L : List TnA} (h : TopsR w L) (hb : Below w.heap.size w w') : TopsR w' L := ⟨fun x hx => (h.o x hx).below hb⟩
theorem TopsR.row {w w' : World} {L : List TnA} {S : Nat → Prop} {A : Option Addr} {n c : Nat} {xs : List Value} (h : TopsR w L) (hr : Row w S 61 15 A n c xs) (hc : Chg (Of A) w w') : TopsR w' L :=
  ⟨fun x hx => ((h.o x hx).own_.chg hc ((h.o x hx).apart hr (by decide))).mono (fun _ _ => trivial)⟩
theorem SesA.row {v w w' : World} {g p : Nat} {s : Ss} {S : Nat → Prop} {A : Option Addr} {n c : Nat} {xs : List Value} (h : SesA v w g p s) (hr : Row w S 61 15 A n c xs) (hS : ∀ k, S k → v.heap.size ≤ k) (hc : Chg (Of A) w w') : SesA v w' g p s :=
  ⟨⟨h.r.b.chg hc (fun k => by
    cases A with
    | none => exact Of.none k
    | some a => exact hr.ne_blk h.r.b (by decide) a rfl k.some_.symm), h.r.p.chg hc (fun k => by
    cases A with
    | none => exact Of.none k
    | some a => exact hr.ne_blk h.r.p (by decide) a rfl k.some_.symm)⟩, h.g, h.p, h.b.trans (hc.below (fun k hk => hS k (hr.of_sub k hk)) h.b.size)⟩
/-- What turns hands back. -/
structure TrnR (v w : World) (g p : Nat) (s : Ss) (e : Ending) (w' : World) : Prop where
  o : ∃ (L : List TnA) (s' : Ss) (A : Option Addr) (c : Nat), e = .returned (.slice A L.length c) ∧ Runs s (L.map TnA.t) s' ∧ Row w' (From w.heap.size) 61 15 A L.length c (tnaE L) ∧ TopsR w' L ∧ SesA v w' g p s' ∧ Chg (Two g p) w w'
/-- Along the turns. -/
structure TrnI (v w : World) (g p : Nat) (s : Ss) (k : Nat) (A : Option Addr) (c : Nat) (L : List TnA) (cur : Ss) (wr : World) : Prop where
  len : L.length = k
  go : ∀ l2 b, Runs cur l2 b → Runs s (L.map TnA.t ++ l2) b
  b1 : 6 * k + cur.buf.length ≤ s.buf.length + 6
  b2 : cur.broken = false → 6 * k + cur.buf.length ≤ s.buf.length
  seq : s.seq ≤ cur.seq ∧ cur.seq ≤ s.seq + k
  row : Row wr (From w.heap.size) 61 15 A k c (tnaE L)
  ops : TopsR wr L
  ses : SesA v wr g p cur
  chg : Chg (Two g p) w wr
theorem trn_step {s cur : Ss} {k : Nat} (h0 : lookW cur ≠ 0) (h4 : lookW cur ≠ 4) (b1 : 6 * k + cur.buf.length ≤ s.buf.length + 6) (b2 : cur.broken = false → 6 * k + cur.buf.length ≤ s.buf.length) (hq : s.seq ≤ cur.seq ∧ cur.seq ≤ s.seq + k) :
    (6 * (k + 1) + (nextS cur).2.buf.length ≤ s.buf.length + 6) ∧ ((nextS cur).2.broken = false → 6 * (k + 1) + (nextS cur).2.buf.length ≤ s.buf.length) ∧ s.seq ≤ (nextS cur).2.seq ∧ (nextS cur).2.seq ≤ s.seq + (k + 1 : Nat) ∧ (nextS cur).1.what ≠ 0 ∧ (nextS cur).1.what ≠ 4 := by
  obtain ⟨_, e2, e3, e4⟩ := next_sizes cur
  obtain ⟨w1, w2⟩ := next_what cur
  refine ⟨?_, ?_, by omega, by omega, fun h => h0 (w1.1 h), fun h => h4 (w2.1 h)⟩
  all_goals
    rcases look_or cur with h | h | ⟨h, hb, _⟩ | ⟨h, hb, _⟩
    · exact absurd h h0
    · exact absurd h h4
    · have := b2 hb
      first
        | omega
        | (intro hf; rw [(runs_step_len h).1] at hf; cases hf)
    · have := b2 hb
      have := next_len h
      omega
set_option maxRecDepth 100000 in
set_option maxHeartbeats 8000000 in
theorem turns_calls (v w : World) (g p : Nat) (s : Ss) (ht : Tbs v) (h : SesA v w g p s) (hb : s.buf.length ≤ 20000) (hq : 0 ≤ s.seq ∧ s.seq ≤ 100000) :
    Calls Tryz.prog 40 #[.pointer (some ⟨g, 0, none⟩), .int .i64 4000] w fun e w' => TrnR v w g p s e w' := by
  obtain ⟨i0, hi, hz0, hz1, hz2⟩ := info_parts turnInfo
  have HT := hd ht
  have HGP := hd (show g < w.heap.size ∧ p < w.heap.size from ⟨h.r.b.lt, h.r.p.lt⟩)
  have HVW := hd (show v.heap.size ≤ w.heap.size from h.b.size)
  have HI0 := hd (show TrnI v w g p s 0 none 0 [] s w from ⟨rfl, fun l2 b k => k, by omega, fun _ => by omega, ⟨Int.le_refl _, by omega⟩, Row.nil _ _ _ _, ⟨fun x hx => by cases hx⟩, h, Chg.refl _ _⟩)
  clear ht h
  go_enter Tryz.func40, Tryz.ntmps40
  go_wp2_with fail
  go_loopw [6, 5] (fun i out wr => ∃ (k : Nat) (A : Option Addr) (c : Nat) (L : List TnA) (cur : Ss), i = .int .i64 k ∧ out = .slice A k c ∧ Hd (TrnI v w g p s k A c L cur wr)) (fun i _ _ => 4000 - (intOf i).toNat)
  case atStart => exact ⟨0, none, 0, [], s, rfl, rfl, HI0⟩
  case round =>
    clear HI0
    obtain ⟨k, A, c, L, cur, rfl, rfl, HI⟩ := hrel
    obtain ⟨wi, rfl⟩ : ∃ wi : World, wi = wr := ⟨_, rfl⟩
    have hki : (0 : Int) ≤ (k : Int) := by omega
    have hk : k < 4000 := by have := HI.o.b1; omega
    have hki2 : (k : Int) < 4000 := by omega
    have CN := next_a v wi g p cur HT.o HI.o.ses (by have := HI.o.b1; omega) (by have := HI.o.seq; omega)
    by_cases h0 : lookW cur = 0
    case pos =>
      have a0 : ((nextS cur).1.what == 0) = true := by rw [next_0 h0]; rfl
      have HS := hd (show (nextS cur).2 = cur by rw [next_0 h0])
      have HRN := hd (Runs.nothing h0)
      clear h0
      generalize (nextS cur).2 = cur2 at *
      generalize (nextS cur).1 = t at *
      replace CN := hd CN
      go_wp2_with fail
      refine CN.o.mono ?_
      rintro e w4 ⟨A2, c2, he, hrow, hs4, hc4⟩
      have he2 : e = .returned (.agg #[.int .i64 t.what, .int .i64 t.seq, .int .i64 t.k, .int .i64 t.q.k, .string (bs t.q.tn), .string (bs t.q.col), .string (bs t.q.uid), .string (bs t.q.card), .int .i64 t.q.ck, .int .i64 t.q.cv, .slice A2 t.q.ops.length c2, .int .i64 t.q.tok, .int .i64 t.q.most, .int .i64 t.q.ticks, .int .i64 t.e]) := he
      subst he2
      obtain ⟨w5, hw5⟩ : ∃ w5, w5 = w4.alloc (.cells #[.int .i64 t.what, .int .i64 t.seq, .int .i64 t.k, .int .i64 t.q.k, .string (bs t.q.tn), .string (bs t.q.col), .string (bs t.q.uid), .string (bs t.q.card), .int .i64 t.q.ck, .int .i64 t.q.cv, .slice A2 t.q.ops.length c2, .int .i64 t.q.tok, .int .i64 t.q.most, .int .i64 t.q.ticks, .int .i64 t.e] 61) := ⟨_, rfl⟩
      have HB5 := hd (show Below w4.heap.size w4 w5 by rw [hw5]; exact (Below.refl _ _).alloc (Nat.le_refl _) _)
      have HT5 := hd (show Blk w5 w4.heap.size 61 #[.int .i64 t.what, .int .i64 t.seq, .int .i64 t.k, .int .i64 t.q.k, .string (bs t.q.tn), .string (bs t.q.col), .string (bs t.q.uid), .string (bs t.q.card), .int .i64 t.q.ck, .int .i64 t.q.cv, .slice A2 t.q.ops.length c2, .int .i64 t.q.tok, .int .i64 t.q.most, .int .i64 t.q.ticks, .int .i64 t.e] by rw [hw5]; exact Blk.new _ _ _)
      have y0 := HT5.o.at_ 0 (v := .int .i64 t.what) rfl
      have HW5 := hd hw5
      have HFIN := hd (show TrnR v w g p s (.returned (.slice A k c)) w5 from ⟨⟨L, cur, A, c, by rw [HI.o.len], by have := HI.o.go _ _ HRN.o; rwa [List.append_nil] at this, by rw [HI.o.len]; exact (HI.o.row.chg hc4 (fun x hx hx2 => by have := HGP.o; have hx : w.heap.size ≤ x := hx; rcases hx2 with rfl | rfl <;> omega)).below HB5.o, (HI.o.ops.two HI.o.ses.r hc4).below HB5.o, by have := hs4.below HB5.o; rwa [HS.o] at this, (HI.o.chg.trans hc4 (fun x hx => .inl hx)).then_below HB5.o⟩⟩)
      clear he hrow hs4 hc4 hw5 HT5 HB5 CN HI HRN
      go_upto_region 6 with (fail)
      rw [← HW5.o]
      go_wp2_with fail
      go_ret
      exact HFIN.o
    case neg =>
    have a0 : ((nextS cur).1.what == 0) = false := by
      have := (next_what cur).1
      simp only [beq_eq_false_iff_ne]
      exact fun h => h0 (this.1 h)
    obtain ⟨b4, hb4⟩ : ∃ b4, ((nextS cur).1.what == 4) = b4 := ⟨_, rfl⟩
    have H4T := hd (fun (hh : b4 = true) => show lookW cur = 4 by rw [hh] at hb4; exact (next_what cur).2.1 (by simpa using hb4))
    have H4S := hd (fun (hh : b4 = true) => show (nextS cur).2 = cur ∧ (nextS cur).1 = tn0 4 by rw [next_4 (H4T.o hh)]; exact ⟨rfl, rfl⟩)
    have HST := hd (fun (hh : b4 = false) => trn_step h0 (fun h4 => by have := (next_what cur).2.2 h4; rw [hh] at hb4; simp [this] at hb4) HI.o.b1 HI.o.b2 HI.o.seq)
    have HGO := hd (fun (hh : b4 = false) => show ∀ l2 b, Runs (nextS cur).2 l2 b → Runs s (L.map TnA.t ++ (nextS cur).1 :: l2) b from fun l2 b k => HI.o.go _ _ (Runs.step h0 (fun h4 => by have := (next_what cur).2.2 h4; rw [hh] at hb4; simp [this] at hb4) k))
    have HB4 := hd hb4
    clear h0
    generalize (nextS cur).2 = cur2 at *
    generalize (nextS cur).1 = t at *
    replace CN := hd CN
    go_wp2_with fail
    refine CN.o.mono ?_
    rintro e w4 ⟨A2, c2, he, hrow, hs4, hc4⟩
    have he2 : e = .returned (.agg #[.int .i64 t.what, .int .i64 t.seq, .int .i64 t.k, .int .i64 t.q.k, .string (bs t.q.tn), .string (bs t.q.col), .string (bs t.q.uid), .string (bs t.q.card), .int .i64 t.q.ck, .int .i64 t.q.cv, .slice A2 t.q.ops.length c2, .int .i64 t.q.tok, .int .i64 t.q.most, .int .i64 t.q.ticks, .int .i64 t.e]) := he
    subst he2
    obtain ⟨w5, hw5⟩ : ∃ w5, w5 = w4.alloc (.cells #[.int .i64 t.what, .int .i64 t.seq, .int .i64 t.k, .int .i64 t.q.k, .string (bs t.q.tn), .string (bs t.q.col), .string (bs t.q.uid), .string (bs t.q.card), .int .i64 t.q.ck, .int .i64 t.q.cv, .slice A2 t.q.ops.length c2, .int .i64 t.q.tok, .int .i64 t.q.most, .int .i64 t.q.ticks, .int .i64 t.e] 61) := ⟨_, rfl⟩
    have HB5 := hd (show Below w4.heap.size w4 w5 by rw [hw5]; exact (Below.refl _ _).alloc (Nat.le_refl _) _)
    have HT5 := hd (show Blk w5 w4.heap.size 61 #[.int .i64 t.what, .int .i64 t.seq, .int .i64 t.k, .int .i64 t.q.k, .string (bs t.q.tn), .string (bs t.q.col), .string (bs t.q.uid), .string (bs t.q.card), .int .i64 t.q.ck, .int .i64 t.q.cv, .slice A2 t.q.ops.length c2, .int .i64 t.q.tok, .int .i64 t.q.most, .int .i64 t.q.ticks, .int .i64 t.e] by rw [hw5]; exact Blk.new _ _ _)
    obtain ⟨y0, y1, y2, y3, y4, y5, y6, y7, y8, y9, y10, y11, y12, y13, y14⟩ := c15 HT5.o
    have HW5 := hd hw5
    have HLT4 := hd (fun (a : Addr) (ha : A = some a) => show a.block < w4.heap.size from (HI.o.row.chg hc4 (fun x hx hx2 => by have := HGP.o; have hx : w.heap.size ≤ x := hx; rcases hx2 with rfl | rfl <;> omega)).lt ha)
    have HR5 := hd (((HI.o.row.chg hc4 (fun x hx hx2 => by have := HGP.o; have hx : w.heap.size ≤ x := hx; rcases hx2 with rfl | rfl <;> omega)).below HB5.o))
    have HO5 := hd (show TopsR w5 (L ++ [⟨t, A2, c2⟩]) from ⟨fun x hx => by
      rcases List.mem_append.1 hx with hx | hx
      · exact ((HI.o.ops.two HI.o.ses.r hc4).below HB5.o).o x hx
      · obtain rfl := List.mem_singleton.1 hx
        exact (hrow.mono (fun _ _ => trivial)).below HB5.o⟩)
    have HS5 := hd (hs4.below HB5.o)
    have HC5 := hd ((HI.o.chg.trans hc4 (fun x hx => .inl hx)).then_below HB5.o)
    have hsz5 := HB5.o.size
    have HL := hd HI.o.len
    clear he hrow hs4 hc4 hw5 HB5 CN hb4
    go_upto_region 6 with (fail)
    rw [← HW5.o]
    go_upto_region 9 with (at_builtin; refine wpList_append_row rfl _ _ 69 rfl (Of A) 61 i0 (.agg #[.int .i64 0, .int .i64 0, .int .i64 0, .int .i64 0, .string ⟨#[]⟩, .string ⟨#[]⟩, .string ⟨#[]⟩, .string ⟨#[]⟩, .int .i64 0, .int .i64 0, .slice none 0 0, .int .i64 0, .int .i64 0, .int .i64 0, .int .i64 0]) 15 168 Tryz.underlying69 hi hz0 hz1 hz2 rfl A k c (tnaE L) rfl ((HR5.o.own_).alloc _) ⟨_, 0, none⟩ 1 1 [.int .i64 t.what, .int .i64 t.seq, .int .i64 t.k, .int .i64 t.q.k, .string (bs t.q.tn), .string (bs t.q.col), .string (bs t.q.uid), .string (bs t.q.card), .int .i64 t.q.ck, .int .i64 t.q.cv, .slice A2 t.q.ops.length c2, .int .i64 t.q.tok, .int .i64 t.q.most, .int .i64 t.q.ticks, .int .i64 t.e] rfl rfl (cells_at8 (Blk.new_ _ _ (by simp) _ _) rfl) (by simp [Value.oneCell']) (by omega) (by unfold maxLen; omega) (by omega) ?_; intro A9 c9 w9 hown9 hchg9; have HOWN := hd hown9; have HCHG := hd hchg9; clear hown9 hchg9)
    have HX6 := hd (fun (o : Obj) => show Below w5.heap.size w5 (w5.alloc o) from (Below.refl _ _).alloc (Nat.le_refl _) o)
    have HR9 := hd (show Row w9 (From w.heap.size) 61 15 A9 (k + 1) c9 (tnaE (L ++ [⟨t, A2, c2⟩])) by
      rw [tnaE_app]
      exact HOWN.o.mono (fun x hx => hx.elim (fun hx => HR5.o.of_sub x hx) (fun hx => by have := HC5.o.size; simp at hx; show w.heap.size ≤ x; omega)))
    have HO9 := hd (show TopsR w9 (L ++ [⟨t, A2, c2⟩]) from (HO5.o.below (HX6.o _)).row (HR5.o.alloc _) HCHG.o)
    have HS9 := hd (show SesA v w9 g p cur2 from (HS5.o.below (HX6.o _)).row (HR5.o.alloc _) (fun x hx => Nat.le_trans HVW.o hx) HCHG.o)
    have HC9 := hd (show Chg (Two g p) w w9 from (HC5.o.then_below (HX6.o _)).trans HCHG.o (fun x hx => .inr (HR5.o.of_sub x hx)))
    have y0 := ((HT5.o.alloc _).chg HCHG.o (fun k => by
      cases A with
      | none => exact Of.none k
      | some a => exact Nat.lt_irrefl _ (show w4.heap.size < w4.heap.size by have := HLT4.o a rfl; rw [← k.some_] at this; exact this))).at_ 0 (v := .int .i64 t.what) rfl
    clear HCHG HOWN HX6 HT5 HR5 HO5 HS5 HC5 hsz5 y1 y2 y3 y4 y5 y6 y7 y8 y9 y10 y11 y12 y13 y14
    cases b4 with
    | true =>
      have hb4 := HB4.o
      have HFIN := hd (show TrnR v w g p s (.returned (.slice A9 (k + 1) c9)) w9 from by
        obtain ⟨e1, e2⟩ := H4S.o rfl
        have hln : (L ++ [(⟨t, A2, c2⟩ : TnA)]).length = k + 1 := by rw [List.length_append, HL.o]; rfl
        refine ⟨⟨L ++ [⟨t, A2, c2⟩], cur2, A9, c9, by rw [hln], ?_, by rw [hln]; exact HR9.o, HO9.o, HS9.o, HC9.o⟩⟩
        have := HI.o.go _ _ (Runs.over (H4T.o rfl))
        rw [List.map_append, e1, show List.map TnA.t [(⟨t, A2, c2⟩ : TnA)] = [t] from rfl, e2]
        exact this)
      clear HI H4T H4S HST HGO HR9 HO9 HS9 HC9 HB4
      go_wp2_with fail
      go_ret
      exact HFIN.o
    | false =>
      have hb4 := HB4.o
      have HIN := hd (show TrnI v w g p s (k + 1) A9 c9 (L ++ [⟨t, A2, c2⟩]) cur2 w9 from by
        obtain ⟨s1, s2, s3, s4, _, _⟩ := HST.o rfl
        refine ⟨by rw [List.length_append, HL.o]; rfl, fun l2 b k2 => ?_, s1, s2, ⟨s3, s4⟩, HR9.o, HO9.o, HS9.o, HC9.o⟩
        have := HGO.o rfl _ _ k2
        rw [List.map_append, List.append_assoc]
        exact this)
      clear HI H4T H4S HST HGO HR9 HO9 HS9 HC9 HB4
      go_wp2
      go_roundw
      case rel => exact ⟨k + 1, A9, c9, _, cur2, by go_num, rfl, HIN⟩
      case measure => simp [intOf]; omega
end Go.Proofs.YtogjokofmfpmgaaGreatDoor
