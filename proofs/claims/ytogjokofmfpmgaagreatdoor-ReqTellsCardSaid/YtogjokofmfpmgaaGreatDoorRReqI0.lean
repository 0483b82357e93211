/-
  The reference's DecodeReq: parts.
-/
import Derived.Test.YtogjokofmfpmgaaGreatDoorGRC
import Derived.Test.YtogjokofmfpmgaaGreatDoorGRA
import Derived.Test.YtogjokofmfpmgaaGreatDoorGRB
import Derived.Test.YtogjokofmfpmgaaGreatDoorGRD
import Derived.Test.YtogjokofmfpmgaaGreatDoorGRH
import Derived.Test.YtogjokofmfpmgaaGreatDoorGAO
set_option linter.unusedVariables false
set_option linter.unusedSimpArgs false
namespace Go.Proofs.YtogjokofmfpmgaaGreatDoor
open Go.RowKit

/-- What the two switches read. -/
structure First (k : Int) (l : List UInt8) (s0 s1 : ByteArray) : Prop where
  a : s0.size ≤ 20000 ∧ stOk (oT (hT k)) (some l) s0.data.toList
  b : s1.size ≤ 20000 ∧ stOk (oT (hC k)) (stS (oT (hT k)) (some l)) s1.data.toList
def st2 (k : Int) (l : List UInt8) : Option (List UInt8) := stS (oT (hC k)) (stS (oT (hT k)) (some l))
def st9 (k : Int) (s : Option (List UInt8)) : Option (List UInt8) := stS (oS (hTi k)) (stS (oS (hM k)) (stS (oN (hTk k)) (stS (oO (hO k)) (stS (oC (hCn k)) (stS (oT (hCd k)) (stS (oT (hU k)) s))))))
structure Second (k : Int) (s : Option (List UInt8)) (s2 s3 : ByteArray) (ck cv : Int) (LO : List OpV) (v6 v7 v8 : Int) : Prop where
  c : s2.size ≤ 20000 ∧ stOk (oT (hU k)) s s2.data.toList
  d : s3.size ≤ 20000 ∧ stOk (oT (hCd k)) (stS (oT (hU k)) s) s3.data.toList
  e : stOk (oC (hCn k)) (stS (oT (hCd k)) (stS (oT (hU k)) s)) (ck, cv)
  f : stOk (oO (hO k)) (stS (oC (hCn k)) (stS (oT (hCd k)) (stS (oT (hU k)) s))) LO ∧ LO.length ≤ 16 ∧ ∀ o ∈ LO, OpB o
  g : stOk (oN (hTk k)) (stS (oO (hO k)) (stS (oC (hCn k)) (stS (oT (hCd k)) (stS (oT (hU k)) s)))) v6
  h : stOk (oS (hM k)) (stS (oN (hTk k)) (stS (oO (hO k)) (stS (oC (hCn k)) (stS (oT (hCd k)) (stS (oT (hU k)) s))))) v7
  i : stOk (oS (hTi k)) (stS (oS (hM k)) (stS (oN (hTk k)) (stS (oO (hO k)) (stS (oC (hCn k)) (stS (oT (hCd k)) (stS (oT (hU k)) s)))))) v8
theorem skT (s : Option (List UInt8)) : stS (oT false) s = s := (st_skipT s).1.symm
theorem skC (s : Option (List UInt8)) : stS (oC false) s = s := (st_skipC s).1.symm
theorem skO (s : Option (List UInt8)) : stS (oO false) s = s := (st_skipO s).1.symm
theorem skN (s : Option (List UInt8)) : stS (oN false) s = s := (st_skipN s).1.symm
theorem skS (s : Option (List UInt8)) : stS (oS false) s = s := (st_skipS s).1.symm
theorem kinds1 {k : Int} (h : isK k = true) : k = 1 ∨ k = 10 ∨ k = 11 ∨ (k ≠ 1 ∧ k ≠ 10 ∧ k ≠ 11) := by omega
theorem kinds2 {k : Int} (h : isK k = true) (a : k ≠ 1) (b : k ≠ 10) (c : k ≠ 11) : hT k = false ∧ hC k = true := by
  have := kind_or h
  unfold hT hC
  simp
  omega
theorem kinds3 {k : Int} (h : isK k = true) : k = 4 ∨ k = 5 ∨ k = 6 ∨ k = 7 ∨ k = 8 ∨ k = 9 ∨ (k ≤ 3 ∨ 10 ≤ k) := by omega
theorem First.two {k : Int} (h : hT k = false ∧ hC k = true) {l : List UInt8} {s1 : ByteArray} (hv : TextOk 20000 (some l) s1) : First k l ⟨#[]⟩ s1 := by
  refine ⟨⟨by decide, by rw [h.1]; exact (st_skipT _).2⟩, ?_⟩
  rw [h.1, h.2, skT]
  exact hv
theorem First.st {k : Int} (h : hT k = false ∧ hC k = true) {l : List UInt8} : st2 k l = textS 20000 (some l) := by
  unfold st2
  rw [h.1, h.2, skT]
  rfl
theorem no3 {k : Int} (h : k ≤ 3 ∨ 10 ≤ k) (s : Option (List UInt8)) : Second k s ⟨#[]⟩ ⟨#[]⟩ 0 0 [] 0 0 0 ∧ st9 k s = s := by
  have a : hU k = false := by unfold hU; simp; omega
  have b : hCd k = false := by unfold hCd; simp; omega
  have c : hCn k = false := by unfold hCn; simp; omega
  have d : hO k = false := by unfold hO; simp; omega
  have e : hTk k = false := by unfold hTk; simp; omega
  have f : hM k = false := by unfold hM; simp; omega
  have g : hTi k = false := by unfold hTi; simp; omega
  refine ⟨⟨?_, ?_, ?_, ?_, ?_, ?_, ?_⟩, ?_⟩
  · rw [a]; exact ⟨by decide, (st_skipT _).2⟩
  · rw [b]; exact ⟨by decide, (st_skipT _).2⟩
  · rw [c]; exact (st_skipC _).2
  · rw [d]; exact ⟨(st_skipO _).2, by decide, fun o ho => by cases ho⟩
  · rw [e]; exact (st_skipN _).2
  · rw [f]; exact (st_skipS _).2
  · rw [g]; exact (st_skipS _).2
  · unfold st9
    rw [a, b, c, d, e, f, g, skT, skT, skC, skO, skN, skS, skS]
theorem raw_two {k : Int} {l : List UInt8} {ST : Option (List UInt8)} {s0 s1 s2 s3 : ByteArray} {ck cv : Int} {LO : List OpV} {v6 v7 v8 : Int} (hs : st2 k l = ST) (h1 : First k l s0 s1) (h2 : Second k ST s2 s3 ck cv LO v6 v7 v8) :
    RawIs k l (st9 k ST) ⟨k, s0.data.toList, s1.data.toList, s2.data.toList, s3.data.toList, ck, cv, LO, v6, v7, v8⟩ := by
  subst hs
  exact raw_chain (k := k) (l := l) (cc := (ck, cv)) rfl h1.a.2 rfl h1.b.2 rfl h2.c.2 rfl h2.d.2 rfl h2.e rfl h2.f.1 rfl h2.g rfl h2.h rfl h2.i
theorem size_two {k : Int} {l : List UInt8} {ST : Option (List UInt8)} {s0 s1 s2 s3 : ByteArray} {ck cv : Int} {LO : List OpV} {v6 v7 v8 : Int} (h1 : First k l s0 s1) (h2 : Second k ST s2 s3 ck cv LO v6 v7 v8) :
    RqS ⟨k, s0.data.toList, s1.data.toList, s2.data.toList, s3.data.toList, ck, cv, LO, v6, v7, v8⟩ := by
  have e : ∀ {s : ByteArray}, s.size ≤ 20000 → s.data.toList.length ≤ 1000000 := fun h => by rw [← ba_size]; omega
  refine ⟨e h1.a.1, e h1.b.1, e h2.c.1, e h2.d.1, ?_, fun o ho => ?_⟩
  · show LO.length ≤ _
    have := h2.f.2.1
    omega
  · have := h2.f.2.2 o ho
    exact ⟨Nat.le_trans this.1 (by decide), Nat.le_trans this.2.1 (by decide)⟩
theorem flU_4 : hU 4 = true := by decide
theorem flC_4 : hCd 4 = true := by decide
theorem flN_4 : hCn 4 = true := by decide
theorem flO_4 : hO 4 = false := by decide
theorem flT_4 : hTk 4 = false := by decide
theorem flM_4 : hM 4 = false := by decide
theorem flI_4 : hTi 4 = false := by decide
theorem flU_5 : hU 5 = true := by decide
theorem flC_5 : hCd 5 = false := by decide
theorem flN_5 : hCn 5 = true := by decide
theorem flO_5 : hO 5 = false := by decide
theorem flT_5 : hTk 5 = false := by decide
theorem flM_5 : hM 5 = false := by decide
theorem flI_5 : hTi 5 = false := by decide
theorem flU_6 : hU 6 = true := by decide
theorem flC_6 : hCd 6 = false := by decide
theorem flN_6 : hCn 6 = false := by decide
theorem flO_6 : hO 6 = false := by decide
theorem flT_6 : hTk 6 = false := by decide
theorem flM_6 : hM 6 = false := by decide
theorem flI_6 : hTi 6 = false := by decide
theorem flU_7 : hU 7 = false := by decide
theorem flC_7 : hCd 7 = false := by decide
theorem flN_7 : hCn 7 = false := by decide
theorem flO_7 : hO 7 = true := by decide
theorem flT_7 : hTk 7 = false := by decide
theorem flM_7 : hM 7 = false := by decide
theorem flI_7 : hTi 7 = false := by decide
theorem flU_8 : hU 8 = false := by decide
theorem flC_8 : hCd 8 = false := by decide
theorem flN_8 : hCn 8 = false := by decide
theorem flO_8 : hO 8 = false := by decide
theorem flT_8 : hTk 8 = true := by decide
theorem flM_8 : hM 8 = true := by decide
theorem flI_8 : hTi 8 = false := by decide
theorem flU_9 : hU 9 = false := by decide
theorem flC_9 : hCd 9 = false := by decide
theorem flN_9 : hCn 9 = false := by decide
theorem flO_9 : hO 9 = false := by decide
theorem flT_9 : hTk 9 = true := by decide
theorem flM_9 : hM 9 = false := by decide
theorem flI_9 : hTi 9 = true := by decide

theorem RkR.off {w : World} {B g : Nat} {l : List UInt8} {st : Option (List UInt8)} (h : RkR w B g l st) {b : Nat} {t : TypeId} {cs : Array Value} (hb : Blk w b t cs) (h1 : 96 ≠ t) : ¬ One g b := by
  obtain ⟨_, _, _, _, _, hg, _⟩ := h.o
  intro hk
  have hk : b = g := hk
  subst hk
  exact hg.ne_ hb h1 rfl
theorem RkR.row {w w' : World} {B g : Nat} {l : List UInt8} {st : Option (List UInt8)} (h : RkR w B g l st) {S : Nat → Prop} {e : TypeId} {size n c : Nat} {A : Option Addr} {xs : List Value} (hr : Row w S e size A n c xs) (ht : e ≠ 96) (hc : Chg (One g) w w') : Row w' S e size A n c xs := by
  obtain ⟨_, _, _, _, _, hg, _⟩ := h.o
  exact hr.keep (fun a ha => hc.block _ (hr.lt ha) (fun hk => hr.ne_blk hg ht a ha hk))
theorem Row.blk {w w' : World} {e : TypeId} {size n c : Nat} {A : Option Addr} {xs : List Value} (hr : Row w (Of A) e size A n c xs) {b : Nat} {t : TypeId} {cs : Array Value} (hb : Blk w b t cs) (ht : e ≠ t) (hc : Chg (Of A) w w') : Blk w' b t cs :=
  hb.chg hc (fun hk => by
    cases A with
    | none => exact Of.none hk
    | some a => exact hr.ne_blk hb ht a rfl hk.some_.symm)
theorem RkR.rowc {w w' : World} {B g : Nat} {l : List UInt8} {st : Option (List UInt8)} (h : RkR w B g l st) {e : TypeId} {size n c : Nat} {A : Option Addr} {xs : List Value} (hr : Row w (Of A) e size A n c xs) (ht : e ≠ 96) (hc : Chg (Of A) w w') (hA : ∀ a, A = some a → B ≤ a.block) : RkR w' B g l st :=
  h.chg hc (fun k hk => by
    cases A with
    | none => exact (Of.none hk).elim
    | some a =>
      obtain ⟨g', cur, rfl, _, hb, _⟩ := hr.block rfl
      have hk := hk.some_
      exact .inr ⟨by rw [hk]; exact hA _ rfl, _, _, by rw [hk]; exact hb, fun h => ht h.symm⟩)
theorem below_one {w w' : World} {g B : Nat} (h : Chg (One g) w w') (hg : B ≤ g) (hB : B ≤ w.heap.size) : Below B w w' := h.below (fun k hk => by rw [show k = g from hk]; exact hg) hB
set_option maxRecDepth 100000 in
theorem res_rdec {tmps : Array Value} {w : World} {g : Nat} {v0 v1 v2 v3 v4 v5 v6 v7 v8 v9 v10 : Value} (hp : tmps.getD 4 undef = .pointer (some ⟨g, 0, none⟩)) (hb : Blk w g 26 #[v0, v1, v2, v3, v4, v5, v6, v7, v8, v9, v10]) :
    (results Tryz.f18 tmps).run Tryz.prog w = .ok (.tuple #[.agg #[v0, v1, v2, v3, v4, v5, v6, v7, v8, v9, v10], tmps.getD 5 undef]) w := res_cell rfl tmps w g 26 _ (0, 0) _ hp hb rfl rfl rfl

end Go.Proofs.YtogjokofmfpmgaaGreatDoor
