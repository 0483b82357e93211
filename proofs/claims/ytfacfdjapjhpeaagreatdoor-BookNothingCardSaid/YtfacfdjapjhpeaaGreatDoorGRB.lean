/-
  Numbers and texts in bytes, plain.
-/
import Derived.Test.YtfacfdjapjhpeaaGreatDoorGAA
import Derived.Test.YtfacfdjapjhpeaaGreatDoorGAJ
import Derived.Test.YtfacfdjapjhpeaaGreatDoorGAF
import Derived.Deep.QuietTactic
import Derived.Test.YtfacfdjapjhpeaaGreatDoorGAW
import Derived.Test.YtfacfdjapjhpeaaGreatDoorGAN
import Derived.Test.YtfacfdjapjhpeaaGreatDoorGAV
import Derived.Test.YtfacfdjapjhpeaaGreatDoorGAM
import Derived.Test.YtfacfdjapjhpeaaGreatDoorGAX
import Derived.Deep.CutRange
set_option linter.unusedVariables false
set_option linter.unusedSimpArgs false
namespace Go.Proofs.YtfacfdjapjhpeaaGreatDoor
open Go.RowKit

/-- How many bytes a number has. -/
def nb (n : Nat) : Nat := if h : n = 0 then 0 else nb (n / 256) + 1
termination_by n
decreasing_by omega
end Go.Proofs.YtfacfdjapjhpeaaGreatDoor
namespace Go.Proofs.YtfacfdjapjhpeaaGreatDoor
open Go.RowKit

theorem it_neq (x y : It) (W : World) : (binOp .neq 63 (.agg #[.string (bs x.uid), .int .i64 x.ver, .bool x.gone, .string (bs x.card)]) (.agg #[.string (bs y.uid), .int .i64 y.ver, .bool y.gone, .string (bs y.card)])).run Tryz.prog W = .ok (.bool (x != y)) W := by
  have u1 := Tryz.underlying2
  have a1 := Tryz.isAgg2
  have z1 := Tryz.sizeOf2
  have u2 := Tryz.underlying4
  have a2 := Tryz.isAgg4
  have z2 := Tryz.sizeOf4
  have u3 := Tryz.underlying9
  have a3 := Tryz.isAgg9
  have z3 := Tryz.sizeOf9
  have hS : Tryz.prog.underlying 63 = some (.struct (Tryz.prog.fieldsOf 63)) := by kernel_rfl
  have hp : Tryz.prog.stoodInHeld 63 = false := by kernel_rfl
  rw [run_neq_struct, show (10000 : Nat) = 9999 + 1 from rfl, run_equalIn_agg W 9999 63 _ _ hS hp]
  simp only [Program.fieldsOf, Tryz.underlying63]
  go_simp
  obtain ⟨a, b, c, d⟩ := x
  obtain ⟨a', b', c', d'⟩ := y
  have e : ∀ l : List UInt8, (bs l).toList = l := fun l => by rw [Lib.toList_data]; rfl
  simp only [e]
  by_cases h1 : a = a'
  · by_cases h2 : b = b'
    · by_cases h3 : c = c'
      · by_cases h4 : d = d'
        · simp [h1, h2, h3, h4]
        · simp [h1, h2, h3, h4]
      · simp [h1, h2, h3]
    · simp [h1, h2]
  · simp [h1]

theorem it_at (l : List It) (k : Nat) (h : k < l.length) : ∃ x, l[k]? = some x ∧ ∀ j, j < 4 → (itsEnc l)[k * 4 + j]? = (itEnc x)[j]? := ⟨l[k], by simp [h], fun j hj => flat_at itEnc 4 itEnc_len l k h j hj⟩

set_option maxHeartbeats 2000000 in
theorem its_calls (w : World) (A A' : Option Addr) (n n' c c' : Nat) (l l' : List It) (hn : n = l.length) (hn' : n' = l'.length) (hr : Rds w A n 4 (itsEnc l)) (hr' : Rds w A' n' 4 (itsEnc l')) (hb : n ≤ 1000000) (hb' : n' ≤ 1000000) :
    Calls Tryz.prog 33 #[.slice A n c, .slice A' n' c'] w fun e w' => e = .returned (.bool (decide (l = l'))) ∧ Below w.heap.size w w' := by
  have HN := hd hn
  have HN' := hd hn'
  clear hn hn'
  by_cases hne : n = n'
  · subst hne
    go_enter Tryz.func33, Tryz.ntmps33
    go_wp2
    go_loopw [5] (fun i wr => ∃ k : Nat, i = .int .i64 k ∧ k ≤ n ∧ (∃ q, wr = w.drewN q) ∧ Hd (∀ j, j < k → l[j]? = l'[j]?)) (fun i _ => n - (RowKit.intOf i).toNat)
    case atStart => exact ⟨0, rfl, Nat.zero_le _, ⟨0, rfl⟩, fun j hj => by omega⟩
    case round =>
      obtain ⟨k, rfl, hk, ⟨q, rfl⟩, hall⟩ := hrel
      have hki : (0 : Int) ≤ (k : Int) := by omega
      by_cases hlt : k < n
      · have hlti : (k : Int) < (n : Int) := by omega
        obtain ⟨g, o, rfl, hg, hc⟩ := hr.at_ (by omega)
        obtain ⟨g', o', rfl, hg', hc'⟩ := hr'.at_ (by omega)
        obtain ⟨x, hx, hxc⟩ := it_at l k (by rw [← HN.o]; exact hlt)
        obtain ⟨y, hy, hyc⟩ := it_at l' k (by rw [← HN'.o]; exact hlt)
        have hcx : ∀ j u, j < 4 → (itEnc x)[j]? = some u → w.cell? ⟨g, o + (k * 4 + j), none⟩ = some u := fun j u hj hv => hc _ _ ((hxc j hj).trans hv)
        have hcy : ∀ j u, j < 4 → (itEnc y)[j]? = some u → w.cell? ⟨g', o' + (k * 4 + j), none⟩ = some u := fun j u hj hv => hc' _ _ ((hyc j hj).trans hv)
        have heq := it_neq x y
        have HX := hd hx
        have HY := hd hy
        have HXY : Hd ((x != y) = true → l ≠ l') := hd (fun h e => by
          subst e
          have := HX.o.symm.trans HY.o
          injection this with this
          subst this
          simp at h)
        have HXY2 : Hd ((x != y) = false → ∀ j, j < k + 1 → l[j]? = l'[j]?) := hd (fun h j hj => by
          have hxy : x = y := by simpa using h
          by_cases hjk : j < k
          · exact hall.o j hjk
          · obtain rfl : j = k := by omega
            rw [HX.o, HY.o, hxy])
        obtain ⟨bq, hbq⟩ : ∃ bq, (x != y) = bq := ⟨_, rfl⟩
        rw [hbq] at HXY HXY2
        simp only [hbq] at heq
        obtain ⟨xu, xv, xg, xc⟩ := x
        obtain ⟨yu, yv, yg, yc⟩ := y
        have a0 := hcx 0 _ (by omega) rfl
        have a1 := hcx 1 _ (by omega) rfl
        have a2 := hcx 2 _ (by omega) rfl
        have a3 := hcx 3 _ (by omega) rfl
        have b0 := hcy 0 _ (by omega) rfl
        have b1 := hcy 1 _ (by omega) rfl
        have b2 := hcy 2 _ (by omega) rfl
        have b3 := hcy 3 _ (by omega) rfl
        rw [← Nat.add_assoc] at a0 a1 a2 a3 b0 b1 b2 b3
        rw [Nat.add_zero] at a0 b0
        simp only at heq
        clear hx hy hc hc' hr hr' hxc hyc hcx hcy hbq
        go_wp2
        go_quiet (fail)
        cases bq with
        | true =>
          go_wp2
          go_ret
          refine ⟨ret_bool ?_, by repeat (first | exact Below.refl _ _ | apply bdrewN)⟩
          have := HXY.o (by first | rfl | trivial)
          simp [this]
        | false =>
          have HNX := hd (HXY2.o (by first | rfl | trivial))
          go_wp2
          go_roundw
          case rel => exact ⟨k + 1, by go_num, by omega, ⟨_, rfl⟩, HNX.o⟩
          case measure => simp [RowKit.intOf]; omega
      · obtain rfl : k = n := by omega
        go_wp2
        go_ret
        refine ⟨ret_bool ?_, by repeat (first | exact Below.refl _ _ | apply bdrewN)⟩
        have : l = l' := by
          refine List.ext_getElem? fun j => ?_
          by_cases hj : j < k
          · exact hall.o j hj
          · rw [List.getElem?_eq_none (by rw [← HN.o]; omega), List.getElem?_eq_none (by rw [← HN'.o]; omega)]
        simp [this]
  · go_enter Tryz.func33, Tryz.ntmps33
    have hbn : ((n : Int) != (n' : Int)) = true := by simp; omega
    go_wp2
    go_ret
    refine ⟨ret_bool ?_, Below.refl _ _⟩
    have : l ≠ l' := by rintro rfl; exact hne (by rw [HN.o, HN'.o])
    simp [this]

end Go.Proofs.YtfacfdjapjhpeaaGreatDoor
namespace Go.Proofs.YtfacfdjapjhpeaaGreatDoor
open Go.ChangeShapes Go.WideShapes Go.ChangeAt Go.RowKit

section
variable {H : Type} {enc : TypeId × Value → H} {W : World} {base : Nat} {spare : Nat → Bool} {held : Bool}
set_option maxRecDepth 100000 in
theorem rq_of {r : Reach} {base' : Nat} {v : Value} {d : DataW H} {p : List MemPlace}
    (hk : Value.okWide Tryz.prog W r base' 45 v) (h : DataW.Trod enc Tryz.prog W base spare held 45 v d p) : ∃ (q : Rq) (A : Option Addr) (c : Nat), v = reqV q A c ∧ RqOk W q A ∧ q.ops.length ≤ c := by
  obtain ⟨cs, rfl, hcs⟩ := okWide_struct Tryz.underlying45 hk
  obtain ⟨fuel, hx⟩ := h
  rw [oc_req] at hcs
  obtain ⟨q, A, c, h1, h2, h3⟩ := dec_rq fuel _ _ hx hcs
  obtain ⟨l⟩ := cs
  exact ⟨q, A, c, by rw [show l = reqE q A c from h1]; rfl, h2, h3⟩
end

end Go.Proofs.YtfacfdjapjhpeaaGreatDoor
namespace Go.Proofs.YtfacfdjapjhpeaaGreatDoor
open Go.RowKit Go.Lib

theorem Same.answer {s s' : BkS} (h : Same s s') (Q : Qt) (nm : List UInt8) (q : Rq) : (doB Q s' nm q).1 = (doB Q s nm q).1 ∧ (doB Q s' nm q).2.1 = (doB Q s nm q).2.1 := by
  unfold doB
  by_cases he : errB nm q ≠ 0
  · rw [if_pos he, if_pos he]; exact ⟨rfl, rfl⟩
  · rw [if_neg he, if_neg he]
    unfold putB
    rw [h.ctr, h.ten]
    exact ⟨rfl, rfl⟩
end Go.Proofs.YtfacfdjapjhpeaaGreatDoor
namespace Go.Proofs.YtfacfdjapjhpeaaGreatDoor
open Go.RowKit Go.Lib

theorem qNm_s {cn : List UInt8} (h : cn.length ≤ 60) (k : Int) : RqS (qNm k cn) := ⟨Nat.zero_le _, by show cn.length ≤ _; omega, Nat.zero_le _, Nat.zero_le _, Nat.zero_le _, (fun o ho => by cases ho)⟩
theorem qDe_s {cn : List UInt8} (h : cn.length ≤ 60) (t : Int) : RqS (qDe cn t) := ⟨Nat.zero_le _, by show cn.length ≤ _; omega, Nat.zero_le _, Nat.zero_le _, Nat.zero_le _, (fun o ho => by cases ho)⟩
theorem named_c {k : Int} (hk : k = 2 ∨ k = 3 ∨ k = 9) (cn : List UInt8) : namedB (qNm k cn) = nameB cn := by
  unfold namedB qNm
  rcases hk with rfl | rfl | rfl <;> simp [hT, hC, hU]
theorem chk_nm {k : Int} (hk : k = 2 ∨ k = 3 ∨ k = 9) (cn : List UInt8) : chk (qNm k cn) = if nameB cn = false then 3 else 0 := by
  have h0 : isK (qNm k cn).k = true := by rcases hk with rfl | rfl | rfl <;> rfl
  have h1 : strayB (qNm k cn) = false := by unfold strayB qNm; rcases hk with rfl | rfl | rfl <;> simp [hT, hC, hU, hCd, hCn, hO, hTk, hM, hTi]
  have h3 : formedB (qNm k cn) = true := by unfold formedB qNm; rcases hk with rfl | rfl | rfl <;> simp [hCd, hCn]
  have h4 : outB (qNm k cn) = false := by unfold outB qNm; rcases hk with rfl | rfl | rfl <;> simp [hO, hM]
  unfold chk
  rw [h0, h1, h3, h4, named_c hk]
  simp
theorem err_nm {nm cn : List UInt8} {k : Int} (hk : k = 2 ∨ k = 3 ∨ k = 9) (hn : nameB nm = true) (hc : nameB cn = true) : errB nm (qNm k cn) = 0 := by
  have h1 : ¬ ((qNm k cn).k = 1 ∨ (qNm k cn).k = 11) := by show ¬ (k = 1 ∨ k = 11); omega
  unfold errB
  rw [hn, chk_nm hk, hc, if_neg h1]
  simp
theorem chk_de (cn : List UInt8) (t : Int) : chk (qDe cn t) = if nameB cn = false then 3 else if t < 0 then 12 else 0 := by
  have h0 : isK (qDe cn t).k = true := rfl
  have h1 : strayB (qDe cn t) = false := by unfold strayB qDe; simp [hT, hC, hU, hCd, hCn, hO, hTk, hM, hTi]
  have h2 : namedB (qDe cn t) = nameB cn := by unfold namedB qDe; simp [hT, hC, hU]
  have h3 : formedB (qDe cn t) = true := by unfold formedB qDe; simp [hCd, hCn]
  have h4 : outB (qDe cn t) = decide (t < 0) := by unfold outB qDe; simp [hO, hM]
  unfold chk
  rw [h0, h1, h3, h4, h2]
  simp
theorem err_de {nm cn : List UInt8} (t : Int) (hn : nameB nm = true) (hc : nameB cn = true) : errB nm (qDe cn t) = if t < 0 then 12 else 0 := by
  have h1 : ¬ ((qDe cn t).k = 1 ∨ (qDe cn t).k = 11) := by show ¬ ((8 : Int) = 1 ∨ (8 : Int) = 11); omega
  unfold errB
  rw [hn, chk_de, hc, if_neg h1]
  by_cases h : t < 0
  · simp [h]
  · simp [h]

/-- No such collection: nothing is dropped. -/
theorem drop_none (Q : Qt) {st : BkS} {nm cn : List UInt8} (h : colB st nm cn = none) : (doB Q st nm (qNm 3 cn)).1.err ≠ 0 := by
  unfold doB
  by_cases he : errB nm (qNm 3 cn) ≠ 0
  · rw [if_pos he]; exact he
  · rw [if_neg he]
    unfold coreB
    rw [if_neg (show ¬ (qNm 3 cn).k = 2 from (by decide : ¬ (3 : Int) = 2)), if_neg (show ¬ (qNm 3 cn).k = 10 from (by decide : ¬ (3 : Int) = 10))]
    unfold colB at h
    rw [show (qNm 3 cn).col = cn from rfl, h]
    show (4 : Int) ≠ 0
    decide
theorem names_of {Q : Qt} {T0 : Int} {k : Nat} {st : BkS} (hb : BkNm Q T0 k st) {nm cn : List UInt8} {s : Cs} (h : colB st nm cn = some s) : nameB nm = true ∧ nameB cn = true := by
  have hm : (cn, s) ∈ tenB st.ts nm := getM_mem h
  refine ⟨?_, ten_cn hb.cn nm _ hm⟩
  cases hn : nameB nm with
  | true => rfl
  | false => rw [ten_noname hb.nm hn] at hm; cases hm
theorem sinceF_new (T n m : Int) (hT : 1 ≤ T) (t : Int) : sinceF (Cs.new T n m) t = ([], if t = 0 ∨ t = T then 0 else 8) := by
  refine sinceF_is (s := Cs.new T n m) List.Pairwise.nil (Cs.new_tok _ _ _) ?_
  by_cases h0 : t = 0
  · exact .inl ⟨h0, by rw [if_pos (.inl h0)], List.Perm.nil, List.Pairwise.nil⟩
  · by_cases h1 : t = T
    · refine .inr (.inr ⟨h0, ?_, by rw [if_pos (.inr h1)], List.Perm.nil, List.Pairwise.nil⟩)
      unfold Cs.bad Cs.new
      simp
      omega
    · refine .inr (.inl ⟨h0, ?_, by rw [if_neg (by omega)], rfl⟩)
      unfold Cs.bad Cs.new
      simp
      omega
theorem drp_s {Q : Qt} {T0 : Int} {k : Nat} {st : BkS} (hb : BkNm Q T0 k st) (h0 : T0 ≤ 1099511627776) (hk : k ≤ 100000) {nm cn : List UInt8} {s : Cs} (h : colB st nm cn = some s) : ∃ st1 st2 st3, DrpS Q st st1 st2 st3 nm cn s := by
  obtain ⟨hn, hc⟩ := names_of hb h
  have hout := hb.out h0 (by omega)
  have hten := hb.ok.ten nm
  have e3 : errB nm (qNm 3 cn) = 0 := err_nm (by omega) hn hc
  obtain ⟨cs, hcs⟩ : ∃ cs, tenB st.ts nm = cs := ⟨_, rfl⟩
  have hg : getM cs cn = some s := by rw [← hcs]; exact h
  rw [hcs] at hten
  have d1 : doB Q st nm (qNm 3 cn) = (rsT 3 (st.ctr + 1), [], ⟨st.ctr + 1, putM st.ts nm (delM cs cn)⟩) := by
    unfold doB
    rw [e3, if_neg (fun h => h rfl)]
    unfold coreB
    rw [if_neg (show ¬ (qNm 3 cn).k = 2 from (by decide : ¬ (3 : Int) = 2)), if_neg (show ¬ (qNm 3 cn).k = 10 from (by decide : ¬ (3 : Int) = 10)), hcs, show (qNm 3 cn).col = cn from rfl, hg]
    simp only
    unfold withinB
    rw [if_pos (show (qNm 3 cn).k = 3 from rfl), if_neg hout]
    rfl
  have hb1 := hb.step nm (qNm 3 cn)
  obtain ⟨st1, hst1⟩ : ∃ st1 : BkS, st1 = ⟨st.ctr + 1, putM st.ts nm (delM cs cn)⟩ := ⟨_, rfl⟩
  rw [← hst1] at d1
  rw [d1] at hb1
  have t1 : tenB st1.ts nm = delM cs cn := by rw [hst1]; show tenB (putM st.ts nm _) nm = _; rw [ten_put hb.ok.rise, if_pos rfl]
  have g1 : getM (delM cs cn) cn = none := by rw [(delM_spec cn hten.rise).2.1, if_pos rfl]
  have c1 : colB st1 nm cn = none := by unfold colB; rw [t1, g1]
  have e9 : errB nm (qNm 9 cn) = 0 := err_nm (by omega) hn hc
  obtain ⟨st2, hst2⟩ : ∃ st2, st2 = (doB Q st1 nm (qNm 9 cn)).2.2 := ⟨_, rfl⟩
  have d2 : doB Q st1 nm (qNm 9 cn) = (rsE 9 4, [], st2) := by
    rw [hst2]
    unfold doB
    rw [e9, if_neg (fun h => h rfl)]
    unfold coreB
    rw [if_neg (show ¬ (qNm 9 cn).k = 2 from (by decide : ¬ (9 : Int) = 2)), if_neg (show ¬ (qNm 9 cn).k = 10 from (by decide : ¬ (9 : Int) = 10)), t1, show (qNm 9 cn).col = cn from rfl, g1]
    rfl
  have hs12 : Same st1 st2 := by
    have := (do_toks Q st1 nm (qNm 9 cn)).same hb1.ok.rise (fun h => by have := h.1; revert this; show ¬ writesK 9 = true; decide)
    rw [d2] at this
    exact this
  have hb2 := hb1.step nm (qNm 9 cn)
  rw [d2] at hb2
  have hout2 := hb2.out h0 (by omega)
  have e2 : errB nm (qNm 2 cn) = 0 := err_nm (by omega) hn hc
  have t2 : tenB st2.ts nm = delM cs cn := (hs12.ten nm).trans t1
  have hlen : ((delM cs cn).length : Int) < Q.cols := by
    have h1 := hten.len
    have h2 : (delM cs cn).length + 1 = cs.length := by
      have hh : hasM cs cn = true := has_of_get hg
      have hp : place cs cn < cs.length := by
        have := hg
        rw [getM_place hten.rise] at this
        cases hp : cs[place cs cn]? with
        | none => rw [hp] at this; cases this
        | some x => exact (List.getElem?_eq_some_iff.1 hp).1
      unfold delM
      rw [if_pos hh, List.length_eraseIdx, if_pos hp]
      omega
    omega
  have hhas : hasM (delM cs cn) cn = false := by unfold hasM; rw [g1]; rfl
  have d3 : doB Q st2 nm (qNm 2 cn) = (rsT 2 (st2.ctr + 1), [], ⟨st2.ctr + 1, putM st2.ts nm (putM (delM cs cn) cn (Cs.new (st2.ctr + 1) Q.cards Q.log))⟩) := by
    unfold doB
    rw [e2, if_neg (fun h => h rfl)]
    unfold coreB
    rw [if_pos (show (qNm 2 cn).k = 2 from rfl), t2]
    unfold createB
    rw [show (qNm 2 cn).col = cn from rfl, hhas, if_neg (by decide), if_neg (by omega), if_neg hout2]
    rfl
  obtain ⟨st3, hst3⟩ : ∃ st3 : BkS, st3 = ⟨st2.ctr + 1, putM st2.ts nm (putM (delM cs cn) cn (Cs.new (st2.ctr + 1) Q.cards Q.log))⟩ := ⟨_, rfl⟩
  rw [← hst3] at d3
  have t3 : tenB st3.ts nm = putM (delM cs cn) cn (Cs.new (st2.ctr + 1) Q.cards Q.log) := by rw [hst3]; show tenB (putM st2.ts nm _) nm = _; rw [ten_put hb2.ok.rise, if_pos rfl]
  have c3 : colB st3 nm cn = some (Cs.new (st2.ctr + 1) Q.cards Q.log) := by unfold colB; rw [t3, (putM_spec cn _ (delM_spec cn hten.rise).1).2.1, if_pos rfl]
  have hlow : T0 ≤ st2.ctr := hb2.ok.low
  have hstart := hb2.ok.start
  have hpos : 1 ≤ st2.ctr + 1 := by omega
  have d4 : ∀ t, ((doB Q st3 nm (qDe cn t)).1 = if t < 0 then rsE 8 12 else if t = 0 ∨ t = st2.ctr + 1 then rsT 8 (st2.ctr + 1) else rsE 8 8) ∧ (doB Q st3 nm (qDe cn t)).2.1 = [] := by
    intro t
    unfold doB
    rw [err_de t hn hc]
    by_cases ht : t < 0
    · rw [if_pos ht, if_pos (by decide), if_pos ht]
      exact ⟨rfl, rfl⟩
    · rw [if_neg ht, if_neg (fun h => h rfl), if_neg ht]
      unfold coreB
      rw [if_neg (show ¬ (qDe cn t).k = 2 from (by decide : ¬ (8 : Int) = 2)), if_neg (show ¬ (qDe cn t).k = 10 from (by decide : ¬ (8 : Int) = 10)), show (qDe cn t).col = cn from rfl]
      unfold colB at c3
      rw [c3]
      simp only
      unfold withinB
      rw [if_neg (show ¬ (qDe cn t).k = 3 from (by decide : ¬ (8 : Int) = 3)), if_neg (show ¬ (qDe cn t).k = 6 from (by decide : ¬ (8 : Int) = 6)), if_pos (show (qDe cn t).k = 8 from rfl)]
      unfold pageF
      rw [show (qDe cn t).tok = t from rfl, sinceF_new _ _ _ hpos]
      have hN : pageN [] t (qDe cn t).most = ([] : List It).length := by
        unfold pageN
        split
        · rfl
        · unfold splitP splitV
          rw [show ([] : List It).length - (max (qDe cn t).most 1).toNat = 0 by simp]
          rfl
      by_cases h2 : t = 0 ∨ t = st2.ctr + 1
      · rw [if_pos h2, if_pos h2]
        have hp : pageR [] t (qDe cn t).most (Cs.new (st2.ctr + 1) Q.cards Q.log).latest 0 = ([], st2.ctr + 1, false) := by
          unfold pageR pageP
          rw [if_pos rfl, if_pos hN]
          rfl
        simp only [hp]
        exact ⟨rfl, rfl⟩
      · rw [if_neg h2, if_neg h2]
        have hp : pageR [] t (qDe cn t).most (Cs.new (st2.ctr + 1) Q.cards Q.log).latest 8 = ([], 0, false) := by
          unfold pageR
          rw [if_neg (by decide)]
        simp only [hp]
        exact ⟨rfl, rfl⟩
  refine ⟨st1, st2, st3, d1, c1, ?_, d2, d3, by unfold lisB; rw [c3]; rfl, hpos, fun t => (d4 t).1, fun t => (d4 t).2⟩
  rw [t1, hcs, bytesT_del cn hten.rise, hg]

end Go.Proofs.YtfacfdjapjhpeaaGreatDoor
namespace Go.Proofs.YtfacfdjapjhpeaaGreatDoor
open Go.RowKit Go.Lib

def rsV (r : Rs) (A : Option Addr) (n c : Nat) : Value := .agg #[.int .i64 r.kind, .int .i64 r.err, .int .i64 r.token, .int .i64 r.version, .string (bs r.card), .int .i64 r.index, .bool r.more, .slice A n c]
theorem bs_inj {a b : List UInt8} : ((bs a).toList == (bs b).toList) = decide (a = b) := by
  have e : ∀ l : List UInt8, (bs l).toList = l := fun l => by rw [Lib.toList_data]; rfl
  rw [e, e]
  by_cases h : a = b
  · simp [h]
  · simp [h]
set_option maxRecDepth 100000 in
set_option maxHeartbeats 4000000 in
theorem sresp_calls (r r' : Rs) (A A' : Option Addr) (n n' c c' : Nat) (l l' : List It) (w : World) (hn : n = l.length) (hn' : n' = l'.length) (hr : Rds w A n 4 (itsEnc l)) (hr' : Rds w A' n' 4 (itsEnc l')) (hb : n ≤ 1000000) (hb' : n' ≤ 1000000) :
    Calls Tryz.prog 27 #[rsV r A n c, rsV r' A' n' c'] w fun e w' => e = .returned (.bool (decide (r = r' ∧ l = l'))) ∧ Below w.heap.size w w' := by
  obtain ⟨w2, hw2⟩ : ∃ w2, w2 = (w.alloc (.cells #[.int .i64 r.kind, .int .i64 r.err, .int .i64 r.token, .int .i64 r.version, .string (bs r.card), .int .i64 r.index, .bool r.more, .slice A n c] 39)).alloc (.cells #[.int .i64 r'.kind, .int .i64 r'.err, .int .i64 r'.token, .int .i64 r'.version, .string (bs r'.card), .int .i64 r'.index, .bool r'.more, .slice A' n' c'] 39) := ⟨_, rfl⟩
  have HB := hd (show Below w.heap.size w w2 by rw [hw2]; exact ((Below.refl _ w).alloc (Nat.le_refl _) _).alloc (by simp) _)
  have hk1 : Blk w2 w.heap.size 39 #[.int .i64 r.kind, .int .i64 r.err, .int .i64 r.token, .int .i64 r.version, .string (bs r.card), .int .i64 r.index, .bool r.more, .slice A n c] := by rw [hw2]; exact (Blk.new _ _ _).alloc _
  have hk2 : Blk w2 (w.heap.size + 1) 39 #[.int .i64 r'.kind, .int .i64 r'.err, .int .i64 r'.token, .int .i64 r'.version, .string (bs r'.card), .int .i64 r'.index, .bool r'.more, .slice A' n' c'] := by rw [hw2]; exact Blk.new_ _ _ (by simp) _ _
  have C := hd (its_calls w2 A A' n n' c c' l l' hn hn' (hr.below HB.o) (hr'.below HB.o) hb hb')
  obtain ⟨res, hres⟩ : ∃ b, decide (r = r' ∧ l = l') = b := ⟨_, rfl⟩
  rw [hres]
  have HX : Hd (r = r' → res = decide (l = l')) := hd (fun h => by rw [← hres]; simp [h])
  have HNO : Hd (r ≠ r' → res = false) := hd (fun h => by rw [← hres]; simp [h])
  obtain ⟨bl, hbl⟩ : ∃ b, decide (l = l') = b := ⟨_, rfl⟩
  rw [hbl] at C HX
  have HW := hd hw2
  have a0 : w2.cell? ⟨w.heap.size, 0, none⟩ = some (.int .i64 r.kind) := hk1.at_ 0 rfl
  have a1 : w2.cell? ⟨w.heap.size, 1, none⟩ = some (.int .i64 r.err) := hk1.at_ 1 rfl
  have a2 : w2.cell? ⟨w.heap.size, 2, none⟩ = some (.int .i64 r.token) := hk1.at_ 2 rfl
  have a3 : w2.cell? ⟨w.heap.size, 3, none⟩ = some (.int .i64 r.version) := hk1.at_ 3 rfl
  have a4 : w2.cell? ⟨w.heap.size, 4, none⟩ = some (.string (bs r.card)) := hk1.at_ 4 rfl
  have a5 : w2.cell? ⟨w.heap.size, 5, none⟩ = some (.int .i64 r.index) := hk1.at_ 5 rfl
  have a6 : w2.cell? ⟨w.heap.size, 6, none⟩ = some (.bool r.more) := hk1.at_ 6 rfl
  have a7 : w2.cell? ⟨w.heap.size, 7, none⟩ = some (.slice A n c) := hk1.at_ 7 rfl
  have b0 : w2.cell? ⟨w.heap.size + 1, 0, none⟩ = some (.int .i64 r'.kind) := hk2.at_ 0 rfl
  have b1 : w2.cell? ⟨w.heap.size + 1, 1, none⟩ = some (.int .i64 r'.err) := hk2.at_ 1 rfl
  have b2 : w2.cell? ⟨w.heap.size + 1, 2, none⟩ = some (.int .i64 r'.token) := hk2.at_ 2 rfl
  have b3 : w2.cell? ⟨w.heap.size + 1, 3, none⟩ = some (.int .i64 r'.version) := hk2.at_ 3 rfl
  have b4 : w2.cell? ⟨w.heap.size + 1, 4, none⟩ = some (.string (bs r'.card)) := hk2.at_ 4 rfl
  have b5 : w2.cell? ⟨w.heap.size + 1, 5, none⟩ = some (.int .i64 r'.index) := hk2.at_ 5 rfl
  have b6 : w2.cell? ⟨w.heap.size + 1, 6, none⟩ = some (.bool r'.more) := hk2.at_ 6 rfl
  have b7 : w2.cell? ⟨w.heap.size + 1, 7, none⟩ = some (.slice A' n' c') := hk2.at_ 7 rfl
  obtain ⟨k, e, t, v, d, i, m⟩ := r
  obtain ⟨k', e', t', v', d', i', m'⟩ := r'
  simp only at a0 a1 a2 a3 a4 a5 a6 b0 b1 b2 b3 b4 b5 b6 HW
  have HE : Hd (∀ (h0 : k = k') (h1 : e = e') (h2 : t = t') (h3 : v = v') (h4 : d = d') (h5 : i = i') (h6 : m = m'), res = bl) := hd (fun h0 h1 h2 h3 h4 h5 h6 => HX.o (by rw [h0, h1, h2, h3, h4, h5, h6]))
  have HN : Hd (¬ (k = k' ∧ e = e' ∧ t = t' ∧ v = v' ∧ d = d' ∧ i = i' ∧ m = m') → res = false) := hd (fun h => HNO.o (fun hh => by injection hh with h0 h1 h2 h3 h4 h5 h6; exact h ⟨h0, h1, h2, h3, h4, h5, h6⟩))
  have e4 : ((bs d).toList == (bs d').toList) = decide (d = d') := bs_inj
  clear hw2 hk1 hk2 hr hr' hn hn' hres hbl HX HNO
  by_cases h0 : k = k'
  case neg =>
    have g0 : (k == k') = false := by simpa using h0
    have HR := hd (HN.o (fun hh => h0 hh.1))
    clear h0 e4
    simp only [rsV]
    go_enter Tryz.func27, Tryz.ntmps27
    go_upto_region 1 with (fail)
    rw [← HW.o]
    go_wp2
    go_ret
    exact ⟨ret_bool HR.o.symm, HB.o⟩
  case pos =>
  have g0 : (k == k') = true := by simpa using h0
  have H0 := hd h0
  clear h0
  by_cases h1 : e = e'
  case neg =>
    have g1 : (e == e') = false := by simpa using h1
    have HR := hd (HN.o (fun hh => h1 hh.2.1))
    clear h1 e4
    simp only [rsV]
    go_enter Tryz.func27, Tryz.ntmps27
    go_upto_region 1 with (fail)
    rw [← HW.o]
    go_wp2
    go_ret
    exact ⟨ret_bool HR.o.symm, HB.o⟩
  case pos =>
  have g1 : (e == e') = true := by simpa using h1
  have H1 := hd h1
  clear h1
  by_cases h2 : t = t'
  case neg =>
    have g2 : (t == t') = false := by simpa using h2
    have HR := hd (HN.o (fun hh => h2 hh.2.2.1))
    clear h2 e4
    simp only [rsV]
    go_enter Tryz.func27, Tryz.ntmps27
    go_upto_region 1 with (fail)
    rw [← HW.o]
    go_wp2
    go_ret
    exact ⟨ret_bool HR.o.symm, HB.o⟩
  case pos =>
  have g2 : (t == t') = true := by simpa using h2
  have H2 := hd h2
  clear h2
  by_cases h3 : v = v'
  case neg =>
    have g3 : (v == v') = false := by simpa using h3
    have HR := hd (HN.o (fun hh => h3 hh.2.2.2.1))
    clear h3 e4
    simp only [rsV]
    go_enter Tryz.func27, Tryz.ntmps27
    go_upto_region 1 with (fail)
    rw [← HW.o]
    go_wp2
    go_ret
    exact ⟨ret_bool HR.o.symm, HB.o⟩
  case pos =>
  have g3 : (v == v') = true := by simpa using h3
  have H3 := hd h3
  clear h3
  by_cases h4 : d = d'
  case neg =>
    have g4 : ((bs d).toList == (bs d').toList) = false := by rw [e4]; simpa using h4
    have HR := hd (HN.o (fun hh => h4 hh.2.2.2.2.1))
    clear h4 e4
    simp only [rsV]
    go_enter Tryz.func27, Tryz.ntmps27
    go_upto_region 1 with (fail)
    rw [← HW.o]
    go_wp2
    go_ret
    exact ⟨ret_bool HR.o.symm, HB.o⟩
  case pos =>
  have g4 : ((bs d).toList == (bs d').toList) = true := by rw [e4]; simpa using h4
  have H4 := hd h4
  clear h4
  by_cases h5 : i = i'
  case neg =>
    have g5 : (i == i') = false := by simpa using h5
    have HR := hd (HN.o (fun hh => h5 hh.2.2.2.2.2.1))
    clear h5 e4
    simp only [rsV]
    go_enter Tryz.func27, Tryz.ntmps27
    go_upto_region 1 with (fail)
    rw [← HW.o]
    go_wp2
    go_ret
    exact ⟨ret_bool HR.o.symm, HB.o⟩
  case pos =>
  have g5 : (i == i') = true := by simpa using h5
  have H5 := hd h5
  clear h5
  by_cases h6 : m = m'
  case neg =>
    have g6 : (m == m') = false := by simpa using h6
    have HR := hd (HN.o (fun hh => h6 hh.2.2.2.2.2.2))
    clear h6 e4
    simp only [rsV]
    go_enter Tryz.func27, Tryz.ntmps27
    go_upto_region 1 with (fail)
    rw [← HW.o]
    go_wp2
    go_ret
    exact ⟨ret_bool HR.o.symm, HB.o⟩
  case pos =>
  have g6 : (m == m') = true := by simpa using h6
  have H6 := hd h6
  clear h6
  have HR := hd (HE.o H0.o H1.o H2.o H3.o H4.o H5.o H6.o)
  clear e4
  simp only [rsV]
  go_enter Tryz.func27, Tryz.ntmps27
  go_upto_region 1 with (fail)
  rw [← HW.o]
  go_wp2_with fail
  refine C.o.mono ?_
  rintro e w' ⟨rfl, hb⟩
  have HB2 := hd (HB.o.trans (hb.mono HB.o.size))
  clear hb
  go_wp2_with fail
  go_ret
  exact ⟨ret_bool HR.o.symm, HB2.o⟩
end Go.Proofs.YtfacfdjapjhpeaaGreatDoor
namespace Go.Proofs.YtfacfdjapjhpeaaGreatDoor
open Go.RowKit Go.Lib

theorem outS_len (ml : ML Ce) (tok : Int) : ∀ (l : List Ch) (a : List Ch × List It), (l.foldl (fun a x => (a.1 ++ [x], a.2 ++ stepS ml tok a.1 x)) a).2.length ≤ a.2.length + l.length
  | [], a => Nat.le_refl _
  | x :: l, a => by
    have h := outS_len ml tok l (a.1 ++ [x], a.2 ++ stepS ml tok a.1 x)
    have h2 : (stepS ml tok a.1 x).length ≤ 1 := by
      unfold stepS
      split
      · simp
      · simp
    rw [List.foldl_cons]
    simp only [List.length_append, List.length_cons] at h ⊢
    omega
theorem since_len (s : Cs) (tok : Int) : (sinceF s tok).1.length ≤ s.ml.length + s.log.length := by
  unfold sinceF
  split
  · rename_i h
    rcases h.choose_spec with ⟨_, _, h1⟩ | ⟨_, _, _, h1⟩ | ⟨_, _, _, h1⟩
    · have := h1.1.length_eq
      rw [liveL_len] at this
      omega
    · rw [h1]; simp
    · have := h1.1.length_eq
      have h2 := outS_len s.ml tok s.log.reverse ([], [])
      unfold outP outS at this
      simp only [List.length_reverse, List.length_nil] at h2
      omega
  · simp
theorem page_len (s : Cs) (tok most : Int) : (pageF s tok most).1.length ≤ s.ml.length + s.log.length := by
  have h := since_len s tok
  unfold pageF pageR
  split
  · unfold pageP
    split
    · exact h
    · rw [List.length_take]; omega
  · simp
theorem do_itlen {Q : Qt} {T0 : Int} {st : BkS} (h : BkOk Q T0 st) (nm : List UInt8) (q : Rq) : (doB Q st nm q).2.1.length ≤ 1000 := by
  unfold doB
  by_cases he : errB nm q ≠ 0
  · rw [if_pos he]; simp
  · rw [if_neg he]
    have ht := h.ten nm
    have hq1 := h.q.c2
    have hq2 := h.q.d2
    have hq3 := h.q.l2
    show (coreB Q st.ctr (tenB st.ts nm) q).2.1.length ≤ 1000
    unfold coreB
    by_cases c2 : q.k = 2
    · rw [if_pos c2]
      unfold createB
      repeat' split
      all_goals simp
    · rw [if_neg c2]
      by_cases c10 : q.k = 10
      · rw [if_pos c10]
        have := ht.len
        show (listB (tenB st.ts nm)).length ≤ 1000
        unfold listB
        rw [List.length_map]
        omega
      · rw [if_neg c10]
        cases hg : getM (tenB st.ts nm) q.col with
        | none => simp
        | some s =>
          have hx := ht.get hg
          have h1 := hx.ok.mllen
          have h2 := hx.ok.loglen
          rw [hx.most] at h1
          rw [hx.cap] at h2
          have h3 := page_len s q.tok q.most
          simp only
          unfold withinB writeB
          repeat' split
          all_goals first
            | (show (pageF s q.tok q.most).1.length ≤ 1000; omega)
            | simp

end Go.Proofs.YtfacfdjapjhpeaaGreatDoor
