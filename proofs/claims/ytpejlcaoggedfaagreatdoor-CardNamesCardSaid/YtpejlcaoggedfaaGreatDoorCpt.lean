/-
  slices.Compact at fields: of neighbours that are alike one is left.
-/
import Derived.Test.YtpejlcaoggedfaaGreatDoorCardP
import Derived.Test.YtpejlcaoggedfaaGreatDoorFldK
set_option linter.unusedVariables false
set_option linter.unusedSimpArgs false
namespace Go.Proofs.YtpejlcaoggedfaaGreatDoor
open Go.RowKit

theorem row_setk3 {w : World} {S : Nat → Prop} {e size n c g : Nat} {xs : List Value} (h : Row w S e size (some ⟨g, 0, none⟩) n c xs) (j : Nat) (u : Value) : Row (w.setCell ⟨g, j, none⟩ u) S e size (some ⟨g, 0, none⟩) n c (xs.set j u) := by
  obtain ⟨g', cur, e1, hS, hB, hnc, hcm, hcs, ht⟩ := h.block rfl
  injection e1 with e1
  subst e1
  refine Row.of_block (hB.set_ j u) hS hnc hcm (by simp [hcs]) ?_ (by simpa using h.len)
  rw [← ht]
  simp [List.take_set]
theorem fsE_set (f : Fld) : ∀ (l : List Fld) (q : Nat), q < l.length → fsE (l.set q f) = (((fsE l).set (q * 3) (.int .i64 f.k)).set (q * 3 + 1) (.int .i64 f.l)).set (q * 3 + 2) (.string (bs f.v))
  | [], q, h => by simp at h
  | a :: t, 0, _ => by simp [fsE, fEnc]
  | a :: t, q + 1, h => by
    have ih := fsE_set f t q (by simpa using h)
    have e : (q + 1) * 3 = q * 3 + 3 := by omega
    rw [List.set_cons_succ, e]
    unfold fsE at *
    rw [List.flatMap_cons, List.flatMap_cons, ih]
    simp [fEnc]
theorem zeroCells_any (zs : List Value) (n : Nat) : ∀ v ∈ (Builtin.zeroCells zs.toArray n).toList, 0 < zs.length → v ∈ zs := by
  intro v hv h0
  simp only [Builtin.zeroCells, Array.toList_map, List.mem_map] at hv
  obtain ⟨i, _, rfl⟩ := hv
  have : i % zs.length < zs.length := Nat.mod_lt _ h0
  simp [this]
theorem run_clear_many {P : Program} (w : World) (t e : TypeId) (z : Value) (zs : List Value) (ht : P.underlying t = some (.slice e)) (hv : ∀ w, (zeroValue e).run P w = .ok z w) (hz : z.cells = zs.toArray) (h0 : 0 < zs.length) (h1 : ∀ v ∈ zs, v.oneCell' = true)
    (g o m c : Nat) (hm : 0 < m) (cur : Array Value) (hb : Blk w g e cur) (hl : o + m * zs.length ≤ cur.size) :
    ∃ ns : List Value, ns.length = m * zs.length ∧ ∀ ty, (Builtin.clear_ #[t] ty #[.slice (some ⟨g, o, none⟩) m c]).run P w = .ok (.tuple #[]) (w.setRow g (cur.toList.take o ++ ns ++ cur.toList.drop (o + ns.length)).toArray) := by
  have hln : (Builtin.zeroCells zs.toArray m).toList.length = m * zs.length := by simp [Builtin.zeroCells]
  refine ⟨(Builtin.zeroCells zs.toArray m).toList, hln, fun ty => ?_⟩
  have hst := run_storeCells_at P g o e (Builtin.zeroCells zs.toArray m).toList 0 cur w hb (by rw [hln]; simpa using hl) (fun v hv => h1 v (zeroCells_any zs m v hv h0))
  simp only [Nat.add_zero] at hst
  obtain ⟨m', rfl⟩ : ∃ k, m = k + 1 := ⟨m - 1, by omega⟩
  simp [Builtin.clear_, run_underlying ht, hv, hz, hst]

theorem dedup_len (l : List Fld) : (dedup l).length ≤ l.length := by
  have : ∀ (l o : List Fld), (l.foldl dd1 o).length ≤ o.length + l.length := by
    intro l
    induction l with
    | nil => intro o; simp
    | cons x t ih =>
      intro o
      rw [List.foldl_cons]
      have h1 := ih (dd1 o x)
      have h2 : (dd1 o x).length ≤ o.length + 1 := by
        unfold dd1; split
        · omega
        · simp
      rw [List.length_cons]; omega
  have := this l []
  unfold dedup
  simpa using this
/-- So far all are unlike. -/
def Cpo (l : List Fld) (k : Nat) : Prop := dedup (l.take k) = l.take k
/-- Behind the first two that are alike: what is left stands ahead, what is to come stands as it stood. -/
structure Cpi (l : List Fld) (p j q : Nat) (cur : List Fld) : Prop where
  len : cur.length = l.length
  hp : p + 1 < l.length
  le : q + 1 ≤ p + 1 + (j + 1)
  hq : q = (dedup (l.take (p + 1 + (j + 1)))).length
  d : cur.take q = dedup (l.take (p + 1 + (j + 1)))
  o : ∀ i, p + 1 + j ≤ i → i < l.length → cur[i]? = l[i]?
theorem cpo_1 (l : List Fld) (h : 0 < l.length) : Cpo l 1 := dedup_one l h
theorem cpo_next {l : List Fld} {p : Nat} (h : Cpo l (p + 1)) (hl : p + 1 < l.length) (hn : l[p + 1] ≠ l[p]) : Cpo l (p + 1 + 1) := by
  unfold Cpo at *
  rw [show p + 1 + 1 = p + 2 from rfl, dedup_new l p hl hn, h, List.take_succ_eq_append_getElem hl]
theorem cpi_start {l : List Fld} {p : Nat} (h : Cpo l (p + 1)) (hl : p + 1 < l.length) (hn : l[p + 1] = l[p]) : Cpi l p 0 (p + 1) l := by
  have e : dedup (l.take (p + 1 + (0 + 1))) = l.take (p + 1) := by
    show dedup (l.take (p + 2)) = _
    rw [dedup_same l p hl hn]; exact h
  refine ⟨rfl, hl, by omega, ?_, e.symm, fun _ _ _ => rfl⟩
  rw [e, List.length_take]; omega
theorem cpi_same {l cur : List Fld} {p j q : Nat} (h : Cpi l p j q cur) (hl : p + 1 + (j + 1) < l.length) (hn : l[p + 1 + (j + 1)] = l[p + 1 + j]) : Cpi l p (j + 1) q cur := by
  have e : dedup (l.take (p + 1 + (j + 1 + 1))) = dedup (l.take (p + 1 + (j + 1))) := dedup_same l (p + 1 + j) hl hn
  exact ⟨h.len, h.hp, by have := h.le; omega, by rw [e]; exact h.hq, by rw [e]; exact h.d, fun i hi hl => h.o i (by omega) hl⟩
theorem cpi_new {l cur : List Fld} {p j q : Nat} (h : Cpi l p j q cur) (hl : p + 1 + (j + 1) < l.length) (hn : l[p + 1 + (j + 1)] ≠ l[p + 1 + j]) : Cpi l p (j + 1) (q + 1) (cur.set q l[p + 1 + (j + 1)]) := by
  have e : dedup (l.take (p + 1 + (j + 1 + 1))) = dedup (l.take (p + 1 + (j + 1))) ++ [l[p + 1 + (j + 1)]] := dedup_new l (p + 1 + j) hl hn
  have hq := h.le
  have hlen := h.len
  refine ⟨by simpa using h.len, h.hp, by omega, ?_, ?_, fun i hi hl => ?_⟩
  · rw [e, List.length_append, ← h.hq]; rfl
  · rw [e, ← h.d]
    have hqc : q < cur.length := by omega
    rw [List.take_succ_eq_append_getElem (by simpa using hqc)]
    simp
    exact List.take_set_of_le (Nat.le_refl _)
  · rw [List.getElem?_set_ne (by omega)]
    exact h.o i (by omega) hl
theorem fld_cases (x y : Fld) : x = y ∨ (x.k == y.k) = false ∨ (x.k = y.k ∧ (x.l == y.l) = false) ∨ (x.k = y.k ∧ x.l = y.l ∧ ((bs x.v).toList == (bs y.v).toList) = false) := by
  have e : ∀ l : List UInt8, (bs l).toList = l := fun l => by rw [Lib.toList_data]; rfl
  rw [e, e]
  by_cases h1 : x.k = y.k
  · by_cases h2 : x.l = y.l
    · by_cases h3 : x.v = y.v
      · exact .inl (fld_ext h1 h2 h3)
      · exact .inr (.inr (.inr ⟨h1, h2, by simpa using h3⟩))
    · exact .inr (.inr (.inl ⟨h1, by simpa using h2⟩))
  · exact .inr (.inl (by simpa using h1))

set_option maxRecDepth 100000 in
set_option maxHeartbeats 8000000 in
theorem compact_calls (w : World) (S : Nat → Prop) (A : Option Addr) (n c : Nat) (l : List Fld) (hn : n = l.length) (hr : Row w S 36 3 A n c (fsE l)) (hb : n ≤ 1000000) :
    Calls Tryz.prog 36 #[.slice A n c] w fun e w' => (∃ m, e = .returned (.slice A m c) ∧ m = (dedup l).length ∧ Row w' S 36 3 A m c (fsE (dedup l))) ∧ Chg (Of A) w w' := by
  by_cases h2 : n < 2
  · have hdd : dedup l = l := by
      match l, hn with
      | [], _ => rfl
      | [a], _ => simp [dedup, dd1]
      | a :: b :: t, hn => simp at hn; omega
    have HR := hd (And.intro (show n = (dedup l).length by rw [hdd]; exact hn) (show Row w S 36 3 A n c (fsE (dedup l)) by rw [hdd]; exact hr))
    clear hr hdd hn
    go_enter Tryz.func36, Tryz.ntmps36
    go_wp2
    go_ret
    exact ⟨⟨n, rfl, HR.o.1, HR.o.2⟩, Chg.refl _ _⟩
  · obtain ⟨g, cur0, rfl, hgS, _⟩ : ∃ g cur0, A = some ⟨g, 0, none⟩ ∧ S g ∧ Blk w g 36 cur0 := by
      obtain ⟨g, rfl, hg, _⟩ := hr.at_ (by omega)
      obtain ⟨g', cur0, e1, _, hB, _⟩ := hr.block rfl
      injection e1 with e1
      subst e1
      exact ⟨g, cur0, rfl, hg, hB⟩
    have HN := hd hn
    have hcap := hr.cap
    have hc1 : n ≤ c := hcap.1
    have hc2 : c ≤ maxLen := hcap.2
    unfold maxLen at hc2
    have HR := hd hr
    clear hr hn hcap
    go_enter Tryz.func36, Tryz.ntmps36
    go_wp2_with fail
    go_loopw [3, 4, 5, 2] (fun k _ _ _ wr => ∃ (p : Nat), k = .int .i64 (p + 1 : Nat) ∧ p + 1 ≤ n ∧ Hd (Cpo l (p + 1)) ∧ Hd (Row wr S 36 3 (some ⟨g, 0, none⟩) n c (fsE l)) ∧ Hd (Chg (Of (some ⟨g, 0, none⟩)) w wr)) (fun k _ _ _ _ => n - (intOf k).toNat)
    case atStart => exact ⟨0, rfl, by omega, hd (cpo_1 l (by rw [← HN.o]; omega)), HR, hd (Chg.refl _ _)⟩
    case round =>
      obtain ⟨p, rfl, hp, HP, HRW, HC⟩ := hrel
      obtain ⟨wo, rfl⟩ : ∃ wo : World, wo = wr := ⟨_, rfl⟩
      by_cases hlt : p + 1 < n
      · have hlti : decide (((p + 1 : Nat) : Int) < (n : Int)) = true := by simp; omega
        have hpl : p + 1 < l.length := by rw [← HN.o]; exact hlt
        obtain ⟨x, hx⟩ : ∃ x, l[p]'(Nat.lt_of_succ_lt hpl) = x := ⟨_, rfl⟩
        obtain ⟨y, hy⟩ : ∃ y, l[p + 1]'hpl = y := ⟨_, rfl⟩
        have HXY := hd (And.intro hx hy)
        obtain ⟨g', hA', _, _, _, _, hcl, _⟩ := HRW.o.at_ (by omega)
        injection hA' with hA'
        injection hA' with hA'
        subst hA'
        have hcx : ∀ t u, t < 3 → (fEnc x)[t]? = some u → wo.cell? ⟨g, p * 3 + t, none⟩ = some u := fun t u ht hv => hcl _ _ ((fsE_at l p (by omega) t ht).trans (by rw [hx]; exact hv))
        have hcy : ∀ t u, t < 3 → (fEnc y)[t]? = some u → wo.cell? ⟨g, (p + 1) * 3 + t, none⟩ = some u := fun t u ht hv => hcl _ _ ((fsE_at l (p + 1) hpl t ht).trans (by rw [hy]; exact hv))
        have x0 := hcx 0 _ (by omega) rfl
        have x1 := hcx 1 _ (by omega) rfl
        have x2 := hcx 2 _ (by omega) rfl
        have y0 := hcy 0 _ (by omega) rfl
        have y1 := hcy 1 _ (by omega) rfl
        have y2 := hcy 2 _ (by omega) rfl
        simp only [Nat.add_zero] at x0 y0
        have hp0 : (0 : Int) ≤ (p : Int) := by omega
        clear hcl hcx hcy hx hy
        have hcase := fld_cases y x
        have HNE0 := hd (fun h : y ≠ x => h)
        by_cases hyx : y = x
        · have HEQ := hd (show l[p + 1]'hpl = l[p]'(Nat.lt_of_succ_lt hpl) by rw [HXY.o.1, HXY.o.2]; exact hyx)
          have HST := hd (cpi_start HP.o hpl HEQ.o)
          clear hcase HNE0 HEQ HXY
          subst hyx
          obtain ⟨yk, yl, yv⟩ := y
          have hp1 : ((p + 1 : Nat) : Int) ≤ (n : Int) := by omega
          have hnp : p + 1 ≤ n := by omega
          go_wp2_with fail
          go_quiet (fail)
          go_wp2_with fail
          clear x0 x1 x2 y0 y1 y2
          obtain ⟨wj, hwj⟩ : ∃ wj, wj = wo.drewN nq := ⟨_, rfl⟩
          have HRJ := hd (show Row wj S 36 3 (some ⟨g, 0, none⟩) n c (fsE l) by rw [hwj]; exact HRW.o.drewN _)
          have HCJ := hd (show Chg (Of (some ⟨g, 0, none⟩)) w wj by rw [hwj]; exact HC.o.drewN _)
          rw [← hwj]
          clear hwj
          go_loopw [5, 3] (fun k2 k wr => ∃ (j q : Nat) (cur : List Fld), k2 = .int .i64 (j + 1 : Nat) ∧ k = .int .i64 q ∧ p + 1 + (j + 1) ≤ n ∧ q + 1 ≤ p + 1 + (j + 1) ∧ Hd (Cpi l p j q cur) ∧ Hd (Row wr S 36 3 (some ⟨g, 0, none⟩) n c (fsE cur)) ∧ Hd (Chg (Of (some ⟨g, 0, none⟩)) w wr)) (fun k2 _ _ => n - (intOf k2).toNat)
          case atStart => exact ⟨0, p + 1, l, rfl, rfl, by omega, by omega, HST, HRJ, HCJ⟩
          case round =>
            obtain ⟨j, q, cur, rfl, rfl, hj, hq, HI, HRI, HCI⟩ := hrel
            obtain ⟨wi, rfl⟩ : ∃ wi : World, wi = wr := ⟨_, rfl⟩
            by_cases hlt2 : p + 1 + (j + 1) < n
            · have hlti2 : decide (((j + 1 : Nat) : Int) < ((n - (p + 1) : Nat) : Int)) = true := by simp; omega
              have hjl : p + 1 + (j + 1) < l.length := by rw [← HN.o]; exact hlt2
              obtain ⟨x, hx⟩ : ∃ x, l[p + 1 + j]'(Nat.lt_of_succ_lt hjl) = x := ⟨_, rfl⟩
              obtain ⟨y, hy⟩ : ∃ y, l[p + 1 + (j + 1)]'hjl = y := ⟨_, rfl⟩
              have HXY := hd (And.intro hx hy)
              have hlc := HI.o.len
              have ec1 : cur[p + 1 + j]'(by omega) = x := by
                have := HI.o.o (p + 1 + j) (by omega) (by omega)
                rw [List.getElem?_eq_getElem (by omega), List.getElem?_eq_getElem (by omega)] at this
                injection this with this
                rw [this, hx]
              have ec2 : cur[p + 1 + (j + 1)]'(by omega) = y := by
                have := HI.o.o (p + 1 + (j + 1)) (by omega) (by omega)
                rw [List.getElem?_eq_getElem (by omega), List.getElem?_eq_getElem (by omega)] at this
                injection this with this
                rw [this, hy]
              obtain ⟨g', hA', _, hgl, _, _, hcl, hfz⟩ := HRI.o.at_ (by omega)
              injection hA' with hA'
              injection hA' with hA'
              subst hA'
              have hcx : ∀ t u, t < 3 → (fEnc x)[t]? = some u → wi.cell? ⟨g, (p + 1) * 3 + j * 3 + t, none⟩ = some u := fun t u ht hv => by
                rw [show (p + 1) * 3 + j * 3 + t = (p + 1 + j) * 3 + t by omega]
                exact hcl _ _ ((fsE_at cur (p + 1 + j) (by omega) t ht).trans (by rw [ec1]; exact hv))
              have hcy : ∀ t u, t < 3 → (fEnc y)[t]? = some u → wi.cell? ⟨g, (p + 1) * 3 + (j + 1) * 3 + t, none⟩ = some u := fun t u ht hv => by
                rw [show (p + 1) * 3 + (j + 1) * 3 + t = (p + 1 + (j + 1)) * 3 + t by omega]
                exact hcl _ _ ((fsE_at cur (p + 1 + (j + 1)) (by omega) t ht).trans (by rw [ec2]; exact hv))
              have x0 := hcx 0 _ (by omega) rfl
              have x1 := hcx 1 _ (by omega) rfl
              have x2 := hcx 2 _ (by omega) rfl
              have y0 := hcy 0 _ (by omega) rfl
              have y1 := hcy 1 _ (by omega) rfl
              have y2 := hcy 2 _ (by omega) rfl
              simp only [Nat.add_zero] at x0 y0
              clear hcl hcx hcy hx hy ec1 ec2 hlc
              have hcase := fld_cases y x
              by_cases hyx : y = x
              · have HST := hd (cpi_same HI.o hjl (by rw [HXY.o.1, HXY.o.2]; exact hyx))
                clear hcase HXY
                subst hyx
                obtain ⟨yk, yl, yv⟩ := y
                go_wp2_with fail
                go_quiet (fail)
                go_wp2
                go_roundw
                case rel => exact ⟨j + 1, q, cur, by go_num, rfl, by omega, by omega, HST, hd (HRI.o.drewN _), hd (HCI.o.drewN _)⟩
                case measure => simp [intOf]; omega
              · have HST := hd (cpi_new HI.o hjl (by rw [HXY.o.1, HXY.o.2]; exact hyx))
                have hqn : q < cur.length := by rw [HI.o.len, ← HN.o]; omega
                have HEN := hd (fsE_set y cur q hqn)
                rw [HXY.o.2] at HST
                have HNE := hd hyx
                have c0 : wi.frozen? ⟨g, q * 3, none⟩ = false := hfz _
                have c1 : wi.frozen? ⟨g, q * 3 + 1, none⟩ = false := hfz _
                have c2 : wi.frozen? ⟨g, q * 3 + 2, none⟩ = false := hfz _
                have hq1 : ((q : Nat) : Int) < (n : Int) := by omega
                obtain ⟨z, hz⟩ : ∃ z, cur[q]'hqn = z := ⟨_, rfl⟩
                obtain ⟨g', hA', _, _, _, _, hcl, _⟩ := HRI.o.at_ (by omega)
                injection hA' with hA'
                injection hA' with hA'
                subst hA'
                have hcz : ∀ t u, t < 3 → (fEnc z)[t]? = some u → wi.cell? ⟨g, q * 3 + t, none⟩ = some u := fun t u ht hv => hcl _ _ ((fsE_at cur q hqn t ht).trans (by rw [hz]; exact hv))
                have z0 := hcz 0 _ (by omega) rfl
                have z1 := hcz 1 _ (by omega) rfl
                have z2 := hcz 2 _ (by omega) rfl
                simp only [Nat.add_zero] at z0
                clear hcl hcz hz hyx
                rcases hcase with he | he | ⟨he1, he2⟩ | ⟨he1, he2, he3⟩
                · exact absurd he HNE.o
                · obtain ⟨xk, xl, xv⟩ := x
                  obtain ⟨yk, yl, yv⟩ := y
                  obtain ⟨zk, zl, zv⟩ := z
                  simp only at he
                  clear HXY HNE
                  go_wp2_with fail
                  go_quiet (fail)
                  go_wp2
                  go_roundw
                  case rel =>
                    refine ⟨j + 1, q + 1, _, by go_num, by go_num, by omega, by omega, HST, hd ?_, hd ?_⟩
                    · rw [HEN.o]
                      exact row_setk3 (row_setk3 (row_setk3 (HRI.o.drewN _) _ _) _ _) _ _
                    · have hof : ∀ i : Nat, Of (some ⟨g, 0, none⟩) (Addr.block ⟨g, i, none⟩) ∨ w.heap.size ≤ (Addr.block ⟨g, i, none⟩) := fun i => .inl rfl
                      exact (((HCI.o.drewN _).setCell (hof _) _).setCell (hof _) _).setCell (hof _) _
                  case measure => simp [intOf]; omega
                · obtain ⟨xk, xl, xv⟩ := x
                  obtain ⟨yk, yl, yv⟩ := y
                  obtain ⟨zk, zl, zv⟩ := z
                  simp only at he1 he2
                  clear HXY HNE
                  subst he1
                  go_wp2_with fail
                  go_quiet (fail)
                  go_wp2
                  go_roundw
                  case rel =>
                    refine ⟨j + 1, q + 1, _, by go_num, by go_num, by omega, by omega, HST, hd ?_, hd ?_⟩
                    · rw [HEN.o]
                      exact row_setk3 (row_setk3 (row_setk3 (HRI.o.drewN _) _ _) _ _) _ _
                    · have hof : ∀ i : Nat, Of (some ⟨g, 0, none⟩) (Addr.block ⟨g, i, none⟩) ∨ w.heap.size ≤ (Addr.block ⟨g, i, none⟩) := fun i => .inl rfl
                      exact (((HCI.o.drewN _).setCell (hof _) _).setCell (hof _) _).setCell (hof _) _
                  case measure => simp [intOf]; omega
                · obtain ⟨xk, xl, xv⟩ := x
                  obtain ⟨yk, yl, yv⟩ := y
                  obtain ⟨zk, zl, zv⟩ := z
                  simp only at he1 he2 he3
                  clear HXY HNE
                  subst he1 he2
                  go_wp2_with fail
                  go_quiet (fail)
                  go_wp2
                  go_roundw
                  case rel =>
                    refine ⟨j + 1, q + 1, _, by go_num, by go_num, by omega, by omega, HST, hd ?_, hd ?_⟩
                    · rw [HEN.o]
                      exact row_setk3 (row_setk3 (row_setk3 (HRI.o.drewN _) _ _) _ _) _ _
                    · have hof : ∀ i : Nat, Of (some ⟨g, 0, none⟩) (Addr.block ⟨g, i, none⟩) ∨ w.heap.size ≤ (Addr.block ⟨g, i, none⟩) := fun i => .inl rfl
                      exact (((HCI.o.drewN _).setCell (hof _) _).setCell (hof _) _).setCell (hof _) _
                  case measure => simp [intOf]; omega
            · have hlti2 : decide (((j + 1 : Nat) : Int) < ((n - (p + 1) : Nat) : Int)) = false := by simp; omega
              have hjn : p + 1 + (j + 1) = n := by omega
              have HD := hd (show dedup (l.take (p + 1 + (j + 1))) = dedup l by rw [List.take_of_length_le (by rw [← HN.o]; omega)])
              have hqn : q < n := by omega
              have hq1 : ((q : Nat) : Int) ≤ (n : Int) := by omega
              have hq2 : ((q : Nat) : Int) ≤ (c : Int) := by omega
              obtain ⟨g', CA, e1, hS', hCA, _, _, hCs, hCt⟩ := HRI.o.block rfl
              injection e1 with e1
              subst e1
              obtain ⟨ns, hnl, hclr⟩ := run_clear_many (P := Tryz.prog) wi 22 36 (.agg #[.int .i64 0, .int .i64 0, .string ⟨#[]⟩]) [.int .i64 0, .int .i64 0, .string ⟨#[]⟩] Tryz.underlying22 Tryz.zeroValue36 rfl (by decide) (fun v hv => by simp at hv; rcases hv with rfl | rfl | rfl <;> rfl) g (q * 3) (n - q) (c - q) (by omega) CA hCA (by rw [hCs]; simp; omega)
              have hnl' : ns.length = (n - q) * 3 := hnl
              have HNL := hd hnl'
              have HCA := hd hCA
              have HCS := hd hCs
              have HCT := hd hCt
              obtain ⟨NEW, hNEW⟩ : ∃ NEW, (CA.toList.take (q * 3) ++ ns ++ CA.toList.drop (q * 3 + ns.length)).toArray = NEW := ⟨_, rfl⟩
              rw [hNEW] at hclr
              have HNEW := hd hNEW
              clear hnl hnl' hCA hCs hCt hNEW
              go_wp2
              go_ret
              refine ⟨⟨q, rfl, ?_, ?_⟩, ?_⟩
              · rw [← HD.o]; exact HI.o.hq
              · have hcl := HI.o.len
                have h4 : (fsE (dedup l)).length = q * 3 := by
                  rw [show (fsE (dedup l)).length = (dedup l).length * 3 from flat_length fEnc 3 fEnc_len _, ← HD.o, ← HI.o.hq]
                refine Row.of_block (HCA.o.setRow _) hgS (by omega) (by unfold maxLen; omega) ?_ ?_ h4
                · rw [← HNEW.o]
                  simp only [List.size_toArray, List.length_append, List.length_take, List.length_drop, Array.length_toList]
                  rw [HCS.o, HNL.o]; omega
                · rw [← HNEW.o]
                  have h5 : CA.toList.take (q * 3) = fsE (dedup l) := by
                    have : CA.toList.take (q * 3) = (fsE cur).take (q * 3) := by
                      rw [← HCT.o, List.take_take, Nat.min_eq_left (by omega)]
                    rw [this, show (fsE cur).take (q * 3) = fsE (cur.take q) from flat_take fEnc 3 fEnc_len cur q, HI.o.d, HD.o]
                  show List.take (q * 3) (List.take (q * 3) CA.toList ++ ns ++ List.drop (q * 3 + ns.length) CA.toList) = _
                  rw [h5, List.append_assoc, List.take_append_of_le_length (by rw [h4]; exact Nat.le_refl _), List.take_of_length_le (by rw [h4]; exact Nat.le_refl _)]
              · exact HCI.o.setRow (.inl rfl) _
        · have HNE := hd hyx
          clear hyx HNE0
          rcases hcase with he | he | ⟨he1, he2⟩ | ⟨he1, he2, he3⟩
          · exact absurd he HNE.o
          · have HN2 := hd (cpo_next HP.o hpl (by rw [HXY.o.1, HXY.o.2]; exact HNE.o))
            obtain ⟨xk, xl, xv⟩ := x
            obtain ⟨yk, yl, yv⟩ := y
            simp only at he
            clear HXY HNE
            go_wp2_with fail
            go_quiet (fail)
            go_wp2
            go_roundw
            case rel => exact ⟨p + 1, by go_num, by omega, HN2, hd (HRW.o.drewN _), hd (HC.o.drewN _)⟩
            case measure => simp [intOf]; omega
          · have HN2 := hd (cpo_next HP.o hpl (by rw [HXY.o.1, HXY.o.2]; exact HNE.o))
            obtain ⟨xk, xl, xv⟩ := x
            obtain ⟨yk, yl, yv⟩ := y
            simp only at he1 he2
            clear HXY HNE
            subst he1
            go_wp2_with fail
            go_quiet (fail)
            go_wp2
            go_roundw
            case rel => exact ⟨p + 1, by go_num, by omega, HN2, hd (HRW.o.drewN _), hd (HC.o.drewN _)⟩
            case measure => simp [intOf]; omega
          · have HN2 := hd (cpo_next HP.o hpl (by rw [HXY.o.1, HXY.o.2]; exact HNE.o))
            obtain ⟨xk, xl, xv⟩ := x
            obtain ⟨yk, yl, yv⟩ := y
            simp only at he1 he2 he3
            clear HXY HNE
            subst he1 he2
            go_wp2_with fail
            go_quiet (fail)
            go_wp2
            go_roundw
            case rel => exact ⟨p + 1, by go_num, by omega, HN2, hd (HRW.o.drewN _), hd (HC.o.drewN _)⟩
            case measure => simp [intOf]; omega
      · have hlti : decide (((p + 1 : Nat) : Int) < (n : Int)) = false := by simp; omega
        have HD := hd (show dedup l = l by
          have := HP.o
          unfold Cpo at this
          rwa [List.take_of_length_le (by rw [← HN.o]; omega)] at this)
        go_wp2
        go_ret
        exact ⟨⟨n, rfl, by rw [HD.o]; exact HN.o, by rw [HD.o]; exact HRW.o⟩, HC.o⟩

end Go.Proofs.YtpejlcaoggedfaaGreatDoor
