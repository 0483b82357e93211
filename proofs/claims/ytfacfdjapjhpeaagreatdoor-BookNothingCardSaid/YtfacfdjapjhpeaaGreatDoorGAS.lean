/-
  slices.Compact at fields: of neighbours that are alike one is left.
-/
import Derived.Test.YtfacfdjapjhpeaaGreatDoorGAD
import Derived.Test.YtfacfdjapjhpeaaGreatDoorGAR
import Derived.Shelf.Strings.Builder1
import Derived.Shelf.LaysM
import Derived.Test.YtfacfdjapjhpeaaGreatDoorProg
set_option linter.unusedVariables false
set_option linter.unusedSimpArgs false
namespace Go.Proofs.YtfacfdjapjhpeaaGreatDoor
open Go.RowKit

theorem row_setk3 {w : World} {S : Nat → Prop} {e size n c g : Nat} {xs : List Value} (h : Row w S e size (some ⟨g, 0, none⟩) n c xs) (j : Nat) (u : Value) : Row (w.setCell ⟨g, j, none⟩ u) S e size (some ⟨g, 0, none⟩) n c (xs.set j u) := by
  obtain ⟨g', cur, e1, hS, hB, hnc, hcm, hcs, ht⟩ := h.block rfl
  injection e1 with e1
  subst e1
  refine Row.of_block (hB.set_ j u) hS hnc hcm (by simp [hcs]) ?_ (by simpa using h.len)
  rw [← ht]
  simp [List.take_set]
theorem fsE_set (f : Fld) : ∀ (l : List Fld) (q : Nat), q < l.length → fsE (l.set q f) = (((fsE l).set (q * 3) (.int .i64 f.k)).set (q * 3 + 1) (.int .i64 f.l)).set (q * 3 + 2) (.string (bs f.v))
  | [], q, h => by simp at h
  | a :: t, 0, _ => by simp [fsE, fEnc]
  | a :: t, q + 1, h => by
    have ih := fsE_set f t q (by simpa using h)
    have e : (q + 1) * 3 = q * 3 + 3 := by omega
    rw [List.set_cons_succ, e]
    unfold fsE at *
    rw [List.flatMap_cons, List.flatMap_cons, ih]
    simp [fEnc]
theorem zeroCells_any (zs : List Value) (n : Nat) : ∀ v ∈ (Builtin.zeroCells zs.toArray n).toList, 0 < zs.length → v ∈ zs := by
  intro v hv h0
  simp only [Builtin.zeroCells, Array.toList_map, List.mem_map] at hv
  obtain ⟨i, _, rfl⟩ := hv
  have : i % zs.length < zs.length := Nat.mod_lt _ h0
  simp [this]
theorem run_clear_many {P : Program} (w : World) (t e : TypeId) (z : Value) (zs : List Value) (ht : P.underlying t = some (.slice e)) (hv : ∀ w, (zeroValue e).run P w = .ok z w) (hz : z.cells = zs.toArray) (h0 : 0 < zs.length) (h1 : ∀ v ∈ zs, v.oneCell' = true)
    (g o m c : Nat) (hm : 0 < m) (cur : Array Value) (hb : Blk w g e cur) (hl : o + m * zs.length ≤ cur.size) :
    ∃ ns : List Value, ns.length = m * zs.length ∧ ∀ ty, (Builtin.clear_ #[t] ty #[.slice (some ⟨g, o, none⟩) m c]).run P w = .ok (.tuple #[]) (w.setRow g (cur.toList.take o ++ ns ++ cur.toList.drop (o + ns.length)).toArray) := by
  have hln : (Builtin.zeroCells zs.toArray m).toList.length = m * zs.length := by simp [Builtin.zeroCells]
  refine ⟨(Builtin.zeroCells zs.toArray m).toList, hln, fun ty => ?_⟩
  have hst := run_storeCells_at P g o e (Builtin.zeroCells zs.toArray m).toList 0 cur w hb (by rw [hln]; simpa using hl) (fun v hv => h1 v (zeroCells_any zs m v hv h0))
  simp only [Nat.add_zero] at hst
  obtain ⟨m', rfl⟩ : ∃ k, m = k + 1 := ⟨m - 1, by omega⟩
  simp [Builtin.clear_, run_underlying ht, hv, hz, hst]

/-- So far all are unlike. -/
def Cpo (l : List Fld) (k : Nat) : Prop := dedup (l.take k) = l.take k
/-- Behind the first two that are alike: what is left stands ahead, what is to come stands as it stood. -/
structure Cpi (l : List Fld) (p j q : Nat) (cur : List Fld) : Prop where
  len : cur.length = l.length
  hp : p + 1 < l.length
  le : q + 1 ≤ p + 1 + (j + 1)
  hq : q = (dedup (l.take (p + 1 + (j + 1)))).length
  d : cur.take q = dedup (l.take (p + 1 + (j + 1)))
  o : ∀ i, p + 1 + j ≤ i → i < l.length → cur[i]? = l[i]?
theorem cpo_1 (l : List Fld) (h : 0 < l.length) : Cpo l 1 := dedup_one l h
theorem cpo_next {l : List Fld} {p : Nat} (h : Cpo l (p + 1)) (hl : p + 1 < l.length) (hn : l[p + 1] ≠ l[p]) : Cpo l (p + 1 + 1) := by
  unfold Cpo at *
  rw [show p + 1 + 1 = p + 2 from rfl, dedup_new l p hl hn, h, List.take_succ_eq_append_getElem hl]
theorem cpi_start {l : List Fld} {p : Nat} (h : Cpo l (p + 1)) (hl : p + 1 < l.length) (hn : l[p + 1] = l[p]) : Cpi l p 0 (p + 1) l := by
  have e : dedup (l.take (p + 1 + (0 + 1))) = l.take (p + 1) := by
    show dedup (l.take (p + 2)) = _
    rw [dedup_same l p hl hn]; exact h
  refine ⟨rfl, hl, by omega, ?_, e.symm, fun _ _ _ => rfl⟩
  rw [e, List.length_take]; omega
theorem cpi_same {l cur : List Fld} {p j q : Nat} (h : Cpi l p j q cur) (hl : p + 1 + (j + 1) < l.length) (hn : l[p + 1 + (j + 1)] = l[p + 1 + j]) : Cpi l p (j + 1) q cur := by
  have e : dedup (l.take (p + 1 + (j + 1 + 1))) = dedup (l.take (p + 1 + (j + 1))) := dedup_same l (p + 1 + j) hl hn
  exact ⟨h.len, h.hp, by have := h.le; omega, by rw [e]; exact h.hq, by rw [e]; exact h.d, fun i hi hl => h.o i (by omega) hl⟩
theorem cpi_new {l cur : List Fld} {p j q : Nat} (h : Cpi l p j q cur) (hl : p + 1 + (j + 1) < l.length) (hn : l[p + 1 + (j + 1)] ≠ l[p + 1 + j]) : Cpi l p (j + 1) (q + 1) (cur.set q l[p + 1 + (j + 1)]) := by
  have e : dedup (l.take (p + 1 + (j + 1 + 1))) = dedup (l.take (p + 1 + (j + 1))) ++ [l[p + 1 + (j + 1)]] := dedup_new l (p + 1 + j) hl hn
  have hq := h.le
  have hlen := h.len
  refine ⟨by simpa using h.len, h.hp, by omega, ?_, ?_, fun i hi hl => ?_⟩
  · rw [e, List.length_append, ← h.hq]; rfl
  · rw [e, ← h.d]
    have hqc : q < cur.length := by omega
    rw [List.take_succ_eq_append_getElem (by simpa using hqc)]
    simp
    exact List.take_set_of_le (Nat.le_refl _)
  · rw [List.getElem?_set_ne (by omega)]
    exact h.o i (by omega) hl
theorem fld_cases (x y : Fld) : x = y ∨ (x.k == y.k) = false ∨ (x.k = y.k ∧ (x.l == y.l) = false) ∨ (x.k = y.k ∧ x.l = y.l ∧ ((bs x.v).toList == (bs y.v).toList) = false) := by
  have e : ∀ l : List UInt8, (bs l).toList = l := fun l => by rw [Lib.toList_data]; rfl
  rw [e, e]
  by_cases h1 : x.k = y.k
  · by_cases h2 : x.l = y.l
    · by_cases h3 : x.v = y.v
      · exact .inl (fld_ext h1 h2 h3)
      · exact .inr (.inr (.inr ⟨h1, h2, by simpa using h3⟩))
    · exact .inr (.inr (.inl ⟨h1, by simpa using h2⟩))
  · exact .inr (.inl (by simpa using h1))

set_option maxRecDepth 100000 in
set_option maxHeartbeats 8000000 in
theorem compact_calls (w : World) (S : Nat → Prop) (A : Option Addr) (n c : Nat) (l : List Fld) (hn : n = l.length) (hr : Row w S 230 3 A n c (fsE l)) (hb : n ≤ 1000000) :
    Calls Tryz.prog 205 #[.slice A n c] w fun e w' => (∃ m, e = .returned (.slice A m c) ∧ m = (dedup l).length ∧ Row w' S 230 3 A m c (fsE (dedup l))) ∧ Chg (Of A) w w' := by
  by_cases h2 : n < 2
  · have hdd : dedup l = l := by
      match l, hn with
      | [], _ => rfl
      | [a], _ => simp [dedup, dd1]
      | a :: b :: t, hn => simp at hn; omega
    have HR := hd (And.intro (show n = (dedup l).length by rw [hdd]; exact hn) (show Row w S 230 3 A n c (fsE (dedup l)) by rw [hdd]; exact hr))
    clear hr hdd hn
    go_enter Tryz.func205, Tryz.ntmps205
    go_wp2
    go_ret
    exact ⟨⟨n, rfl, HR.o.1, HR.o.2⟩, Chg.refl _ _⟩
  · obtain ⟨g, cur0, rfl, hgS, _⟩ : ∃ g cur0, A = some ⟨g, 0, none⟩ ∧ S g ∧ Blk w g 230 cur0 := by
      obtain ⟨g, rfl, hg, _⟩ := hr.at_ (by omega)
      obtain ⟨g', cur0, e1, _, hB, _⟩ := hr.block rfl
      injection e1 with e1
      subst e1
      exact ⟨g, cur0, rfl, hg, hB⟩
    have HN := hd hn
    have hcap := hr.cap
    have hc1 : n ≤ c := hcap.1
    have hc2 : c ≤ maxLen := hcap.2
    unfold maxLen at hc2
    have HR := hd hr
    clear hr hn hcap
    go_enter Tryz.func205, Tryz.ntmps205
    go_wp2_with fail
    go_loopw [3, 4, 5, 2] (fun k _ _ _ wr => ∃ (p : Nat), k = .int .i64 (p + 1 : Nat) ∧ p + 1 ≤ n ∧ Hd (Cpo l (p + 1)) ∧ Hd (Row wr S 230 3 (some ⟨g, 0, none⟩) n c (fsE l)) ∧ Hd (Chg (Of (some ⟨g, 0, none⟩)) w wr)) (fun k _ _ _ _ => n - (RowKit.intOf k).toNat)
    case atStart => exact ⟨0, rfl, by omega, hd (cpo_1 l (by rw [← HN.o]; omega)), HR, hd (Chg.refl _ _)⟩
    case round =>
      obtain ⟨p, rfl, hp, HP, HRW, HC⟩ := hrel
      obtain ⟨wo, rfl⟩ : ∃ wo : World, wo = wr := ⟨_, rfl⟩
      by_cases hlt : p + 1 < n
      · have hlti : decide (((p + 1 : Nat) : Int) < (n : Int)) = true := by simp; omega
        have hpl : p + 1 < l.length := by rw [← HN.o]; exact hlt
        obtain ⟨x, hx⟩ : ∃ x, l[p]'(Nat.lt_of_succ_lt hpl) = x := ⟨_, rfl⟩
        obtain ⟨y, hy⟩ : ∃ y, l[p + 1]'hpl = y := ⟨_, rfl⟩
        have HXY := hd (And.intro hx hy)
        obtain ⟨g', hA', _, _, _, _, hcl, _⟩ := HRW.o.at_ (by omega)
        injection hA' with hA'
        injection hA' with hA'
        subst hA'
        have hcx : ∀ t u, t < 3 → (fEnc x)[t]? = some u → wo.cell? ⟨g, p * 3 + t, none⟩ = some u := fun t u ht hv => hcl _ _ ((fsE_at l p (by omega) t ht).trans (by rw [hx]; exact hv))
        have hcy : ∀ t u, t < 3 → (fEnc y)[t]? = some u → wo.cell? ⟨g, (p + 1) * 3 + t, none⟩ = some u := fun t u ht hv => hcl _ _ ((fsE_at l (p + 1) hpl t ht).trans (by rw [hy]; exact hv))
        have x0 := hcx 0 _ (by omega) rfl
        have x1 := hcx 1 _ (by omega) rfl
        have x2 := hcx 2 _ (by omega) rfl
        have y0 := hcy 0 _ (by omega) rfl
        have y1 := hcy 1 _ (by omega) rfl
        have y2 := hcy 2 _ (by omega) rfl
        simp only [Nat.add_zero] at x0 y0
        have hp0 : (0 : Int) ≤ (p : Int) := by omega
        clear hcl hcx hcy hx hy
        have hcase := fld_cases y x
        have HNE0 := hd (fun h : y ≠ x => h)
        by_cases hyx : y = x
        · have HEQ := hd (show l[p + 1]'hpl = l[p]'(Nat.lt_of_succ_lt hpl) by rw [HXY.o.1, HXY.o.2]; exact hyx)
          have HST := hd (cpi_start HP.o hpl HEQ.o)
          clear hcase HNE0 HEQ HXY
          subst hyx
          obtain ⟨yk, yl, yv⟩ := y
          have hp1 : ((p + 1 : Nat) : Int) ≤ (n : Int) := by omega
          have hnp : p + 1 ≤ n := by omega
          go_wp2_with fail
          go_quiet (fail)
          go_wp2_with fail
          clear x0 x1 x2 y0 y1 y2
          obtain ⟨wj, hwj⟩ : ∃ wj, wj = wo.drewN nq := ⟨_, rfl⟩
          have HRJ := hd (show Row wj S 230 3 (some ⟨g, 0, none⟩) n c (fsE l) by rw [hwj]; exact HRW.o.drewN _)
          have HCJ := hd (show Chg (Of (some ⟨g, 0, none⟩)) w wj by rw [hwj]; exact HC.o.drewN _)
          rw [← hwj]
          clear hwj
          go_loopw [5, 3] (fun k2 k wr => ∃ (j q : Nat) (cur : List Fld), k2 = .int .i64 (j + 1 : Nat) ∧ k = .int .i64 q ∧ p + 1 + (j + 1) ≤ n ∧ q + 1 ≤ p + 1 + (j + 1) ∧ Hd (Cpi l p j q cur) ∧ Hd (Row wr S 230 3 (some ⟨g, 0, none⟩) n c (fsE cur)) ∧ Hd (Chg (Of (some ⟨g, 0, none⟩)) w wr)) (fun k2 _ _ => n - (RowKit.intOf k2).toNat)
          case atStart => exact ⟨0, p + 1, l, rfl, rfl, by omega, by omega, HST, HRJ, HCJ⟩
          case round =>
            obtain ⟨j, q, cur, rfl, rfl, hj, hq, HI, HRI, HCI⟩ := hrel
            obtain ⟨wi, rfl⟩ : ∃ wi : World, wi = wr := ⟨_, rfl⟩
            by_cases hlt2 : p + 1 + (j + 1) < n
            · have hlti2 : decide (((j + 1 : Nat) : Int) < ((n - (p + 1) : Nat) : Int)) = true := by simp; omega
              have hjl : p + 1 + (j + 1) < l.length := by rw [← HN.o]; exact hlt2
              obtain ⟨x, hx⟩ : ∃ x, l[p + 1 + j]'(Nat.lt_of_succ_lt hjl) = x := ⟨_, rfl⟩
              obtain ⟨y, hy⟩ : ∃ y, l[p + 1 + (j + 1)]'hjl = y := ⟨_, rfl⟩
              have HXY := hd (And.intro hx hy)
              have hlc := HI.o.len
              have ec1 : cur[p + 1 + j]'(by omega) = x := by
                have := HI.o.o (p + 1 + j) (by omega) (by omega)
                rw [List.getElem?_eq_getElem (by omega), List.getElem?_eq_getElem (by omega)] at this
                injection this with this
                rw [this, hx]
              have ec2 : cur[p + 1 + (j + 1)]'(by omega) = y := by
                have := HI.o.o (p + 1 + (j + 1)) (by omega) (by omega)
                rw [List.getElem?_eq_getElem (by omega), List.getElem?_eq_getElem (by omega)] at this
                injection this with this
                rw [this, hy]
              obtain ⟨g', hA', _, hgl, _, _, hcl, hfz⟩ := HRI.o.at_ (by omega)
              injection hA' with hA'
              injection hA' with hA'
              subst hA'
              have hcx : ∀ t u, t < 3 → (fEnc x)[t]? = some u → wi.cell? ⟨g, (p + 1) * 3 + j * 3 + t, none⟩ = some u := fun t u ht hv => by
                rw [show (p + 1) * 3 + j * 3 + t = (p + 1 + j) * 3 + t by omega]
                exact hcl _ _ ((fsE_at cur (p + 1 + j) (by omega) t ht).trans (by rw [ec1]; exact hv))
              have hcy : ∀ t u, t < 3 → (fEnc y)[t]? = some u → wi.cell? ⟨g, (p + 1) * 3 + (j + 1) * 3 + t, none⟩ = some u := fun t u ht hv => by
                rw [show (p + 1) * 3 + (j + 1) * 3 + t = (p + 1 + (j + 1)) * 3 + t by omega]
                exact hcl _ _ ((fsE_at cur (p + 1 + (j + 1)) (by omega) t ht).trans (by rw [ec2]; exact hv))
              have x0 := hcx 0 _ (by omega) rfl
              have x1 := hcx 1 _ (by omega) rfl
              have x2 := hcx 2 _ (by omega) rfl
              have y0 := hcy 0 _ (by omega) rfl
              have y1 := hcy 1 _ (by omega) rfl
              have y2 := hcy 2 _ (by omega) rfl
              simp only [Nat.add_zero] at x0 y0
              clear hcl hcx hcy hx hy ec1 ec2 hlc
              have hcase := fld_cases y x
              by_cases hyx : y = x
              · have HST := hd (cpi_same HI.o hjl (by rw [HXY.o.1, HXY.o.2]; exact hyx))
                clear hcase HXY
                subst hyx
                obtain ⟨yk, yl, yv⟩ := y
                go_wp2_with fail
                go_quiet (fail)
                go_wp2
                go_roundw
                case rel => exact ⟨j + 1, q, cur, by go_num, rfl, by omega, by omega, HST, hd (HRI.o.drewN _), hd (HCI.o.drewN _)⟩
                case measure => simp [RowKit.intOf]; omega
              · have HST := hd (cpi_new HI.o hjl (by rw [HXY.o.1, HXY.o.2]; exact hyx))
                have hqn : q < cur.length := by rw [HI.o.len, ← HN.o]; omega
                have HEN := hd (fsE_set y cur q hqn)
                rw [HXY.o.2] at HST
                have HNE := hd hyx
                have c0 : wi.frozen? ⟨g, q * 3, none⟩ = false := hfz _
                have c1 : wi.frozen? ⟨g, q * 3 + 1, none⟩ = false := hfz _
                have c2 : wi.frozen? ⟨g, q * 3 + 2, none⟩ = false := hfz _
                have hq1 : ((q : Nat) : Int) < (n : Int) := by omega
                obtain ⟨z, hz⟩ : ∃ z, cur[q]'hqn = z := ⟨_, rfl⟩
                obtain ⟨g', hA', _, _, _, _, hcl, _⟩ := HRI.o.at_ (by omega)
                injection hA' with hA'
                injection hA' with hA'
                subst hA'
                have hcz : ∀ t u, t < 3 → (fEnc z)[t]? = some u → wi.cell? ⟨g, q * 3 + t, none⟩ = some u := fun t u ht hv => hcl _ _ ((fsE_at cur q hqn t ht).trans (by rw [hz]; exact hv))
                have z0 := hcz 0 _ (by omega) rfl
                have z1 := hcz 1 _ (by omega) rfl
                have z2 := hcz 2 _ (by omega) rfl
                simp only [Nat.add_zero] at z0
                clear hcl hcz hz hyx
                rcases hcase with he | he | ⟨he1, he2⟩ | ⟨he1, he2, he3⟩
                · exact absurd he HNE.o
                · obtain ⟨xk, xl, xv⟩ := x
                  obtain ⟨yk, yl, yv⟩ := y
                  obtain ⟨zk, zl, zv⟩ := z
                  simp only at he
                  clear HXY HNE
                  go_wp2_with fail
                  go_quiet (fail)
                  go_wp2
                  go_roundw
                  case rel =>
                    refine ⟨j + 1, q + 1, _, by go_num, by go_num, by omega, by omega, HST, hd ?_, hd ?_⟩
                    · rw [HEN.o]
                      exact row_setk3 (row_setk3 (row_setk3 (HRI.o.drewN _) _ _) _ _) _ _
                    · have hof : ∀ i : Nat, Of (some ⟨g, 0, none⟩) (Addr.block ⟨g, i, none⟩) ∨ w.heap.size ≤ (Addr.block ⟨g, i, none⟩) := fun i => .inl rfl
                      exact (((HCI.o.drewN _).setCell (hof _) _).setCell (hof _) _).setCell (hof _) _
                  case measure => simp [RowKit.intOf]; omega
                · obtain ⟨xk, xl, xv⟩ := x
                  obtain ⟨yk, yl, yv⟩ := y
                  obtain ⟨zk, zl, zv⟩ := z
                  simp only at he1 he2
                  clear HXY HNE
                  subst he1
                  go_wp2_with fail
                  go_quiet (fail)
                  go_wp2
                  go_roundw
                  case rel =>
                    refine ⟨j + 1, q + 1, _, by go_num, by go_num, by omega, by omega, HST, hd ?_, hd ?_⟩
                    · rw [HEN.o]
                      exact row_setk3 (row_setk3 (row_setk3 (HRI.o.drewN _) _ _) _ _) _ _
                    · have hof : ∀ i : Nat, Of (some ⟨g, 0, none⟩) (Addr.block ⟨g, i, none⟩) ∨ w.heap.size ≤ (Addr.block ⟨g, i, none⟩) := fun i => .inl rfl
                      exact (((HCI.o.drewN _).setCell (hof _) _).setCell (hof _) _).setCell (hof _) _
                  case measure => simp [RowKit.intOf]; omega
                · obtain ⟨xk, xl, xv⟩ := x
                  obtain ⟨yk, yl, yv⟩ := y
                  obtain ⟨zk, zl, zv⟩ := z
                  simp only at he1 he2 he3
                  clear HXY HNE
                  subst he1 he2
                  go_wp2_with fail
                  go_quiet (fail)
                  go_wp2
                  go_roundw
                  case rel =>
                    refine ⟨j + 1, q + 1, _, by go_num, by go_num, by omega, by omega, HST, hd ?_, hd ?_⟩
                    · rw [HEN.o]
                      exact row_setk3 (row_setk3 (row_setk3 (HRI.o.drewN _) _ _) _ _) _ _
                    · have hof : ∀ i : Nat, Of (some ⟨g, 0, none⟩) (Addr.block ⟨g, i, none⟩) ∨ w.heap.size ≤ (Addr.block ⟨g, i, none⟩) := fun i => .inl rfl
                      exact (((HCI.o.drewN _).setCell (hof _) _).setCell (hof _) _).setCell (hof _) _
                  case measure => simp [RowKit.intOf]; omega
            · have hlti2 : decide (((j + 1 : Nat) : Int) < ((n - (p + 1) : Nat) : Int)) = false := by simp; omega
              have hjn : p + 1 + (j + 1) = n := by omega
              have HD := hd (show dedup (l.take (p + 1 + (j + 1))) = dedup l by rw [List.take_of_length_le (by rw [← HN.o]; omega)])
              have hqn : q < n := by omega
              have hq1 : ((q : Nat) : Int) ≤ (n : Int) := by omega
              have hq2 : ((q : Nat) : Int) ≤ (c : Int) := by omega
              obtain ⟨g', CA, e1, hS', hCA, _, _, hCs, hCt⟩ := HRI.o.block rfl
              injection e1 with e1
              subst e1
              obtain ⟨ns, hnl, hclr⟩ := run_clear_many (P := Tryz.prog) wi 198 230 (.agg #[.int .i64 0, .int .i64 0, .string ⟨#[]⟩]) [.int .i64 0, .int .i64 0, .string ⟨#[]⟩] Tryz.underlying198 Tryz.zeroValue230 rfl (by decide) (fun v hv => by simp at hv; rcases hv with rfl | rfl | rfl <;> rfl) g (q * 3) (n - q) (c - q) (by omega) CA hCA (by rw [hCs]; simp; omega)
              have hnl' : ns.length = (n - q) * 3 := hnl
              have HNL := hd hnl'
              have HCA := hd hCA
              have HCS := hd hCs
              have HCT := hd hCt
              obtain ⟨NEW, hNEW⟩ : ∃ NEW, (CA.toList.take (q * 3) ++ ns ++ CA.toList.drop (q * 3 + ns.length)).toArray = NEW := ⟨_, rfl⟩
              rw [hNEW] at hclr
              have HNEW := hd hNEW
              clear hnl hnl' hCA hCs hCt hNEW
              go_wp2
              go_ret
              refine ⟨⟨q, rfl, ?_, ?_⟩, ?_⟩
              · rw [← HD.o]; exact HI.o.hq
              · have hcl := HI.o.len
                have h4 : (fsE (dedup l)).length = q * 3 := by
                  rw [show (fsE (dedup l)).length = (dedup l).length * 3 from flat_length fEnc 3 fEnc_len _, ← HD.o, ← HI.o.hq]
                refine Row.of_block (HCA.o.setRow _) hgS (by omega) (by unfold maxLen; omega) ?_ ?_ h4
                · rw [← HNEW.o]
                  simp only [List.size_toArray, List.length_append, List.length_take, List.length_drop, Array.length_toList]
                  rw [HCS.o, HNL.o]; omega
                · rw [← HNEW.o]
                  have h5 : CA.toList.take (q * 3) = fsE (dedup l) := by
                    have : CA.toList.take (q * 3) = (fsE cur).take (q * 3) := by
                      rw [← HCT.o, List.take_take, Nat.min_eq_left (by omega)]
                    rw [this, show (fsE cur).take (q * 3) = fsE (cur.take q) from flat_take fEnc 3 fEnc_len cur q, HI.o.d, HD.o]
                  show List.take (q * 3) (List.take (q * 3) CA.toList ++ ns ++ List.drop (q * 3 + ns.length) CA.toList) = _
                  rw [h5, List.append_assoc, List.take_append_of_le_length (by rw [h4]; exact Nat.le_refl _), List.take_of_length_le (by rw [h4]; exact Nat.le_refl _)]
              · exact HCI.o.setRow (.inl rfl) _
        · have HNE := hd hyx
          clear hyx HNE0
          rcases hcase with he | he | ⟨he1, he2⟩ | ⟨he1, he2, he3⟩
          · exact absurd he HNE.o
          · have HN2 := hd (cpo_next HP.o hpl (by rw [HXY.o.1, HXY.o.2]; exact HNE.o))
            obtain ⟨xk, xl, xv⟩ := x
            obtain ⟨yk, yl, yv⟩ := y
            simp only at he
            clear HXY HNE
            go_wp2_with fail
            go_quiet (fail)
            go_wp2
            go_roundw
            case rel => exact ⟨p + 1, by go_num, by omega, HN2, hd (HRW.o.drewN _), hd (HC.o.drewN _)⟩
            case measure => simp [RowKit.intOf]; omega
          · have HN2 := hd (cpo_next HP.o hpl (by rw [HXY.o.1, HXY.o.2]; exact HNE.o))
            obtain ⟨xk, xl, xv⟩ := x
            obtain ⟨yk, yl, yv⟩ := y
            simp only at he1 he2
            clear HXY HNE
            subst he1
            go_wp2_with fail
            go_quiet (fail)
            go_wp2
            go_roundw
            case rel => exact ⟨p + 1, by go_num, by omega, HN2, hd (HRW.o.drewN _), hd (HC.o.drewN _)⟩
            case measure => simp [RowKit.intOf]; omega
          · have HN2 := hd (cpo_next HP.o hpl (by rw [HXY.o.1, HXY.o.2]; exact HNE.o))
            obtain ⟨xk, xl, xv⟩ := x
            obtain ⟨yk, yl, yv⟩ := y
            simp only at he1 he2 he3
            clear HXY HNE
            subst he1 he2
            go_wp2_with fail
            go_quiet (fail)
            go_wp2
            go_roundw
            case rel => exact ⟨p + 1, by go_num, by omega, HN2, hd (HRW.o.drewN _), hd (HC.o.drewN _)⟩
            case measure => simp [RowKit.intOf]; omega
      · have hlti : decide (((p + 1 : Nat) : Int) < (n : Int)) = false := by simp; omega
        have HD := hd (show dedup l = l by
          have := HP.o
          unfold Cpo at this
          rwa [List.take_of_length_le (by rw [← HN.o]; omega)] at this)
        go_wp2
        go_ret
        exact ⟨⟨n, rfl, by rw [HD.o]; exact HN.o, by rw [HD.o]; exact HRW.o⟩, HC.o⟩

end Go.Proofs.YtfacfdjapjhpeaaGreatDoor
namespace Go.Proofs.YtfacfdjapjhpeaaGreatDoor
open Go.Shelf
def lays166_ren : Go.Shelf.Ren := ⟨fun | 166 => 206 | 240 => 231 | 276 => 257 | n => n, fun | 70 => 274 | 9 => 9 | 3 => 3 | 75 => 279 | 0 => 0 | 72 => 277 | 37 => 275 | 4 => 4 | 164 => 316 | 80 => 283 | 5 => 5 | n => n, fun | n => n⟩
theorem lays166 : Go.Proofs.Lays.n166 Tryz.prog lays166_ren := {
  mixed := by kernel_rfl
  f166 := Tryz.func206.trans (congrArg some (by kernel_rfl))
  f240 := Tryz.func231.trans (congrArg some (by kernel_rfl))
  f276 := Tryz.func257.trans (congrArg some (by kernel_rfl))
  t0 := Tryz.underlying0
  a0 := Tryz.isAgg0
  z0 := Tryz.sizeOf0
  v0 := Tryz.zeroValue0
  t3 := Tryz.underlying3
  a3 := Tryz.isAgg3
  z3 := Tryz.sizeOf3
  v3 := Tryz.zeroValue3
  t4 := Tryz.underlying4
  a4 := Tryz.isAgg4
  z4 := Tryz.sizeOf4
  v4 := Tryz.zeroValue4
  t9 := Tryz.underlying9
  a9 := Tryz.isAgg9
  z9 := Tryz.sizeOf9
  v9 := Tryz.zeroValue9
  t20 := Tryz.underlying20
  a20 := Tryz.isAgg20
  z20 := Tryz.sizeOf20
  v20 := Tryz.zeroValue20
  t37 := Tryz.underlying275
  a37 := Tryz.isAgg275
  z37 := Tryz.sizeOf275
  v37 := Tryz.zeroValue275
  t70 := Tryz.underlying274
  a70 := Tryz.isAgg274
  z70 := Tryz.sizeOf274
  v70 := Tryz.zeroValue274
  t72 := Tryz.underlying277
  a72 := Tryz.isAgg277
  z72 := Tryz.sizeOf277
  v72 := Tryz.zeroValue277
  t75 := Tryz.underlying279
  a75 := Tryz.isAgg279
  z75 := Tryz.sizeOf279
  v75 := Tryz.zeroValue279
  t164 := Tryz.underlying316
  a164 := Tryz.isAgg316
  z164 := Tryz.sizeOf316
  v164 := Tryz.zeroValue316 }
def lays167_ren : Go.Shelf.Ren := ⟨fun | 167 => 207 | 240 => 231 | 276 => 257 | n => n, fun | 70 => 274 | 5 => 5 | 75 => 279 | 0 => 0 | 72 => 277 | 37 => 275 | 4 => 4 | 164 => 316 | 80 => 283 | 9 => 9 | n => n, fun | n => n⟩
theorem lays167 : Go.Proofs.Lays.n167 Tryz.prog lays167_ren := {
  mixed := by kernel_rfl
  f167 := Tryz.func207.trans (congrArg some (by kernel_rfl))
  f240 := Tryz.func231.trans (congrArg some (by kernel_rfl))
  f276 := Tryz.func257.trans (congrArg some (by kernel_rfl))
  t0 := Tryz.underlying0
  a0 := Tryz.isAgg0
  z0 := Tryz.sizeOf0
  v0 := Tryz.zeroValue0
  t4 := Tryz.underlying4
  a4 := Tryz.isAgg4
  z4 := Tryz.sizeOf4
  v4 := Tryz.zeroValue4
  t5 := Tryz.underlying5
  a5 := Tryz.isAgg5
  z5 := Tryz.sizeOf5
  v5 := Tryz.zeroValue5
  t9 := Tryz.underlying9
  a9 := Tryz.isAgg9
  z9 := Tryz.sizeOf9
  v9 := Tryz.zeroValue9
  t20 := Tryz.underlying20
  a20 := Tryz.isAgg20
  z20 := Tryz.sizeOf20
  v20 := Tryz.zeroValue20
  t37 := Tryz.underlying275
  a37 := Tryz.isAgg275
  z37 := Tryz.sizeOf275
  v37 := Tryz.zeroValue275
  t70 := Tryz.underlying274
  a70 := Tryz.isAgg274
  z70 := Tryz.sizeOf274
  v70 := Tryz.zeroValue274
  t72 := Tryz.underlying277
  a72 := Tryz.isAgg277
  z72 := Tryz.sizeOf277
  v72 := Tryz.zeroValue277
  t75 := Tryz.underlying279
  a75 := Tryz.isAgg279
  z75 := Tryz.sizeOf279
  v75 := Tryz.zeroValue279
  t164 := Tryz.underlying316
  a164 := Tryz.isAgg316
  z164 := Tryz.sizeOf316
  v164 := Tryz.zeroValue316 }
def lays169_ren : Go.Shelf.Ren := ⟨fun | 169 => 208 | n => n, fun | 70 => 274 | 9 => 9 | 0 => 0 | 72 => 277 | 37 => 275 | 127 => 300 | 3 => 3 | 5 => 5 | n => n, fun | n => n⟩
theorem lays169 : Go.Proofs.Lays.n169 Tryz.prog lays169_ren := {
  mixed := by kernel_rfl
  f169 := Tryz.func208.trans (congrArg some (by kernel_rfl))
  t0 := Tryz.underlying0
  a0 := Tryz.isAgg0
  z0 := Tryz.sizeOf0
  v0 := Tryz.zeroValue0
  t3 := Tryz.underlying3
  a3 := Tryz.isAgg3
  z3 := Tryz.sizeOf3
  v3 := Tryz.zeroValue3
  t9 := Tryz.underlying9
  a9 := Tryz.isAgg9
  z9 := Tryz.sizeOf9
  v9 := Tryz.zeroValue9
  t37 := Tryz.underlying275
  a37 := Tryz.isAgg275
  z37 := Tryz.sizeOf275
  v37 := Tryz.zeroValue275
  t70 := Tryz.underlying274
  a70 := Tryz.isAgg274
  z70 := Tryz.sizeOf274
  v70 := Tryz.zeroValue274
  t72 := Tryz.underlying277
  a72 := Tryz.isAgg277
  z72 := Tryz.sizeOf277
  v72 := Tryz.zeroValue277
  t127 := Tryz.underlying300
  a127 := Tryz.isAgg300
  z127 := Tryz.sizeOf300
  v127 := Tryz.zeroValue300 }
end Go.Proofs.YtfacfdjapjhpeaaGreatDoor
namespace Go.Proofs.YtfacfdjapjhpeaaGreatDoor
open Go.RowKit Go.Shelf

theorem bX166 : Builder.Extra Tryz.prog lays166_ren where
  sizeBuilder := by kernel_rfl
  liesBuilder := by kernel_rfl
  t5 := Tryz.underlying5
  a5 := Tryz.isAgg5
  z5 := Tryz.sizeOf5
  v5 := Tryz.zeroValue5
  infoByte := by kernel_rfl
  cellsByte := by kernel_rfl
  sizeByte := by kernel_rfl
  neB5 := by decide
theorem bX167 : Builder.Extra Tryz.prog lays167_ren where
  sizeBuilder := by kernel_rfl
  liesBuilder := by kernel_rfl
  t5 := Tryz.underlying5
  a5 := Tryz.isAgg5
  z5 := Tryz.sizeOf5
  v5 := Tryz.zeroValue5
  infoByte := by kernel_rfl
  cellsByte := by kernel_rfl
  sizeByte := by kernel_rfl
  neB5 := by decide
theorem bX169 : Builder.Extra Tryz.prog lays169_ren where
  sizeBuilder := by kernel_rfl
  liesBuilder := by kernel_rfl
  t5 := Tryz.underlying5
  a5 := Tryz.isAgg5
  z5 := Tryz.sizeOf5
  v5 := Tryz.zeroValue5
  infoByte := by kernel_rfl
  cellsByte := by kernel_rfl
  sizeByte := by kernel_rfl
  neB5 := by decide
/-- The builder, its bytes. -/
def Bld (b : Nat) (l : List UInt8) (w : World) : Prop := Lib.IsBuilder 277 5 b b (Lib.byteCells l) w
theorem Bld.new (w : World) : Bld w.heap.size [] (w.alloc (.cells #[.pointer none, .slice none 0 0] 277)) := Lib.fresh_isBuilder _ _ w
theorem bat_below {T e : TypeId} {B b : Nat} {p : Value} {xs : List Value} {w w' : World} (h : Lib.BuilderAt T e B b p xs w) (hb : Below w.heap.size w w') : Lib.BuilderAt T e B b p xs w' := by
  have hlt := h.lt
  obtain ⟨hB, v, hbk, hown, hne⟩ := h
  refine ⟨hB, v, (hb.block b hlt).trans hbk, ⟨hown.1, ?_⟩, hne⟩
  rcases hown.2 with h | ⟨g, cap, cur, hv, h1, h2, h3⟩
  · exact .inl h
  · exact .inr ⟨g, cap, cur, hv, h1, (hb.block g (by
      rcases Nat.lt_or_ge g w.heap.size with h' | h'
      · exact h'
      · simp [Array.getElem?_eq_none h'] at h2)).trans h2, h3⟩
theorem Bld.below {b : Nat} {l : List UInt8} {w w' : World} (h : Bld b l w) (hb : Below w.heap.size w w') : Bld b l w' :=
  h.elim (fun h => .inl (bat_below h hb)) (fun h => .inr (bat_below h hb))
theorem Bld.size {b : Nat} {l : List UInt8} {w : World} (h : Bld b l w) : b < w.heap.size := h.elim Lib.BuilderAt.lt Lib.BuilderAt.lt
theorem bc_app (a b : List UInt8) : Lib.byteCells (a ++ b) = Lib.byteCells a ++ Lib.byteCells b := by simp [Lib.byteCells]
theorem ws_calls (b : Nat) (l s : List UInt8) (w : World) (h : Bld b l w) (hl : l.length ≤ 1000000) (hs : s.length ≤ 1000000) :
    Calls Tryz.prog 206 #[.pointer (some ⟨b, 0, none⟩), .string (bs s)] w fun e w' => e = .returned (.tuple #[.int .i64 (bs s).size, .nilIface]) ∧ Bld b (l ++ s) w' ∧ Below b w w' := by
  refine (Any.Builder_WriteString lays166 bX166 b b (Lib.byteCells l) (bs s) w h (by rw [Lib.byteCells_length, bs_size]; omega) (Nat.le_of_lt h.size)).mono ?_
  rintro e w' ⟨rfl, h1, h2⟩
  refine ⟨rfl, .inr ?_, h2⟩
  rw [bc_app]
  exact h1
theorem wb_calls (b : Nat) (l : List UInt8) (c : UInt8) (w : World) (h : Bld b l w) (hl : l.length ≤ 1000000) :
    Calls Tryz.prog 207 #[.pointer (some ⟨b, 0, none⟩), .int .u8 c.toNat] w fun e w' => e = .returned .nilIface ∧ Bld b (l ++ [c]) w' ∧ Below b w w' := by
  refine (Any.Builder_WriteByte lays167 bX167 b b (Lib.byteCells l) c.toNat w h (by rw [Lib.byteCells_length]; omega) (Nat.le_of_lt h.size)).mono ?_
  rintro e w' ⟨rfl, h1, h2⟩
  refine ⟨rfl, .inr ?_, h2⟩
  rw [bc_app]
  exact h1
theorem bstr_calls (b : Nat) (l : List UInt8) (w : World) (h : Bld b l w) :
    Calls Tryz.prog 208 #[.pointer (some ⟨b, 0, none⟩)] w fun e w' => e = .returned (.string (bs l)) ∧ Below b w w' :=
  Any.Builder_String_any lays169 bX169 b b l w h (Nat.le_of_lt h.size)

set_option maxRecDepth 100000 in
set_option maxHeartbeats 2000000 in
theorem text_calls (w : World) (ht : Tbs w) (A : Option Addr) (n c : Nat) (l : List Fld) (hn : n = l.length) (hr : Rds w A n 3 (fsE l)) (hb : n ≤ 1000) (hm : ∀ f ∈ l, f.v.length ≤ 1000000) :
    Calls Tryz.prog 183 #[.slice A n c] w fun e w' => e = .returned (.string (bs (textL l))) ∧ Below w.heap.size w w' := by
  have HN := hd hn
  have HR := hd hr
  have HM := hd hm
  have HT := hd (fun W (h : Below w.heap.size w W) => ht.below h)
  clear hn hr hm ht
  obtain ⟨X, hX⟩ : ∃ X, X = w.alloc (.cells #[.pointer none, .slice none 0 0] 277) := ⟨_, rfl⟩
  have HBX := hd (show Bld w.heap.size [] X by rw [hX]; exact Bld.new w)
  have HX := hd (show Below w.heap.size w X by rw [hX]; exact (Below.refl _ w).alloc (Nat.le_refl _) _)
  have hx := hd hX
  clear hX
  go_enter Tryz.func183, Tryz.ntmps183
  go_wp2_with fail
  rw [← hx.o]
  go_loopw [8, 5] (fun i _ wr => ∃ k : Nat, i = .int .i64 k ∧ k ≤ n ∧ Hd (Bld w.heap.size (textL (l.take k)) wr) ∧ Hd (Below w.heap.size w wr)) (fun i _ _ => n - (RowKit.intOf i).toNat)
  case atStart => exact ⟨0, rfl, Nat.zero_le _, HBX, HX⟩
  case round =>
    obtain ⟨k, rfl, hk, HB, HW⟩ := hrel
    obtain ⟨wi, rfl⟩ : ∃ wi : World, wi = wr := ⟨_, rfl⟩
    by_cases hlt : k < n
    · have hlti : decide ((k : Int) < (n : Int)) = true := by simp; omega
      have hkl : k < l.length := by rw [← HN.o]; exact hlt
      obtain ⟨f, hf⟩ : ∃ f, l[k]'hkl = f := ⟨_, rfl⟩
      have hfm := HM.o f (by rw [← hf]; exact List.getElem_mem _)
      have HNX := hd (textL_take l k hkl)
      rw [hf] at HNX
      have hr2 := HR.o.below HW.o
      obtain ⟨g, o, rfl, hg, hc⟩ := hr2.at_ (by omega)
      have hcf : ∀ t u, t < 3 → (fEnc f)[t]? = some u → wi.cell? ⟨g, o + k * 3 + t, none⟩ = some u := fun t u ht hv => by
        rw [Nat.add_assoc]
        exact hc _ _ ((fsE_at l k hkl t ht).trans (by rw [hf]; exact hv))
      have c0 := hcf 0 _ (by omega) rfl
      have c1 := hcf 1 _ (by omega) rfl
      have c2 := hcf 2 _ (by omega) rfl
      rw [Nat.add_zero] at c0
      clear hcf hc hr2
      have hlen := textL_len (l.take k)
      rw [List.length_take] at hlen
      have hll := line_len f
      have C1 := fline_calls f hfm
      obtain ⟨L, hL⟩ : ∃ L, lineF f = L := ⟨_, rfl⟩
      rw [hL] at C1 hll
      have HL := hd hL
      obtain ⟨fk, fl, fv⟩ := f
      simp only [fldV] at C1
      have K1 := hd C1
      have HBB := hd (HW.o.alloc HW.o.size (.cells #[.int .i64 fk, .int .i64 fl, .string (bs fv)] 230))
      have HBL := hd (HB.o.below ((Below.refl _ wi).alloc (Nat.le_refl _) (.cells #[.int .i64 fk, .int .i64 fl, .string (bs fv)] 230)))
      have HTT := hd (HT.o _ HBB.o)
      clear C1 hL hf hfm
      go_wp2_with fail
      refine (K1.o _ HTT.o).mono ?_
      rintro e w2 ⟨rfl, hb2⟩
      have HB2 := hd (HBL.o.below hb2)
      have HW2 := hd (HBB.o.trans (hb2.mono HBB.o.size))
      clear hb2 c0 c1 c2
      go_wp2_with fail
      refine (ws_calls _ _ L w2 HB2.o (by omega) (by omega)).mono ?_
      rintro e w3 ⟨rfl, hb3, hw3⟩
      have HB3 := hd hb3
      have HW3 := hd (HW2.o.trans hw3)
      clear hb3 hw3
      go_wp2_with fail
      refine (wb_calls _ _ 10 w3 HB3.o (by rw [List.length_append]; omega)).mono ?_
      rintro e w4 ⟨rfl, hb4, hw4⟩
      have HB4 := hd (show Bld w.heap.size (textL (l.take (k + 1))) w4 by rw [HNX.o, HL.o, ← List.append_assoc]; exact hb4)
      have HW4 := hd (HW3.o.trans hw4)
      clear hb4 hw4
      go_wp2
      go_roundw
      case rel => exact ⟨k + 1, by go_num, by omega, HB4, HW4⟩
      case measure => simp [RowKit.intOf]; omega
    · have hlti : decide ((k : Int) < (n : Int)) = false := by simp; omega
      have HB2 := hd (show Bld w.heap.size (textL l) wi by
        have := HB.o
        rwa [List.take_of_length_le (by rw [← HN.o]; omega)] at this)
      go_wp2_with fail
      refine (bstr_calls _ _ wi HB2.o).mono ?_
      rintro e w2 ⟨rfl, hb2⟩
      have HW2 := hd (HW.o.trans hb2)
      clear hb2
      go_wp2
      go_ret
      exact ⟨rfl, HW2.o⟩

end Go.Proofs.YtfacfdjapjhpeaaGreatDoor
namespace Go.Proofs.YtfacfdjapjhpeaaGreatDoor
open Go.RowKit

theorem fInfo : (Tryz.prog.info? 230).map (fun i => (i.zero, i.size, i.bytes)) = some (some (.agg #[.int .i64 0, .int .i64 0, .string ⟨#[]⟩]), 3, 32) := by kernel_rfl
theorem cntK_take (q : Int) (l : List Fld) (k : Nat) (h : k < l.length) : cntK q (l.take (k + 1)) = cntK q (l.take k) + (if l[k].k = q then 1 else 0) := by
  unfold cntK
  rw [List.take_succ_eq_append_getElem h, List.countP_append]
  congr 1
  by_cases c : l[k].k = q <;> simp [c]
/-- The counts of kinds. -/
structure Cnts (w : World) (b : Nat) (l : List Fld) (cs : Array Value) : Prop where
  blk : Blk w b 271 cs
  size : cs.size = 7
  at_ : ∀ j : Nat, j < 7 → cs[j]? = some (.int .i64 (cntK j l : Nat))
theorem Cnts.up {w : World} {b : Nat} {l : List Fld} {cs : Array Value} {k : Nat} (h : Cnts w b (l.take k) cs) (hk : k < l.length) {q : Nat} (hq : l[k].k = q) (h7 : q < 7) {w' : World} (hw : Blk w' b 271 cs) :
    Cnts (w'.setCell ⟨b, q, none⟩ (.int .i64 ((cntK q (l.take k) : Nat) + 1))) b (l.take (k + 1)) (cs.setIfInBounds q (.int .i64 ((cntK q (l.take k) : Nat) + 1))) := by
  refine ⟨hw.set_ q _, by simpa using h.size, fun j hj => ?_⟩
  have := h.at_ j hj
  by_cases e : j = q
  · subst e
    rw [Array.getElem?_setIfInBounds_self_of_lt (by rw [h.size]; exact h7), cntK_take _ _ _ hk, if_pos hq]
    rfl
  · rw [Array.getElem?_setIfInBounds_ne (by omega), this, cntK_take _ _ _ hk, if_neg (by rw [hq]; omega)]
    rfl
theorem Cnts.alloc {w : World} {b : Nat} {l : List Fld} {cs : Array Value} (h : Cnts w b l cs) (o : Obj) : Cnts (w.alloc o) b l cs := ⟨h.blk.alloc o, h.size, h.at_⟩
theorem cnt_le (q : Int) (l : List Fld) : cntK q l ≤ l.length := List.countP_le_length
theorem errL_take : ∀ (l : List Fld) (k : Nat) (h : k < l.length), (∀ f ∈ l.take k, fldE f = 0) → fldE l[k] ≠ 0 → errL l = fldE l[k]
  | [], k, h, _, _ => by simp at h
  | a :: t, 0, _, _, h => by
    have h : fldE a ≠ 0 := h
    show (if fldE a = 0 then errL t else fldE a) = fldE a
    rw [if_neg h]
  | a :: t, k + 1, h, h1, h2 => by
    have ha : fldE a = 0 := h1 a (by simp)
    show (if fldE a = 0 then errL t else fldE a) = _
    rw [if_pos ha]
    exact errL_take t k (by simpa using h) (fun f hf => h1 f (by simp [hf])) h2
theorem card_err {l : List Fld} (h : errL l ≠ 0) : cardE l = errL l ∧ cardC l = [] := by
  have : cardE l = errL l := by unfold cardE; rw [if_pos h]
  exact ⟨this, by unfold cardC; rw [if_neg (by rw [this]; exact h)]⟩
theorem card_many {l : List Fld} (h : errL l = 0) (h2 : 12 < (cans l).length) : cardE l = 2 ∧ cardC l = [] := by
  have : cardE l = 2 := by unfold cardE; rw [if_neg (by simp [h]), if_pos h2]
  exact ⟨this, by unfold cardC; rw [if_neg (by omega)]⟩
theorem card_cnt {l : List Fld} (h : errL l = 0) (h2 : ¬ 12 < (cans l).length) (h3 : ¬ CntP (cans l)) : cardE l = 1 ∧ cardC l = [] := by
  have : cardE l = 1 := by unfold cardE; rw [if_neg (by simp [h]), if_neg h2, if_pos h3]
  exact ⟨this, by unfold cardC; rw [if_neg (by omega)]⟩
theorem card_long {l : List Fld} (h : errL l = 0) (h2 : ¬ 12 < (cans l).length) (h3 : CntP (cans l)) (h4 : 900 < (textL (cans l)).length) : cardE l = 2 ∧ cardC l = [] := by
  have : cardE l = 2 := by unfold cardE; rw [if_neg (by simp [h]), if_neg h2, if_neg (by simpa using h3), if_pos h4]
  exact ⟨this, by unfold cardC; rw [if_neg (by omega)]⟩
theorem card_good {l : List Fld} (h : errL l = 0) (h2 : ¬ 12 < (cans l).length) (h3 : CntP (cans l)) (h4 : ¬ 900 < (textL (cans l)).length) : cardE l = 0 ∧ cardC l = cans l := by
  have : cardE l = 0 := cardE_of h (by omega) h3 (by omega)
  exact ⟨this, by unfold cardC; rw [if_pos this]⟩
theorem ret2 {A : Option Addr} {m c : Nat} {a b : Int} (h : a = b) : Ending.returned (.tuple #[.slice A m c, .int .i64 a]) = .returned (.tuple #[.slice A m c, .int .i64 b]) := by rw [h]
/-- What Canon hands back. -/
structure CanR (w : World) (l : List Fld) (e : Ending) (w' : World) : Prop where
  o : ∃ (A : Option Addr) (m c : Nat), e = .returned (.tuple #[.slice A m c, .int .i64 (cardE l)]) ∧ m = (cardC l).length ∧ Row w' (From w.heap.size) 230 3 A m c (fsE (cardC l)) ∧ Below w.heap.size w w'
theorem CanR.no {w w' : World} {l : List Fld} {k : Int} (h : cardE l = k ∧ cardC l = []) (hb : Below w.heap.size w w') : CanR w l (.returned (.tuple #[.slice none 0 0, .int .i64 k])) w' :=
  ⟨⟨none, 0, 0, ret2 h.1.symm, by rw [h.2]; rfl, by rw [h.2]; exact Row.nil _ _ _ _, hb⟩⟩

set_option maxRecDepth 100000 in
set_option maxHeartbeats 8000000 in
theorem ccanon_calls (w : World) (ht : Tbs w) (A : Option Addr) (n c : Nat) (l : List Fld) (hn : n = l.length) (hr : Rds w A n 3 (fsE l)) (hb : n ≤ 1000) (hm : ∀ f ∈ l, f.v.length ≤ 1000000) :
    Calls Tryz.prog 182 #[.slice A n c] w fun e w' => CanR w l e w' := by
  obtain ⟨i0, hi, hz0, hz1, hz2⟩ := info_parts fInfo
  have HN := hd hn
  have HR := hd hr
  have HM := hd hm
  have HT := hd (fun W (h : Below w.heap.size w W) => ht.below h)
  clear hn hr hm ht
  go_enter Tryz.func182, Tryz.ntmps182
  go_wp2_with fail
  go_loopw [14, 6, 7, 8, 4, 2, 3] (fun i _ _ _ out _ _ wr => ∃ (k : Nat) (B : Option Addr) (d : Nat), i = .int .i64 k ∧ k ≤ n ∧ out = .slice B k d ∧ Hd (∀ f ∈ l.take k, fldE f = 0) ∧ Hd (Row wr (From w.heap.size) 230 3 B k d (fsE ((l.take k).map fldC))) ∧ Hd (Below w.heap.size w wr)) (fun i _ _ _ _ _ _ _ => n - (RowKit.intOf i).toNat)
  case atStart => exact ⟨0, none, 0, rfl, Nat.zero_le _, rfl, hd (fun f hf => by simp at hf), hd (Row.nil _ _ _ _), hd (Below.refl _ _)⟩
  case round =>
    obtain ⟨k, B, d, rfl, hk, rfl, HE, HO, HW⟩ := hrel
    obtain ⟨wi, rfl⟩ : ∃ wi : World, wi = wr := ⟨_, rfl⟩
    by_cases hlt : k < n
    · have hlti : decide ((k : Int) < (n : Int)) = true := by simp; omega
      have hkl : k < l.length := by rw [← HN.o]; exact hlt
      obtain ⟨f, hf⟩ : ∃ f, l[k]'hkl = f := ⟨_, rfl⟩
      have hfm := HM.o f (by rw [← hf]; exact List.getElem_mem _)
      have HF := hd hf
      have hr2 := HR.o.below HW.o
      obtain ⟨g, o, rfl, hg, hc⟩ := hr2.at_ (by omega)
      have hcf : ∀ t u, t < 3 → (fEnc f)[t]? = some u → wi.cell? ⟨g, o + k * 3 + t, none⟩ = some u := fun t u ht hv => by
        rw [Nat.add_assoc]
        exact hc _ _ ((fsE_at l k hkl t ht).trans (by rw [hf]; exact hv))
      have c0 := hcf 0 _ (by omega) rfl
      have c1 := hcf 1 _ (by omega) rfl
      have c2 := hcf 2 _ (by omega) rfl
      rw [Nat.add_zero] at c0
      clear hcf hc hr2 hf
      have C1 := fcanon_calls f hfm
      obtain ⟨r, hr⟩ : ∃ r, fldC f = r := ⟨_, rfl⟩
      obtain ⟨re, hre⟩ : ∃ re, fldE f = re := ⟨_, rfl⟩
      rw [hr, hre] at C1
      have HRF := hd hr
      have HRE := hd hre
      obtain ⟨fk, fl, fv⟩ := f
      obtain ⟨rk, rl, rv⟩ := r
      simp only [fldV, fldR] at C1
      have K1 := hd C1
      have HBB := hd (HW.o.alloc HW.o.size (.cells #[.int .i64 fk, .int .i64 fl, .string (bs fv)] 230))
      have HRB := hd (HO.o.alloc (.cells #[.int .i64 fk, .int .i64 fl, .string (bs fv)] 230))
      have HTT := hd (HT.o _ HBB.o)
      clear C1 hr hre hfm
      by_cases he : re = 0
      · subst he
        go_wp2_with fail
        refine (K1.o _ HTT.o).mono ?_
        rintro e w2 ⟨rfl, hb2⟩
        have HR2 := hd (HRB.o.below hb2)
        have HW2 := hd (HBB.o.trans (hb2.mono HBB.o.size))
        have hsz := HW2.o.size
        clear hb2 c0 c1 c2
        go_wp2_with (at_builtin; go_loud (refine wpList_append_row rfl _ _ 198 rfl (From w.heap.size) 230 i0 (.agg #[.int .i64 0, .int .i64 0, .string ⟨#[]⟩]) 3 32 Tryz.underlying198 hi hz0 hz1 hz2 rfl B k d (fsE ((l.take k).map fldC)) rfl ((HR2.o.alloc _).alloc _) ⟨_, 0, none⟩ 1 1 [.int .i64 rk, .int .i64 rl, .string (bs rv)] rfl rfl (cells_at (Blk.new_ _ _ (by simp) _ _) rfl) (by simp [Value.oneCell']) (by omega) (by unfold maxLen; omega) (by omega) ?_; intro A2 c2 w3 hown3 hchg3))
        go_roundw
        case rel =>
          refine ⟨k + 1, A2, c2, by go_num, by omega, rfl, hd (fun f hf => ?_), hd ?_, hd ?_⟩
          · rw [List.take_succ_eq_append_getElem hkl] at hf
            rcases List.mem_append.1 hf with hf | hf
            · exact HE.o f hf
            · rw [List.mem_singleton.1 hf, HF.o]; exact HRE.o
          · rw [show fsE ((l.take (k + 1)).map fldC) = fsE ((l.take k).map fldC) ++ [.int .i64 rk, .int .i64 rl, .string (bs rv)] by
              rw [List.take_succ_eq_append_getElem hkl, List.map_append, fsE_app, HF.o]
              simp [fsE, HRF.o, fEnc]]
            exact hown3.mono (fun q hq => by
              rcases hq with hq | hq
              · exact hq
              · simp at hq; show w.heap.size ≤ q; omega)
          · exact HW2.o.trans ((((Chg.refl (From w.heap.size) w2).alloc _).alloc _).trans hchg3 (fun q hq => .inl hq) |>.below (fun _ h => h) hsz)
        case measure => simp [RowKit.intOf]; omega
      · have nE : (re != 0) = true := by simpa using he
        have HCE := hd (card_err (l := l) (by
          rw [errL_take l k hkl HE.o (by rw [HF.o, HRE.o]; exact he), HF.o, HRE.o]; exact he))
        have HCV := hd (errL_take l k hkl HE.o (by rw [HF.o, HRE.o]; exact he))
        rw [HF.o, HRE.o] at HCV
        clear he
        go_wp2_with fail
        refine (K1.o _ HTT.o).mono ?_
        rintro e w2 ⟨rfl, hb2⟩
        have HW2 := hd (HBB.o.trans (hb2.mono HBB.o.size))
        clear hb2 c0 c1 c2
        go_wp2
        go_ret2
        exact CanR.no ⟨HCE.o.1.trans HCV.o, HCE.o.2⟩ (HW2.o.alloc HW2.o.size _)
    · have hlti : decide ((k : Int) < (n : Int)) = false := by simp; omega
      have hkn : k = n := by omega
      subst hkn
      have htk : l.take k = l := List.take_of_length_le (by rw [← HN.o]; exact Nat.le_refl _)
      rw [htk] at HE HO
      have HER := hd (errL_of HE.o)
      have HLM := hd (show k = (l.map fldC).length by rw [List.length_map]; exact HN.o)
      clear htk hlti
      go_wp2_with fail
      refine (sortFs_holds wi (From w.heap.size) B k d _ HLM.o HO.o (by omega)).mono ?_
      rintro e w2 ⟨rfl, ls, hp, hs, hr2, hc2⟩
      have HP := hd hp
      have HS := hd hs
      have HR2 := hd hr2
      have hsw := HW.o.size
      have HW2 := hd (HW.o.trans ((hc2.mono HO.o.of_sub).below (fun _ h => h) hsw))
      clear hp hs hr2 hc2 hsw
      go_wp2_with fail
      refine (compact_calls w2 (From w.heap.size) B k d ls (by rw [HP.o.length_eq]; exact HLM.o) HR2.o (by omega)).mono ?_
      rintro e w3 ⟨⟨m, rfl, hm, hr3⟩, hc3⟩
      have hcan : dedup ls = cans l := dedup_sorted HP.o (HS.o.imp (fun h => by simpa [lessF] using h))
      rw [hcan] at hm hr3
      have HMM := hd hm
      have HR3 := hd hr3
      have hsw := HW2.o.size
      have HW3 := hd (HW2.o.trans ((hc3.mono HR2.o.of_sub).below (fun _ h => h) hsw))
      have hml : m ≤ k := by
        rw [hm, HLM.o]; exact rise_len _
      clear hm hr3 hc3 hsw hcan
      obtain ⟨L, hL⟩ : ∃ L, cans l = L := ⟨_, rfl⟩
      have HL := hd hL
      have HMAY := hd (cans_may HER.o)
      rw [hL] at HMM HR3 HMAY
      clear hL
      by_cases h12 : 12 < m
      · have HCE := hd (card_many HER.o (by rw [HL.o, ← HMM.o]; exact h12))
        have h12i : (12 : Int) < (m : Int) := by omega
        go_wp2
        go_ret2
        exact CanR.no HCE.o HW3.o
      · have h12i : ¬ (12 : Int) < (m : Int) := by omega
        have HN12 := hd (show ¬ 12 < (cans l).length by rw [HL.o, ← HMM.o]; exact h12)
        obtain ⟨Y, hY⟩ : ∃ Y, Y = w3.alloc (.cells #[.int .i64 0, .int .i64 0, .int .i64 0, .int .i64 0, .int .i64 0, .int .i64 0, .int .i64 0] 271) := ⟨_, rfl⟩
        obtain ⟨b, hb⟩ : ∃ b, b = w3.heap.size := ⟨_, rfl⟩
        have HYB := hd (show Below w.heap.size w Y by rw [hY]; exact HW3.o.alloc HW3.o.size _)
        have HYR := hd (show Row Y (From w.heap.size) 230 3 B m d (fsE L) by rw [hY]; exact HR3.o.alloc _)
        have HYC := hd (show Cnts Y b (L.take 0) #[.int .i64 0, .int .i64 0, .int .i64 0, .int .i64 0, .int .i64 0, .int .i64 0, .int .i64 0] from ⟨by rw [hY]; exact Blk.new_ _ _ hb _ _, rfl, fun j hj => by
          match j, hj with
          | 0, _ => rfl
          | 1, _ => rfl
          | 2, _ => rfl
          | 3, _ => rfl
          | 4, _ => rfl
          | 5, _ => rfl
          | 6, _ => rfl⟩)
        have HBW := hd (show w.heap.size ≤ b by rw [hb]; exact HW3.o.size)
        have HYb := hd hb
        have HYy := hd hY
        clear hb hY
        go_wp2_with fail
        rw [← HYy.o, ← HYb.o]
        go_loopw [40, 11] (fun i _ wr => ∃ (q : Nat) (cs : Array Value), i = .int .i64 q ∧ q ≤ m ∧ Hd (Cnts wr b (L.take q) cs) ∧ Hd (Row wr (From w.heap.size) 230 3 B m d (fsE L)) ∧ Hd (Below w.heap.size w wr)) (fun i _ _ => m - (RowKit.intOf i).toNat)
        case atStart => exact ⟨0, _, rfl, Nat.zero_le _, HYC, HYR, HYB⟩
        case round =>
          obtain ⟨q, cs, rfl, hq, HC, HRQ, HWQ⟩ := hrel
          obtain ⟨wq, rfl⟩ : ∃ wq : World, wq = wr := ⟨_, rfl⟩
          by_cases hlt2 : q < m
          · have hlti : decide ((q : Int) < (m : Int)) = true := by simp; omega
            have hql : q < L.length := by rw [← HMM.o]; exact hlt2
            obtain ⟨f, hf⟩ : ∃ f, L[q]'hql = f := ⟨_, rfl⟩
            have hok := may_ok (HMAY.o f (by rw [← hf]; exact List.getElem_mem _))
            have hk6 : 1 ≤ f.k ∧ f.k ≤ 6 := by unfold okKL at hok; omega
            obtain ⟨kn, hkn⟩ : ∃ kn : Nat, f.k = kn := ⟨f.k.toNat, by omega⟩
            have hk7 : kn < 7 := by omega
            have hk7i : (kn : Int) < 7 := by omega
            have hk0i : (0 : Int) ≤ (kn : Int) := by omega
            have HFK := hd (show (L[q]'hql).k = (kn : Int) by rw [hf]; exact hkn)
            obtain ⟨g, hA, _, hg, _, _, hcl, _⟩ := HRQ.o.at_ (by omega)
            have hcf : ∀ t u, t < 3 → (fEnc f)[t]? = some u → wq.cell? ⟨g, q * 3 + t, none⟩ = some u := fun t u ht hv => hcl _ _ ((fsE_at L q hql t ht).trans (by rw [hf]; exact hv))
            have c0 := hcf 0 _ (by omega) rfl
            have c1 := hcf 1 _ (by omega) rfl
            have c2 := hcf 2 _ (by omega) rfl
            rw [Nat.add_zero] at c0
            have hne := HRQ.o.ne_blk HC.o.blk (by decide)
            have HNE := hd hne
            have cb := HC.o.blk.at_ kn (HC.o.at_ kn hk7)
            have fb := HC.o.blk.frozen kn
            have hblt := HC.o.blk.lt
            have hcle := cnt_le (kn : Int) (L.take q)
            rw [List.length_take] at hcle
            have HUP := hd (fun (W : World) (hw : Blk W b 271 cs) => HC.o.up hql HFK.o hk7 hw)
            obtain ⟨z, hz⟩ : ∃ z, cntK (kn : Int) (L.take q) = z := ⟨_, rfl⟩
            rw [hz] at cb hcle HUP
            have HBK := hd (HC.o.blk)
            obtain ⟨fk, fl, fv⟩ := f
            simp only at hkn
            subst hkn
            subst hA
            clear hcf hcl hf hok hk6 hne hz
            go_wp2
            go_roundw
            case rel =>
              refine ⟨q + 1, _, by go_num, by omega, hd ((HUP.o _ HBK.o).alloc _), hd ?_, hd ?_⟩
              · exact (HRQ.o.far (fun a ha => HNE.o a ha) _).alloc _
              · exact (HWQ.o.setCell HBW.o _).alloc (HWQ.o.setCell HBW.o _).size _
            case measure => simp [RowKit.intOf]; omega
          · have hlti : decide ((q : Int) < (m : Int)) = false := by simp; omega
            have hqm : q = m := by omega
            subst hqm
            have htk : L.take q = L := List.take_of_length_le (by rw [← HMM.o]; exact Nat.le_refl _)
            have b1 := HC.o.blk.at_ 1 (HC.o.at_ 1 (by omega))
            have b2 := HC.o.blk.at_ 2 (HC.o.at_ 2 (by omega))
            have b5 := HC.o.blk.at_ 5 (HC.o.at_ 5 (by omega))
            rw [htk] at b1 b2 b5
            have HCP := hd (show CntP L ↔ cntK ((1 : Nat) : Int) L = 1 ∧ cntK ((2 : Nat) : Int) L ≤ 1 ∧ cntK ((5 : Nat) : Int) L ≤ 1 from Iff.rfl)
            obtain ⟨z1, hz1⟩ : ∃ z, cntK ((1 : Nat) : Int) L = z := ⟨_, rfl⟩
            obtain ⟨z2, hz2⟩ : ∃ z, cntK ((2 : Nat) : Int) L = z := ⟨_, rfl⟩
            obtain ⟨z5, hz5⟩ : ∃ z, cntK ((5 : Nat) : Int) L = z := ⟨_, rfl⟩
            rw [hz1] at b1 HCP
            rw [hz2] at b2 HCP
            rw [hz5] at b5 HCP
            clear hz1 hz2 hz5 htk hlti
            by_cases e1 : z1 = 1
            · subst e1
              by_cases e2 : z2 ≤ 1
              · have e2i : ¬ (1 : Int) < (z2 : Int) := by omega
                by_cases e5 : z5 ≤ 1
                · have e5i : ¬ (1 : Int) < (z5 : Int) := by omega
                  have HCPL := hd (HCP.o.2 ⟨rfl, e2, e5⟩)
                  have HTX := hd (text_calls wq (HT.o _ HWQ.o) B q d L HMM.o HRQ.o.rds (by omega) (fun f hf => by have := may_len (HMAY.o f hf); omega))
                  obtain ⟨T, hT⟩ : ∃ T, textL L = T := ⟨_, rfl⟩
                  rw [hT] at HTX
                  have HTL := hd hT
                  have hts : (bs T).size = T.length := bs_size T
                  clear e2 e5 hT
                  by_cases h9 : 900 < T.length
                  · have HCE := hd (card_long HER.o HN12.o (by rw [HL.o]; exact HCPL.o) (by rw [HL.o, HTL.o]; exact h9))
                    have h9i : (900 : Int) < (T.length : Int) := by omega
                    go_wp2_with fail
                    refine HTX.o.mono ?_
                    rintro e w4 ⟨rfl, hb4⟩
                    have HW4 := hd (HWQ.o.trans (hb4.mono HWQ.o.size))
                    clear hb4
                    go_wp2
                    go_ret2
                    exact CanR.no HCE.o HW4.o
                  · have HCE := hd (card_good HER.o HN12.o (by rw [HL.o]; exact HCPL.o) (by rw [HL.o, HTL.o]; exact h9))
                    have h9i : ¬ (900 : Int) < (T.length : Int) := by omega
                    go_wp2_with fail
                    refine HTX.o.mono ?_
                    rintro e w4 ⟨rfl, hb4⟩
                    have HR4 := hd (HRQ.o.below hb4)
                    have HW4 := hd (HWQ.o.trans (hb4.mono HWQ.o.size))
                    clear hb4
                    go_wp2
                    go_ret2
                    exact ⟨⟨B, q, d, ret2 HCE.o.1.symm, by rw [HCE.o.2, HL.o]; exact HMM.o, by rw [HCE.o.2, HL.o]; exact HR4.o, HW4.o⟩⟩
                · have e5i : (1 : Int) < (z5 : Int) := by omega
                  have HCE := hd (card_cnt HER.o HN12.o (by rw [HL.o]; exact fun h => e5 (HCP.o.1 h).2.2))
                  clear e2 e5
                  go_wp2
                  go_ret2
                  exact CanR.no HCE.o HWQ.o
              · have e2i : (1 : Int) < (z2 : Int) := by omega
                have HCE := hd (card_cnt HER.o HN12.o (by rw [HL.o]; exact fun h => e2 (HCP.o.1 h).2.1))
                clear e2
                go_wp2
                go_ret2
                exact CanR.no HCE.o HWQ.o
            · have e1i : ((z1 : Int) != 1) = true := by simp; omega
              have HCE := hd (card_cnt HER.o HN12.o (by rw [HL.o]; exact fun h => e1 (HCP.o.1 h).1))
              clear e1
              go_wp2
              go_ret2
              exact CanR.no HCE.o HWQ.o

end Go.Proofs.YtfacfdjapjhpeaaGreatDoor
namespace Go.Proofs.YtfacfdjapjhpeaaGreatDoor
open Go.RowKit

theorem retTE2 {a b : ByteArray} {x y : Int} (h : a = b) (k : x = y) : Ending.returned (.tuple #[.string a, .int .i64 x]) = .returned (.tuple #[.string b, .int .i64 y]) := by rw [h, k]
theorem cardT_no {l : List Fld} (h : cardE l ≠ 0) : cardT l = [] := by unfold cardT; rw [if_neg h]
theorem cardT_ok {l : List Fld} (h : cardE l = 0) : cardT l = textL (cardC l) ∧ (cardC l).length ≤ 12 ∧ AllMay (cardC l) := by
  have h0 := cardE_0 h
  have hc : cardC l = cans l := by unfold cardC; rw [if_pos h]
  rw [hc]
  exact ⟨by unfold cardT; rw [if_pos h], h0.2.1, cans_may h0.1⟩

set_option maxRecDepth 100000 in
set_option maxHeartbeats 2000000 in
theorem ctext_calls (w : World) (ht : Tbs w) (A : Option Addr) (n c : Nat) (l : List Fld) (hn : n = l.length) (hr : Rds w A n 3 (fsE l)) (hb : n ≤ 1000) (hm : ∀ f ∈ l, f.v.length ≤ 1000000) :
    Calls Tryz.prog 159 #[.slice A n c] w fun e w' => e = .returned (.tuple #[.string (bs (cardT l)), .int .i64 (cardE l)]) ∧ Below w.heap.size w w' := by
  have C1 := hd (ccanon_calls w ht A n c l hn hr hb hm)
  have HT := hd (fun W (h : Below w.heap.size w W) => ht.below h)
  clear hn hr hm ht
  obtain ⟨T, hT⟩ : ∃ T, cardT l = T := ⟨_, rfl⟩
  have HTT := hd hT
  rw [hT]
  clear hT
  go_enter Tryz.func159, Tryz.ntmps159
  go_wp2_with fail
  refine C1.o.mono ?_
  rintro e w1 ⟨⟨B, m, d, rfl, hm, hr, hb1⟩⟩
  have HB1 := hd hb1
  have HM := hd hm
  have HR := hd hr
  clear hm hr hb1
  by_cases he : cardE l = 0
  · have HOK := hd (cardT_ok he)
    have hm12 : m ≤ 12 := by rw [HM.o]; exact HOK.o.2.1
    have C2 := hd (text_calls w1 (HT.o _ HB1.o) B m d (cardC l) HM.o HR.o.rds (by omega) (fun f hf => by have := may_len (HOK.o.2.2 f hf); omega))
    rw [← HOK.o.1, HTT.o] at C2
    have HE0 := hd he
    rw [he]
    clear he
    go_wp2_with fail
    refine C2.o.mono ?_
    rintro e w2 ⟨rfl, hb2⟩
    have HB2 := hd (HB1.o.trans (hb2.mono HB1.o.size))
    clear hb2
    go_wp2
    go_ret2
    exact ⟨retTE2 rfl HE0.o.symm, HB2.o⟩
  · have HNO := hd (cardT_no he)
    have nE : (cardE l != 0) = true := by simpa using he
    obtain ⟨ce, hce⟩ : ∃ ce, cardE l = ce := ⟨_, rfl⟩
    rw [hce] at nE
    rw [hce]
    have HCE := hd hce
    clear he hce
    go_wp2
    go_ret2
    exact ⟨retTE2 (by rw [← HTT.o, HNO.o]; rfl) HCE.o.symm, HB1.o⟩

end Go.Proofs.YtfacfdjapjhpeaaGreatDoor
