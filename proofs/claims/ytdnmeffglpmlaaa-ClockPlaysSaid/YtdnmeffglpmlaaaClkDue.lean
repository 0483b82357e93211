/-
  ClockDue, as a call: it returns true, whatever the acts.
-/
import Derived.Test.YtdnmeffglpmlaaaClkStays
namespace Go.Proofs.Ytdnmeffglpmlaaa
open Go.RowKit

theorem at_calls (w : World) (S : Nat → Prop) (b : Nat) (now who : Int) (al : Al) (h : Clk w S b now al) :
    Calls Try.prog 15 #[.pointer (some ⟨b, 0, none⟩), .int .i64 who] w fun e w' => e = .returned (.tuple (atPair al who)) ∧ Below w.heap.size w w' := by
  cases hp : posOf al who with
  | none => exact (at_none w S b now who al h hp).mono fun _ _ ⟨he, hb⟩ => ⟨by simpa [atPair, atOf, hp] using he, hb⟩
  | some i => exact (at_some w S b now who al i h hp).mono fun _ _ ⟨he, hb⟩ => ⟨by simpa [atPair, atOf, hp] using he, hb⟩

/-- What the law says of the list of those who are due. -/
structure DueList (v : Int) (al l : Al) : Prop where
  nod : Nod al
  perm : l.Perm (dueOf v al)
  sorted : l.Pairwise (fun x y => alLt y x = false)

theorem DueList.mem {v : Int} {al l : Al} (h : DueList v al l) (x : Int × Int) : x ∈ l ↔ x ∈ al ∧ x.2 ≤ v := by
  rw [h.perm.mem_iff, dueOf, List.mem_filter]
  simp
theorem DueList.at_ {v : Int} {al l : Al} (h : DueList v al l) (i : Nat) (hi : i < l.length) : atPair al (l[i]?.getD (0, 0)).1 = #[.int .i64 (l[i]?.getD (0, 0)).2, .bool true] ∧ (l[i]?.getD (0, 0)).2 ≤ v ∧ dueB al (l[i]?.getD (0, 0)).1 v = true := by
  have hm := (h.mem l[i]).1 (List.getElem_mem hi)
  have ha : atOf al l[i].1 = some l[i].2 := (atOf_iff h.nod _ _).2 hm.1
  simp only [List.getElem?_eq_getElem hi, Option.getD_some]
  exact ⟨by simp [atPair, ha], hm.2, by simp [dueB, ha, hm.2]⟩
theorem DueList.rise {v : Int} {al l : Al} (h : DueList v al l) (i : Nat) (hi : i + 1 < l.length) : (l[i]?.getD (0, 0)).2 < (l[i + 1]?.getD (0, 0)).2 ∨ ((l[i]?.getD (0, 0)).2 = (l[i + 1]?.getD (0, 0)).2 ∧ (l[i]?.getD (0, 0)).1 < (l[i + 1]?.getD (0, 0)).1) := by
  have hs := List.pairwise_iff_getElem.1 h.sorted i (i + 1) (by omega) hi (by omega)
  simp only [List.getElem?_eq_getElem hi, List.getElem?_eq_getElem (show i < l.length by omega), Option.getD_some]
  have hne : l[i].1 ≠ l[i + 1].1 := by
    intro he
    have hn : Nod l := by
      have : Nod (dueOf v al) := by
        have := h.nod
        unfold Nod at *
        exact this.sublist (List.filter_sublist.map _)
      unfold Nod at *
      exact (h.perm.map _).nodup_iff.2 this
    have := nod_uniq hn (show i < l.length by omega) hi he
    omega
  have hs' : ¬ alLt l[i + 1] l[i] = true := by simp [hs]
  rw [show (alLt l[i + 1] l[i] = true) = (l[i + 1].2 < l[i].2 ∨ (l[i + 1].2 = l[i].2 ∧ l[i + 1].1 < l[i].1)) by simp [alLt]] at hs'
  omega
theorem DueList.in_ {v : Int} {al l : Al} (h : DueList v al l) (who : Int) : (∃ j, j < l.length ∧ (l[j]?.getD (0, 0)).1 = who) ↔ dueB al who v = true := by
  constructor
  · rintro ⟨j, hj, rfl⟩
    exact (h.at_ j hj).2.2
  · intro hd
    unfold dueB at hd
    cases ha : atOf al who with
    | none => simp [ha] at hd
    | some y =>
      simp [ha] at hd
      have hm := (h.mem (who, y)).2 ⟨(atOf_iff h.nod _ _).1 ha, hd⟩
      obtain ⟨j, hj, he⟩ := List.getElem_of_mem hm
      exact ⟨j, hj, by simp [hj, he]⟩

/-- Is one among the first? -/
def inB (ll : Al) (k : Nat) (who : Int) : Bool := (ll.take k).any fun x => x.1 == who
theorem inB_iff (ll : Al) (k : Nat) (who : Int) : inB ll k who = true ↔ ∃ j, j < ll.length ∧ j < k ∧ (ll[j]?.getD (0, 0)).1 = who := by
  unfold inB
  rw [List.any_eq_true]
  constructor
  · rintro ⟨x, hx, h⟩
    obtain ⟨j, hj, rfl⟩ := List.getElem_of_mem hx
    have hj' : j < ll.length ∧ j < k := by rw [List.length_take] at hj; omega
    rw [List.getElem_take] at h
    exact ⟨j, hj'.1, hj'.2, by simpa [hj'.1] using h⟩
  · rintro ⟨j, h1, h2, h3⟩
    refine ⟨ll[j], ?_, by simpa [h1] using h3⟩
    have : j < (ll.take k).length := by simp; omega
    have := List.getElem_mem this
    simpa using this
theorem inB_succ (ll : Al) (k : Nat) (who : Int) (hk : k < ll.length) : inB ll (k + 1) who = (inB ll k who || ((ll[k]?.getD (0, 0)).1 == who)) := by
  unfold inB
  rw [List.take_succ_eq_append_getElem hk, List.any_append]
  simp [hk]

set_option maxHeartbeats 2000000 in
set_option maxRecDepth 100000 in
theorem duelaw_calls (hsort : SortAl) (w : World) (A : Option Addr) (n c : Nat) (l : Acts) (hr : Rds w A n 3 (actEnc l)) (hn : n = l.length) (hm : n ≤ 9223372036854775807) :
    Calls Try.prog 5 #[.slice A n c] w fun e w' => e = .returned (.bool true) ∧ Below w.heap.size w w' := by
  have HN := hd hn
  clear hn
  by_cases hbig : 100 < n
  · go_enter Try.func5, Try.ntmps5
    go_wp2_with fail
    refine (first_calls hsort w).mono ?_
    rintro e w1 ⟨rfl, b1⟩
    go_wp2_with fail
    refine (first_calls hsort w1).mono ?_
    rintro e w2 ⟨rfl, b2⟩
    go_wp2
    go_ret
    exact ⟨rfl, b1.trans (b2.mono b1.size)⟩
  · have c1 : n ≤ 100 := by omega
    clear hbig
    go_enter Try.func5, Try.ntmps5
    go_wp2_with fail
    refine (first_calls hsort w).mono ?_
    rintro e w1 ⟨rfl, b1⟩
    go_wp2_with fail
    refine (new_calls w1 (From w1.heap.size) (Nat.le_refl _)).mono ?_
    rintro e w2 ⟨rfl, k2, b2⟩
    obtain ⟨B, hB⟩ : ∃ B, B = w1.heap.size := ⟨_, rfl⟩
    rw [← hB] at k2 ⊢
    have ho := own_new b1 hB k2 b2
    clear hB b2 k2 b1
    go_wp2_with fail
    go_loopw [4] (fun i wr => ∃ (k : Nat) (v : Int) (al : Al), i = .int .i64 k ∧ k ≤ n ∧ Own B w wr v al k) (fun i _ => n - (intOf i).toNat)
    case atStart => exact ⟨0, 0, [], rfl, Nat.zero_le _, ho⟩
    case round =>
      obtain ⟨k, v, al, rfl, hk, ho⟩ := hrel
      by_cases hlt : k < n
      · obtain ⟨g, o, rfl, hgw, hc⟩ := hr.at_ (by omega)
        have hcg := actEnc_get l k (by rw [← HN.o]; exact hlt)
        have h1 := (ho.below.cell (p := ⟨g, o + k * 3, none⟩) hgw).trans (hc _ _ hcg.1)
        have h2 := (ho.below.cell (p := ⟨g, o + (k * 3 + 1), none⟩) hgw).trans (hc _ _ hcg.2.1)
        have h3 := (ho.below.cell (p := ⟨g, o + (k * 3 + 2), none⟩) hgw).trans (hc _ _ hcg.2.2)
        rw [← Nat.add_assoc] at h2 h3
        generalize l[k]?.getD (0, 0, 0) = x at h1 h2 h3
        obtain ⟨op, y, z⟩ := x
        simp only at h1 h2 h3
        clear hc hcg
        by_cases c0 : op = 0
        · subst c0
          go_wp2_with fail
          refine (own_tick ho z).mono ?_
          rintro e w3 ⟨rfl, ho3⟩
          clear h1 h2 h3
          go_wp2
          go_roundw
          case rel => exact ⟨k + 1, _, al, by go_num, by omega, ho3.more (by omega)⟩
          case measure => simp [intOf]; omega
        · have e0 : (op == 0) = false := by simp [c0]
          by_cases c1 : op = 1
          · subst c1
            go_wp2_with fail
            go_still_tail 11, (by kernel_rfl)
            go_wp2_with fail
            refine (own_set (Own.of_drew ho) (by omega) y z).mono ?_
            rintro e w3 ⟨rfl, ho3⟩
            clear h1 h2 h3
            go_wp2
            go_roundw
            case rel => exact ⟨k + 1, v, _, by go_num, by omega, ho3⟩
            case measure => simp [intOf]; omega
          · have e1 : (op == 1) = false := by simp [c1]
            clear c0 c1
            go_wp2_with fail
            refine (own_drop ho y).mono ?_
            rintro e w3 ⟨rfl, ho3⟩
            clear h1 h2 h3
            go_wp2
            go_roundw
            case rel => exact ⟨k + 1, v, _, by go_num, by omega, ho3.more (by omega)⟩
            case measure => simp [intOf]; omega
      · obtain rfl : k = n := by omega
        have hlen := ho.len
        go_wp2_with fail
        refine (all_calls hsort wr (From B) B v al ho.clk (by omega)).mono ?_
        rintro e w3 ⟨ll, A3, c3, rfl, hperm, hsorted, hr3, b3⟩
        have hD : DueList v al ll := ⟨ho.nod, hperm, hsorted⟩
        have k3 : Clk w3 (From B) B v al := ho.clk.below b3
        have bw : Below w.heap.size w w3 := ho.below.trans (b3.mono (Nat.le_trans ho.lo ho.hi))
        have hcap3 := hr3.cap
        unfold maxLen at hcap3
        have hll : ll.length ≤ 100 := by
          have h1 := hperm.length_eq
          have h2 : (dueOf v al).length ≤ al.length := List.length_filter_le _ _
          omega
        obtain ⟨m, hm3⟩ : ∃ m, m = ll.length := ⟨_, rfl⟩
        rw [← hm3] at hr3 hcap3 hll ⊢
        have HM := hd hm3
        have HD := hd hD
        clear hm3 hD hperm hsorted
        have hcell3 : ∀ j, j < m → ∃ g, A3 = some ⟨g, 0, none⟩ ∧ g < w3.heap.size ∧ w3.cell? ⟨g, j, none⟩ = some (.int .i64 (ll[j]?.getD (0, 0)).1) := by
          intro j hj
          obtain ⟨g, e, _, hg, _, _, hc, _⟩ := hr3.at_ (by omega)
          refine ⟨g, e, hg, hc j _ ?_⟩
          have : j < ll.length := by rw [← HM.o]; exact hj
          simp [intEnc, this]
        have HC := hd hcell3
        have HR := hd hr
        have HO := hd ho
        clear hcell3 hr3 hr ho
        go_wp2_with fail
        go_loopw [6] (fun i wr => ∃ (j : Nat), i = .int .i64 j ∧ j ≤ m ∧ Below w3.heap.size w3 wr) (fun i _ => m - (intOf i).toNat)
        case atStart => exact ⟨0, rfl, Nat.zero_le _, Below.refl _ _⟩
        case round =>
          obtain ⟨j, rfl, hj, hb⟩ := hrel
          by_cases hlt : j < m
          · obtain ⟨g, rfl, hg, h1⟩ := HC.o j hlt
            have hda := HD.o.at_ j (by rw [← HM.o]; exact hlt)
            have hc1 := (hb.cell (p := ⟨g, j, none⟩) hg).trans h1
            have kk := k3.below hb
            have hri : 0 < j → ∃ x' t', True ∧ w3.cell? ⟨g, j - 1, none⟩ = some (.int .i64 x') ∧ atPair al x' = #[.int .i64 t', .bool true] ∧ (t' < (ll[j]?.getD (0, 0)).2 ∨ (t' = (ll[j]?.getD (0, 0)).2 ∧ x' < (ll[j]?.getD (0, 0)).1)) := by
              intro hj0
              obtain ⟨g', e', _, h1'⟩ := HC.o (j - 1) (by omega)
              injection e' with e'
              injection e' with e'
              subst e'
              have hda' := HD.o.at_ (j - 1) (by rw [← HM.o]; omega)
              have hr' := HD.o.rise (j - 1) (by rw [← HM.o]; omega)
              rw [show j - 1 + 1 = j by omega] at hr'
              exact ⟨_, _, trivial, h1', hda'.1, hr'⟩
            generalize ll[j]?.getD (0, 0) = x at hda hc1 h1 hri
            obtain ⟨x, t⟩ := x
            simp only at hda hc1 h1 hri
            obtain ⟨hd1, hd2, hd3⟩ := hda
            have HD1 := hd hd1
            have HD3 := hd hd3
            have HRI := hd hri
            clear hd1 hd3 hri
            have hz : (0 : Int) ≤ (j : Int) := by omega
            by_cases hj0 : j = 0
            · subst hj0
              go_wp2_with fail
              refine (at_calls wr (From B) B v x al kk).mono ?_
              rintro e w4 ⟨rfl, b4⟩
              rw [HD1.o]
              have hc4 := (b4.cell (p := ⟨g, 0, none⟩) (by have := hb.size; show g < _; omega)).trans hc1
              go_wp2_with fail
              refine (now_calls w4 (From B) B v al (kk.below b4)).mono ?_
              rintro e w5 ⟨rfl, rfl⟩
              go_wp2_with fail
              refine (due_calls w4 (From B) B v x al (kk.below b4)).mono ?_
              rintro e w6 ⟨rfl, b6⟩
              rw [HD3.o]
              go_wp2
              go_roundw
              case rel => exact ⟨1, by go_num, by omega, hb.trans ((b4.trans (b6.mono b4.size)).mono hb.size)⟩
              case measure => simp [intOf]; omega
            · obtain ⟨x', t', _, hp1, hp2, hp3⟩ := HRI.o (by omega)
              have HP2 := hd hp2
              clear hp2
              go_wp2_with fail
              refine (at_calls wr (From B) B v x al kk).mono ?_
              rintro e w4 ⟨rfl, b4⟩
              rw [HD1.o]
              have hg4 : g < wr.heap.size := by have := hb.size; omega
              have hc4 := (b4.cell (p := ⟨g, j, none⟩) hg4).trans hc1
              go_wp2_with fail
              refine (now_calls w4 (From B) B v al (kk.below b4)).mono ?_
              rintro e w5 ⟨rfl, rfl⟩
              go_wp2_with fail
              refine (due_calls w4 (From B) B v x al (kk.below b4)).mono ?_
              rintro e w6 ⟨rfl, b6⟩
              rw [HD3.o]
              have hb6 : Below w3.heap.size w3 w6 := hb.trans ((b4.trans (b6.mono b4.size)).mono hb.size)
              have hp6 := (hb6.cell (p := ⟨g, j - 1, none⟩) hg).trans hp1
              have hjm : IntKind.i64.wrap ((j : Int) - 1) = (j : Int) - 1 := by rw [IntKind.wrap_i64]; omega
              have hj1 : (0 : Int) ≤ (j : Int) - 1 := by omega
              have hj2 : ((j : Int) - 1).toNat = j - 1 := by omega
              go_wp2_with fail
              refine (at_calls w6 (From B) B v x' al (k3.below hb6)).mono ?_
              rintro e w7 ⟨rfl, b7⟩
              rw [HP2.o]
              have hb7 := hb6.trans (b7.mono hb6.size)
              have hp7 := (hb7.cell (p := ⟨g, j - 1, none⟩) hg).trans hp1
              have hc7 := (hb7.cell (p := ⟨g, j, none⟩) hg).trans h1
              go_wp2_with fail
              rcases hp3 with hp3 | ⟨hp3, hp4⟩
              · have e1 : (t' == t) = false := by simp; omega
                have e2 : decide (t < t') = false := by simp; omega
                go_quiet (fail)
                go_wp2
                go_roundw
                case rel => exact ⟨j + 1, by go_num, by omega, by repeat (first | exact hb7 | apply bdrewN)⟩
                case measure => simp [intOf]; omega
              · subst hp3
                have e1 : (t' == t') = true := by simp
                have e2 : decide (t' < t') = false := by simp
                go_quiet (fail)
                go_wp2
                go_roundw
                case rel => exact ⟨j + 1, by go_num, by omega, by repeat (first | exact hb7 | apply bdrewN)⟩
                case measure => simp [intOf]; omega
          · obtain rfl : j = m := by omega
            clear hlt
            go_wp2_with fail
            go_loopw [11] (fun i wr => ∃ (i' : Nat), i = .int .i64 i' ∧ i' ≤ k ∧ Below w3.heap.size w3 wr) (fun i _ => k - (intOf i).toNat)
            case atStart => exact ⟨0, rfl, Nat.zero_le _, hb⟩
            case round =>
              clear hb
              obtain ⟨i', rfl, hi', hb⟩ := hrel
              by_cases hlt : i' < k
              · obtain ⟨g, o, rfl, hgw, hc⟩ := HR.o.at_ (by omega)
                have hcg := actEnc_get l i' (by rw [← HN.o]; exact hlt)
                have h2 := (bw.cell (p := ⟨g, o + (i' * 3 + 1), none⟩) hgw).trans (hc _ _ hcg.2.1)
                rw [← Nat.add_assoc] at h2
                generalize (l[i']?.getD (0, 0, 0)).2.1 = who at h2
                clear hc hcg
                have hg3 : g < w3.heap.size := by have := bw.size; omega
                have h2r := (hb.cell (p := ⟨g, o + i' * 3 + 1, none⟩) hg3).trans h2
                have hin : inB ll j who = dueB al who v := by
                  rw [Bool.eq_iff_iff, ← HD.o.in_ who, inB_iff, HM.o]
                  exact ⟨fun ⟨q, h1, _, h3⟩ => ⟨q, h1, h3⟩, fun ⟨q, h1, h3⟩ => ⟨q, h1, h1, h3⟩⟩
                have HIN := hd hin
                clear hin
                go_wp2_with fail
                refine (at_calls _ (From B) B v who al (k3.below hb)).mono ?_
                rintro e w4 ⟨rfl, b4⟩
                have hb4 := hb.trans (b4.mono hb.size)
                cases ha : atOf al who with
                | none =>
                  have ha1 : atPair al who = #[.int .i64 0, .bool false] := by simp [atPair, ha]
                  have ha2 : dueB al who v = false := by simp [dueB, ha]
                  rw [ha1]
                  rw [ha2] at HIN
                  have HA2 := hd ha2
                  clear ha ha1 ha2
                  go_wp2_with fail
                  obtain ⟨wo, rfl⟩ : ∃ wo : World, wo = w4 := ⟨_, rfl⟩
                  go_loopw [14, 15] (fun b q wx => ∃ (q' : Nat), b = .bool (inB ll q' who) ∧ q = .int .i64 q' ∧ q' ≤ j ∧ Below w3.heap.size w3 wx) (fun _ q _ => j - (intOf q).toNat)
                  case atStart => exact ⟨0, rfl, rfl, Nat.zero_le _, hb4⟩
                  case round =>
                    obtain ⟨q', rfl, rfl, hq, hbx⟩ := hrel
                    by_cases hlt2 : q' < j
                    · obtain ⟨g3, rfl, hg3', hx3⟩ := HC.o q' hlt2
                      have hxw := (hbx.cell (p := ⟨g3, q', none⟩) hg3').trans hx3
                      have h2x := (hbx.cell (p := ⟨g, o + i' * 3 + 1, none⟩) hg3).trans h2
                      have hsu := inB_succ ll q' who (by rw [← HM.o]; exact hlt2)
                      generalize (ll[q']?.getD (0, 0)).1 = x at hxw hsu
                      have HSU := hd hsu
                      clear hsu hx3
                      obtain ⟨bv, hbv⟩ : ∃ bv, inB ll q' who = bv := ⟨_, rfl⟩
                      rw [hbv] at HSU ⊢
                      clear hbv
                      cases bv with
                      | true =>
                        go_wp2_with fail
                        go_quiet (fail)
                        go_wp2
                        go_roundw
                        case rel => exact ⟨q' + 1, by rw [HSU.o]; rfl, by go_num, by omega, by repeat (first | exact hbx | apply bdrewN)⟩
                        case measure => simp [intOf]; omega
                      | false =>
                        go_wp2_with fail
                        go_quiet (fail)
                        go_wp2
                        go_roundw
                        case rel => exact ⟨q' + 1, by rw [HSU.o]; rfl, by go_num, by omega, by repeat (first | exact hbx | apply bdrewN)⟩
                        case measure => simp [intOf]; omega
                    · obtain rfl : q' = j := by omega
                      rw [HIN.o]
                      have h2x := (hbx.cell (p := ⟨g, o + i' * 3 + 1, none⟩) hg3).trans h2
                      go_wp2_with fail
                      refine (due_calls _ (From B) B v who al (k3.below hbx)).mono ?_
                      rintro e w6 ⟨rfl, b6⟩
                      rw [HA2.o]
                      go_wp2
                      go_roundw
                      case rel => exact ⟨i' + 1, by go_num, by omega, hbx.trans (b6.mono hbx.size)⟩
                      case measure => simp [intOf]; omega
                | some y =>
                  have ha1 : atPair al who = #[.int .i64 y, .bool true] := by simp [atPair, ha]
                  have ha2 : dueB al who v = decide (y ≤ v) := by simp [dueB, ha]
                  rw [ha1]
                  rw [ha2] at HIN
                  have HA2 := hd ha2
                  clear ha ha1 ha2
                  go_wp2_with fail
                  obtain ⟨wo, rfl⟩ : ∃ wo : World, wo = w4 := ⟨_, rfl⟩
                  go_loopw [14, 15] (fun b q wx => ∃ (q' : Nat), b = .bool (inB ll q' who) ∧ q = .int .i64 q' ∧ q' ≤ j ∧ Below w3.heap.size w3 wx) (fun _ q _ => j - (intOf q).toNat)
                  case atStart => exact ⟨0, rfl, rfl, Nat.zero_le _, hb4⟩
                  case round =>
                    obtain ⟨q', rfl, rfl, hq, hbx⟩ := hrel
                    by_cases hlt2 : q' < j
                    · obtain ⟨g3, rfl, hg3', hx3⟩ := HC.o q' hlt2
                      have hxw := (hbx.cell (p := ⟨g3, q', none⟩) hg3').trans hx3
                      have h2x := (hbx.cell (p := ⟨g, o + i' * 3 + 1, none⟩) hg3).trans h2
                      have hsu := inB_succ ll q' who (by rw [← HM.o]; exact hlt2)
                      generalize (ll[q']?.getD (0, 0)).1 = x at hxw hsu
                      have HSU := hd hsu
                      clear hsu hx3
                      obtain ⟨bv, hbv⟩ : ∃ bv, inB ll q' who = bv := ⟨_, rfl⟩
                      rw [hbv] at HSU ⊢
                      clear hbv
                      cases bv with
                      | true =>
                        go_wp2_with fail
                        go_quiet (fail)
                        go_wp2
                        go_roundw
                        case rel => exact ⟨q' + 1, by rw [HSU.o]; rfl, by go_num, by omega, by repeat (first | exact hbx | apply bdrewN)⟩
                        case measure => simp [intOf]; omega
                      | false =>
                        go_wp2_with fail
                        go_quiet (fail)
                        go_wp2
                        go_roundw
                        case rel => exact ⟨q' + 1, by rw [HSU.o]; rfl, by go_num, by omega, by repeat (first | exact hbx | apply bdrewN)⟩
                        case measure => simp [intOf]; omega
                    · obtain rfl : q' = j := by omega
                      rw [HIN.o]
                      have h2x := (hbx.cell (p := ⟨g, o + i' * 3 + 1, none⟩) hg3).trans h2
                      go_wp2_with fail
                      refine (now_calls _ (From B) B v al (k3.below hbx)).mono ?_
                      rintro e w5 ⟨rfl, rfl⟩
                      go_wp2_with fail
                      refine (due_calls _ (From B) B v who al (k3.below hbx)).mono ?_
                      rintro e w6 ⟨rfl, b6⟩
                      rw [HA2.o]
                      go_wp2
                      go_roundw
                      case rel => exact ⟨i' + 1, by go_num, by omega, hbx.trans (b6.mono hbx.size)⟩
                      case measure => simp [intOf]; omega
              · obtain rfl : i' = k := by omega
                go_wp2
                go_ret
                exact ⟨rfl, bw.trans (hb.mono bw.size)⟩

end Go.Proofs.Ytdnmeffglpmlaaa
