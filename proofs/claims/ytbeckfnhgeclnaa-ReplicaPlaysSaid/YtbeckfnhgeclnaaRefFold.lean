/-
  The reference's copy: Fold, Get.
-/
import Derived.Test.YtbeckfnhgeclnaaRefPut
import Derived.Test.YtbeckfnhgeclnaaFirstR
import Derived.Deep.CutRange
import Derived.Deep.Cut
import Derived.Deep.RegionWith
import Derived.BigRegion
namespace Go.Proofs.Ytbeckfnhgeclnaa
open Go.RowKit Go.Lib

/-- The reference's copy at block b. -/
def RRp (w : World) (S : Nat → Prop) (b : Nat) (token : Int) (more : Bool) (L : List It) : Prop :=
  ∃ A c, Blk w b 30 #[.slice A L.length c, .int .i64 token, .bool more] ∧ Row w S 41 4 A L.length c (itsEnc L) ∧ S b
theorem RRp.lt {w : World} {S : Nat → Prop} {b : Nat} {token : Int} {more : Bool} {L : List It} (h : RRp w S b token more L) : b < w.heap.size := by
  obtain ⟨A, c, hb, _⟩ := h
  exact hb.lt
theorem RRp.mono {w : World} {S T : Nat → Prop} {b : Nat} {token : Int} {more : Bool} {L : List It} (h : RRp w S b token more L) (hs : ∀ k, S k → T k) : RRp w T b token more L := by
  obtain ⟨A, c, hb, hr, hS⟩ := h
  exact ⟨A, c, hb, hr.mono hs, hs _ hS⟩
theorem RRp.chg {w w' : World} {S T : Nat → Prop} {b : Nat} {token : Int} {more : Bool} {L : List It} (h : RRp w S b token more L) (hc : Chg T w w') (hd : ∀ k, S k → ¬ T k) : RRp w' S b token more L := by
  obtain ⟨A, c, hb, hr, hS⟩ := h
  exact ⟨A, c, hb.chg hc (hd _ hS), hr.chg hc hd, hS⟩
theorem RRp.below {w w' : World} {S : Nat → Prop} {b : Nat} {token : Int} {more : Bool} {L : List It} (h : RRp w S b token more L) (hb : Below w.heap.size w w') : RRp w' S b token more L :=
  h.chg (Chg.of_below Non hb) (fun _ _ => id)
theorem RRp.shrink {w : World} {S : Nat → Prop} {b : Nat} {token : Int} {more : Bool} {L : List It} (h : RRp w S b token more L) : RRp w (fun k => S k ∧ k < w.heap.size) b token more L := by
  obtain ⟨A, c, hb, hr, hS⟩ := h
  exact ⟨A, c, hb, ⟨hr.own, fun a ha => ⟨hr.fp a ha, hr.lt ha⟩⟩, hS, hb.lt⟩

theorem Rds.drew_ {w : World} {A : Option Addr} {n k : Nat} {xs : List Value} (h : Rds w A n k xs) : Rds w.drew A n k xs := ⟨h.len, h.at_⟩
/-- Nothing is taken. -/
theorem rfold_no1 (w : World) (S : Nat → Prop) (b : Nat) (token : Int) (more : Bool) (L : List It) (h : RRp w S b token more L) (asked : Int) (r : Rs) (A : Option Addr) (n c : Nat) (hk : r.kind ≠ 8 ∨ asked ≠ token) :
    Calls Try.prog 22 #[.pointer (some ⟨b, 0, none⟩), .int .i64 asked, .agg (rsEnc r A n c).toArray] w fun e w' => e = .returned (.int .i64 10) ∧ Below w.heap.size w w' := by
  obtain ⟨A0, c0, hb, _⟩ := h
  have h1 := hb.at_ 1 rfl
  have hbl := hb.lt
  obtain ⟨kind, err, tok, version, card, index, mr⟩ := r
  simp only [rsEnc] at hk ⊢
  clear hb
  by_cases c1 : kind = 8
  · subst c1
    have hk2 : asked ≠ token := by rcases hk with h | h; exact absurd rfl h; exact h
    have f2 : (asked != token) = true := by simpa using hk2
    clear hk hk2
    go_enter Try.func22, Try.ntmps22
    go_wp2
    go_ret
    exact ⟨rfl, (Below.refl _ w).alloc (Nat.le_refl _) _⟩
  · have f1 : (kind != 8) = true := by simpa using c1
    clear hk c1
    go_enter Try.func22, Try.ntmps22
    go_wp2
    go_ret
    exact ⟨rfl, (Below.refl _ w).alloc (Nat.le_refl _) _⟩
theorem rfold_no2 (w : World) (S : Nat → Prop) (b : Nat) (token : Int) (more : Bool) (L : List It) (h : RRp w S b token more L) (r : Rs) (A : Option Addr) (n c : Nat) (hk : r.kind = 8) (he : r.err ≠ 8) (he0 : r.err ≠ 0) :
    Calls Try.prog 22 #[.pointer (some ⟨b, 0, none⟩), .int .i64 token, .agg (rsEnc r A n c).toArray] w fun e w' => e = .returned (.int .i64 10) ∧ Below w.heap.size w w' := by
  obtain ⟨A0, c0, hb, _⟩ := h
  have h1 := hb.at_ 1 rfl
  have hbl := hb.lt
  obtain ⟨kind, err, tok, version, card, index, mr⟩ := r
  simp only at hk he he0
  simp only [rsEnc]
  subst hk
  have f1 : (err == 8) = false := by simpa using he
  have f2 : (err != 0) = true := by simpa using he0
  have f3 : (token != token) = false := by simp
  clear hb he he0
  go_enter Try.func22, Try.ntmps22
  go_wp2
  go_ret
  exact ⟨rfl, (Below.refl _ w).alloc (Nat.le_refl _) _⟩
theorem rfold_no3 (w : World) (S : Nat → Prop) (b : Nat) (token : Int) (more : Bool) (L : List It) (h : RRp w S b token more L) (r : Rs) (A : Option Addr) (n c : Nat) (hk : r.kind = 8) (he : r.err = 0) (ht : r.token < token) :
    Calls Try.prog 22 #[.pointer (some ⟨b, 0, none⟩), .int .i64 token, .agg (rsEnc r A n c).toArray] w fun e w' => e = .returned (.int .i64 1) ∧ Below w.heap.size w w' := by
  obtain ⟨A0, c0, hb, _⟩ := h
  have h1 := hb.at_ 1 rfl
  have hbl := hb.lt
  obtain ⟨kind, err, tok, version, card, index, mr⟩ := r
  simp only at hk he ht
  simp only [rsEnc]
  subst hk he
  have f3 : (token != token) = false := by simp
  clear hb
  go_enter Try.func22, Try.ntmps22
  go_wp2
  go_ret
  exact ⟨rfl, (Below.refl _ w).alloc (Nat.le_refl _) _⟩
/-- All goes. -/
theorem rfold_all (w : World) (S : Nat → Prop) (b : Nat) (token : Int) (more : Bool) (L : List It) (h : RRp w S b token more L) (r : Rs) (A : Option Addr) (n c : Nat) (hk : r.kind = 8) (he : r.err = 8) :
    Calls Try.prog 22 #[.pointer (some ⟨b, 0, none⟩), .int .i64 token, .agg (rsEnc r A n c).toArray] w fun e w' => e = .returned (.int .i64 0) ∧ RRp w' (Plus S w.heap.size) b 0 false [] ∧ Chg S w w' := by
  obtain ⟨A0, c0, hb, _, hS⟩ := h
  have h1 := hb.at_ 1 rfl
  have hbl := hb.lt
  have h0 := hb.at_ 0 rfl
  have h2 := hb.at_ 2 rfl
  have q0 := hb.frozen 0
  have q1 := hb.frozen 1
  have q2 := hb.frozen 2
  have HB := hd hb
  obtain ⟨kind, err, tok, version, card, index, mr⟩ := r
  simp only at hk he
  simp only [rsEnc]
  subst hk he
  have f3 : (token != token) = false := by simp
  clear hb
  go_enter Try.func22, Try.ntmps22
  go_wp2
  go_ret
  refine ⟨rfl, ⟨none, 0, ?_, Row.nil _ _ _ _, .inl hS⟩, ?_⟩
  · exact (((HB.o.set_ 0 _).set_ 1 _).set_ 2 _).alloc _
  · exact ((((Chg.refl S w).setCell (.inl hS) _).setCell (.inl hS) _).setCell (.inl hS) _).alloc _

/-- The reference's cards behind some items. -/
def rfoldIts (L : List It) (l : List It) : List It := l.foldl (fun L x => rput x L) L
theorem rfoldIts_snoc (L l : List It) (x : It) : rfoldIts L (l ++ [x]) = rput x (rfoldIts L l) := by simp [rfoldIts, List.foldl_append]
theorem rfoldIts_len (L l : List It) : (rfoldIts L l).length ≤ L.length + l.length := by
  induction l generalizing L with
  | nil => simp [rfoldIts]
  | cons x l ih =>
    have h1 := ih (rput x L)
    have h2 := rput_len x L
    simp only [rfoldIts, List.foldl_cons, List.length_cons] at h1 ⊢
    omega
theorem rfoldIts_map {ml : ML It} (hr : Rising ml) (hk : KeyUid ml) : ∀ l, rfoldIts (ml.map (·.2)) l = (foldIts ml l).map (·.2) := by
  intro l
  induction l generalizing ml with
  | nil => rfl
  | cons x l ih =>
    have := ih (stepIt_rise hr x) (stepIt_key hr hk x)
    simp only [rfoldIts, foldIts, List.foldl_cons] at this ⊢
    rw [← stepIt_rput hr hk x, this]
theorem badIt_eq2 (asked : Int) (pre : List It) (x : It) : badIt asked pre x = (decide (x.ver < 1) || ((asked != 0) && decide (x.ver ≤ asked)) || (pre.any fun y => y.uid == x.uid)) := rfl

set_option maxRecDepth 100000 in
set_option maxHeartbeats 8000000 in
theorem rfold_items (w : World) (S : Nat → Prop) (b : Nat) (token : Int) (more : Bool) (L : List It) (h : RRp w S b token more L) (hSw : ∀ q, S q → q < w.heap.size) (r : Rs) (items : List It) (A : Option Addr) (c : Nat) (hk : r.kind = 8) (he : r.err = 0) (ht : ¬ r.token < token)
    (hr : Rds w A items.length 4 (itsEnc items)) (hAS : items ≠ [] → ∀ q, Of A q → ¬ S q) (hl : L.length + items.length < 1000000) :
    Calls Try.prog 22 #[.pointer (some ⟨b, 0, none⟩), .int .i64 token, .agg (rsEnc r A items.length c).toArray] w fun e w' =>
      (e = .returned (.int .i64 1) ∧ ¬ okIts token items ∧ Below w.heap.size w w') ∨ (e = .returned (.int .i64 0) ∧ okIts token items ∧ RRp w' (Plus S w.heap.size) b r.token r.more (rfoldIts (if token = 0 then [] else L) items) ∧ Chg S w w') := by
  have HREP := hd h
  have HR := hd hr
  have HSW := hd hSw
  have HAS := hd hAS
  obtain ⟨A0, c0, hb, hrow, hS⟩ := h
  have h1 := hb.at_ 1 rfl
  have hbl := hb.lt
  have HB := hd hb
  have HRW := hd hrow
  have HNB : Hd (∀ a, A0 = some a → a.block ≠ b) := hd (hrow.ne_blk hb (by decide))
  obtain ⟨n, hn⟩ : ∃ n, items.length = n := ⟨_, rfl⟩
  have HN := hd hn
  rw [hn] at hl ⊢
  obtain ⟨kind, err, tok, version, card, index, mr⟩ := r
  simp only at hk he ht
  simp only [rsEnc]
  subst hk he
  have f3 : (token != token) = false := by simp
  have hnl : n ≤ 1000000 := by omega
  obtain ⟨base, hbase⟩ : ∃ base, (if token = 0 then [] else L) = base := ⟨_, rfl⟩
  rw [hbase]
  have HBASE := hd hbase
  clear hbase
  clear hb hrow hn hr hSw hAS
  go_enter Try.func22, Try.ntmps22
  go_wp2_with fail
  have hB0 : Below w.heap.size w (w.alloc (.cells #[.int .i64 8, .int .i64 0, .int .i64 tok, .int .i64 version, .string (bs card), .int .i64 index, .bool mr, .slice A n c] 35)) := (Below.refl _ w).alloc (Nat.le_refl _) _
  have hP0 : Blk (w.alloc (.cells #[.int .i64 8, .int .i64 0, .int .i64 tok, .int .i64 version, .string (bs card), .int .i64 index, .bool mr, .slice A n c] 35)) w.heap.size 35 #[.int .i64 8, .int .i64 0, .int .i64 tok, .int .i64 version, .string (bs card), .int .i64 index, .bool mr, .slice A n c] := Blk.new w 35 _
  have HB0 := hd hB0
  have HP0 := hd hP0
  clear hB0 hP0 h1
  go_loopw [7, 8] (fun i j wr => ∃ (k : Nat), i = .int .i64 k ∧ k ≤ n ∧ Hd (∀ j (h : j < items.length), j < k → badIt token (items.take j) items[j] = false) ∧ Hd (Below w.heap.size w wr) ∧ Hd (Blk wr w.heap.size 35 #[.int .i64 8, .int .i64 0, .int .i64 tok, .int .i64 version, .string (bs card), .int .i64 index, .bool mr, .slice A n c])) (fun i _ _ => n - (intOf i).toNat)
  case atStart => exact ⟨0, rfl, Nat.zero_le _, hd (fun j _ h => absurd h (Nat.not_lt_zero _)), HB0, HP0⟩
  case round =>
    clear HB0 HP0
    obtain ⟨k, rfl, hk, HALL, HBE, HP⟩ := hrel
    have hki : (0 : Int) ≤ (k : Int) := by omega
    by_cases hlt : k < n
    · have hlti : (k : Int) < (n : Int) := by omega
      have hkl : k < items.length := by rw [HN.o]; exact hlt
      obtain ⟨g, o, rfl, hgw, hc⟩ := HR.o.at_ (by omega)
      obtain ⟨x, hx⟩ : ∃ x, items[k]'hkl = x := ⟨_, rfl⟩
      have HKL := hd hkl
      have hcell : ∀ j u, j < 4 → (itEnc x)[j]? = some u → wr.cell? ⟨g, o + (k * 4 + j), none⟩ = some u := fun j u hj hv => (HBE.o.cell (p := ⟨g, o + (k * 4 + j), none⟩) hgw).trans (hc _ _ ((itsEnc_at items k hkl j hj).trans (by rw [hx]; exact hv)))
      have HX : Hd (items[k]'HKL.o = x) := hd hx
      obtain ⟨uid, ver, gone, text⟩ := x
      have k0 := hcell 0 _ (by omega) rfl
      have k1 := hcell 1 _ (by omega) rfl
      rw [← Nat.add_assoc] at k0 k1
      rw [Nat.add_zero] at k0
      have HCELL : Hd (∀ (j : Nat) (hj : j < items.length), wr.cell? ⟨g, o + (j * 4 + 0), none⟩ = some (.string (bs (items[j]'hj).uid))) := hd (fun j hj => (HBE.o.cell (p := ⟨g, o + (j * 4 + 0), none⟩) hgw).trans (hc _ _ ((itsEnc_at items j hj 0 (by omega)).trans rfl)))
      have HBE2 := badIt_eq2 token (items.take k) (⟨uid, ver, gone, text⟩ : It)
      have hp7 := HP.o.at_ 7 rfl
      have hpl := HP.o.lt
      clear hcell hc hx hkl
      by_cases v1 : ver < 1
      · have f1 : decide (ver < 1) = true := by simpa using v1
        have hbad : badIt token (items.take k) (items[k]'HKL.o) = true := by rw [HX.o, HBE2, f1]; rfl
        have HBAD := hd (hbad : badIt token (items.take k) (items[k]'HKL.o) = true)
        clear HBE2 v1 hbad
        go_wp2
        go_ret
        exact .inl ⟨rfl, okIts_bad HKL.o HBAD.o, HBE.o⟩
      · have f1 : decide (ver < 1) = false := by simpa using v1
        by_cases v5 : token ≠ 0 ∧ ver ≤ token
        · have f2 : (token != 0) = true := by simpa using v5.1
          have f4 : decide (ver ≤ token) = true := by simpa using v5.2
          have hbad : badIt token (items.take k) (items[k]'HKL.o) = true := by rw [HX.o, HBE2, f1, f2, f4]; rfl
          have HBAD := hd (hbad : badIt token (items.take k) (items[k]'HKL.o) = true)
          clear HBE2 v1 v5 hbad
          go_wp2
          go_ret
          exact .inl ⟨rfl, okIts_bad HKL.o HBAD.o, HBE.o⟩
        · have f5 : ((token != 0) && decide (ver ≤ token)) = false := by
            by_cases h1 : token = 0
            · simp [h1]
            · have h2 : ¬ ver ≤ token := fun h => v5 ⟨h1, h⟩
              simp [h2]
          have HAN : Hd (badIt token (items.take k) (items[k]'HKL.o) = ((items.take k).any fun y => y.uid == uid)) := hd (by rw [HX.o, HBE2, f1, f5]; rfl)
          have f6 : (token != 0) = false ∨ ((token != 0) = true ∧ decide (ver ≤ token) = false) := by
            revert f5
            cases (token != 0) <;> cases decide (ver ≤ token) <;> simp
          clear HBE2 v1 v5 f5
          rcases f6 with f2 | ⟨f2, f4⟩
          all_goals
            go_wp2_with fail
            go_loopw [8] (fun j wx => ∃ m : Nat, j = .int .i64 m ∧ m ≤ k ∧ (∃ q, wx = wr.drewN q) ∧ Hd (∀ t (h : t < items.length), t < m → (items[t].uid == uid) = false)) (fun j _ => k - (intOf j).toNat)
            case atStart => exact ⟨0, rfl, Nat.zero_le _, ⟨0, rfl⟩, hd (fun t _ h => absurd h (Nat.not_lt_zero _))⟩
            case round =>
              obtain ⟨m, rfl, hm, ⟨q, rfl⟩, HNO⟩ := hrel
              have hmi : (0 : Int) ≤ (m : Int) := by omega
              by_cases hmk : m < k
              · have hmki : (m : Int) < (k : Int) := by omega
                have hmn : (m : Int) < (n : Int) := by omega
                have hml : m < items.length := by rw [HN.o]; omega
                have HML := hd hml
                have c0 := HCELL.o m hml
                obtain ⟨u, hu⟩ : ∃ u, (items[m]'hml).uid = u := ⟨_, rfl⟩
                have HU : Hd ((items[m]'HML.o).uid = u) := hd hu
                rw [← Nat.add_assoc, Nat.add_zero, hu] at c0
                have heq := str_eq u uid
                obtain ⟨be, hbe⟩ : ∃ b : Bool, decide (u = uid) = b := ⟨_, rfl⟩
                rw [hbe] at heq
                have HBQ := hd hbe
                clear hu hml hbe
                go_wp2_with fail
                go_quiet (fail)
                cases be with
                | true =>
                  have HBAD : Hd (badIt token (items.take k) (items[k]'HKL.o) = true) := hd (by
                    rw [HAN.o, List.any_eq_true]
                    refine ⟨items[m]'HML.o, ?_, ?_⟩
                    · rw [List.mem_take_iff_getElem]
                      exact ⟨m, by have := HML.o; omega, rfl⟩
                    · rw [HU.o]
                      simpa using HBQ.o)
                  go_wp2
                  go_ret
                  exact .inl ⟨rfl, okIts_bad HKL.o HBAD.o, bdrewN (bdrewN HBE.o _) _⟩
                | false =>
                  have HN2 : Hd (∀ t (h : t < items.length), t < m + 1 → (items[t].uid == uid) = false) := hd (fun t h htm => by
                    by_cases htm2 : t < m
                    · exact HNO.o t h htm2
                    · obtain rfl : t = m := by omega
                      rw [HU.o]
                      simpa using HBQ.o)
                  go_wp2
                  go_roundw
                  case rel => exact ⟨m + 1, by go_num, by omega, ⟨_, rfl⟩, HN2⟩
                  case measure => simp [intOf]; omega
              · obtain rfl : m = k := by omega
                have HGOOD : Hd (badIt token (items.take m) (items[m]'HKL.o) = false) := hd (by
                  rw [HAN.o, List.any_eq_false]
                  intro y hy
                  obtain ⟨t, ht, rfl⟩ := List.mem_take_iff_getElem.1 hy
                  have := HNO.o t (by omega) (by omega)
                  simpa using this)
                go_wp2
                go_roundw
                case rel =>
                  refine ⟨m + 1, by go_num, by omega, hd (fun j hj hjk => ?_), hd (bdrewN HBE.o _), hd (HP.o.drewN _)⟩
                  by_cases hjj : j < m
                  · exact HALL.o j hj hjj
                  · obtain rfl : j = m := by omega
                    exact HGOOD.o
                case measure => simp [intOf]; omega
    · obtain rfl : k = n := by omega
      have HOK : Hd (okIts token items) := hd (fun j hj => HALL.o j hj (by rw [HN.o] at hj; exact hj))
      have HBR := hd (HB.o.below HBE.o hbl)
      have hbr := HBR.o.lt
      have hs0 := HBE.o.size
      have hpl := HP.o.lt
      have hp7 := HP.o.at_ 7 rfl
      clear HALL
      go_upto_if 81 with (fail)
      go_cut [] from 80 to 84 (fun wx => ∃ (A2 : Option Addr) (c2 : Nat), Hd (Blk wx b 30 #[.slice A2 base.length c2, .int .i64 token, .bool more]) ∧ Hd (Row wx (fun q => S q ∧ q ≠ b) 41 4 A2 base.length c2 (itsEnc base)) ∧ Hd (Blk wx w.heap.size 35 #[.int .i64 8, .int .i64 0, .int .i64 tok, .int .i64 version, .string (bs card), .int .i64 index, .bool mr, .slice A k c]) ∧ Hd (Chg S w wx))
      case first =>
        by_cases v2 : token = 0
        · have f2 : (token == 0) = true := by simpa using v2
          have hbs : base = [] := by rw [← HBASE.o, if_pos v2]
          have HBS := hd hbs
          have hb0 := HBR.o.at_ 0 rfl
          have hf0 := HBR.o.frozen 0
          clear v2 hbs
          go_wp2_with fail
          go_meet
          refine ⟨none, 0, hd (by rw [HBS.o]; exact HBR.o.set_ 0 _), hd (by rw [HBS.o]; exact Row.nil _ _ _ _), hd (HP.o.far (p := ⟨b, 0, none⟩) (by show w.heap.size ≠ b; omega) _), hd ((Chg.of_below S HBE.o).setCell (.inl hS) _)⟩
        · have f2 : (token == 0) = false := by simpa using v2
          have hbs : base = L := by rw [← HBASE.o, if_neg v2]
          have HBS := hd hbs
          clear v2 hbs
          go_wp2_with fail
          go_meet
          have hrw := HRW.o.below HBE.o
          refine ⟨A0, c0, hd (by rw [HBS.o]; exact HBR.o), hd (by rw [HBS.o]; exact ⟨hrw.own, fun a ha => ⟨hrw.fp a ha, HNB.o a ha⟩⟩), HP, hd (Chg.of_below S HBE.o)⟩
      case rest =>
        obtain ⟨A2, c2, HB2, HR2, HP2, HC2⟩ := hcut
        have hpl2 := HP2.o.lt
        have HBL : Hd (base.length ≤ L.length) := hd (by rw [← HBASE.o]; split <;> simp)
        clear HBE HP HBR hbr hs0 hpl
        go_wp2_with fail
        go_loopw [9] (fun i wr => ∃ (j : Nat) (A3 : Option Addr) (c3 : Nat), i = .int .i64 j ∧ j ≤ k ∧ Hd (Blk wr b 30 #[.slice A3 (rfoldIts base (items.take j)).length c3, .int .i64 token, .bool more]) ∧ Hd (Row wr (fun q => (S q ∨ w.heap.size ≤ q) ∧ q ≠ b) 41 4 A3 (rfoldIts base (items.take j)).length c3 (itsEnc (rfoldIts base (items.take j)))) ∧ Hd (Blk wr w.heap.size 35 #[.int .i64 8, .int .i64 0, .int .i64 tok, .int .i64 version, .string (bs card), .int .i64 index, .bool mr, .slice A k c]) ∧ Hd (Chg S w wr)) (fun i _ => k - (intOf i).toNat)
        case atStart => exact ⟨0, A2, c2, rfl, Nat.zero_le _, HB2, hd (HR2.o.mono fun q hq => ⟨.inl hq.1, hq.2⟩), HP2, HC2⟩
        case round =>
          clear HB2 HR2 HP2 HC2 hpl2
          obtain ⟨j, A3, c3, rfl, hj, HB3, HR3, HP3, HC3⟩ := hrel
          have hb0 := HB3.o.at_ 0 rfl
          have hf0 := HB3.o.frozen 0
          have hb3l := HB3.o.lt
          have hsw := HC3.o.size
          have hp7 := HP3.o.at_ 7 rfl
          have hpl3 := HP3.o.lt
          by_cases hlt : j < k
          · have hlti : (j : Int) < (k : Int) := by omega
            have hji : (0 : Int) ≤ (j : Int) := by omega
            have hjl : j < items.length := by rw [HN.o]; exact hlt
            obtain ⟨g, o, rfl, hgw, hc⟩ := (HR.o.chg HC3.o (HAS.o (fun e => by rw [e] at hjl; cases hjl))).at_ (by omega)
            obtain ⟨x, hx⟩ : ∃ x, items[j]'hjl = x := ⟨_, rfl⟩
            obtain ⟨Lj, hLj⟩ : ∃ Lj, rfoldIts base (items.take j) = Lj := ⟨_, rfl⟩
            have HST : Hd (rfoldIts base (items.take (j + 1)) = rput x Lj) := hd (by rw [List.take_succ_eq_append_getElem hjl, hx, rfoldIts_snoc, hLj])
            have HFL : Hd (Lj.length < 1000000) := hd (by
              have h1 := rfoldIts_len base (items.take j)
              have h2 := HBL.o
              rw [List.length_take, hLj] at h1
              omega)
            rw [hLj] at HB3 HR3 hb0
            have hcell : ∀ i u, i < 4 → (itEnc x)[i]? = some u → wr.cell? ⟨g, o + (j * 4 + i), none⟩ = some u := fun i u hi hv => hc _ _ ((itsEnc_at items j hjl i hi).trans (by rw [hx]; exact hv))
            obtain ⟨uid, ver, gone, text⟩ := x
            have k0 := hcell 0 _ (by omega) rfl
            have k1 := hcell 1 _ (by omega) rfl
            have k2 := hcell 2 _ (by omega) rfl
            have k3 := hcell 3 _ (by omega) rfl
            rw [← Nat.add_assoc] at k0 k1 k2 k3
            rw [Nat.add_zero] at k0
            have HRD := hd HR3.o.rds
            clear hcell hc hx hjl hLj
            go_wp2_with fail
            go_region_with (first
              | (go_at_call 60
                 refine (put_calls _ A3 c3 Lj ⟨uid, ver, gone, text⟩ (by with_reducible (repeat (first | exact HRD.o | refine Rds.drew_ ?_))) HFL.o).mono ?_
                 rintro e w2 ⟨A4, c4, rfl, hr4, hb4⟩
                 have hbb : Blk w2 b 30 #[.slice A3 Lj.length c3, .int .i64 token, .bool more] := Blk.below (by repeat (first | exact HB3.o | refine Blk.drew ?_)) hb4 hb3l
                 have hpp : Blk w2 w.heap.size 35 #[.int .i64 8, .int .i64 0, .int .i64 tok, .int .i64 version, .string (bs card), .int .i64 index, .bool mr, .slice (some ⟨g, o, none⟩) k c] := Blk.below (by repeat (first | exact HP3.o | refine Blk.drew ?_)) hb4 hpl3
                 have hcc : Chg S w w2 := Chg.then_below (by repeat (first | exact HC3.o | refine Chg.drew ?_)) hb4
                 have f4 := hbb.frozen 0
                 have g4 := hbb.at_ 0 rfl
                 have HB4 := hd hbb
                 have HP4 := hd hpp
                 have HC4 := hd hcc
                 have HR4 : Hd (Row w2 (From wr.heap.size) 41 4 A4 (rput ⟨uid, ver, gone, text⟩ Lj).length c4 (itsEnc (rput ⟨uid, ver, gone, text⟩ Lj))) := hd hr4
                 clear hbb hpp hcc hr4 hb4))
            all_goals
              go_wp2_with fail
              go_roundw
              case rel =>
                refine ⟨j + 1, A4, c4, by go_num, by omega, ?_, ?_, ?_, ?_⟩
                · rw [HST.o]; exact hd (HB4.o.set_ 0 _)
                · rw [HST.o]
                  refine hd ((HR4.o.mono fun q hq => ?_).far (fun a ha => ?_) _)
                  · have hq' : wr.heap.size ≤ q := hq
                    exact ⟨.inr (by omega), by omega⟩
                  · have hq' : wr.heap.size ≤ a.block := HR4.o.fp a ha
                    show a.block ≠ b
                    omega
                · exact hd (HP4.o.far (p := ⟨b, 0, none⟩) (by show w.heap.size ≠ b; omega) _)
                · exact hd (HC4.o.setCell (.inl hS) _)
              case measure => simp [intOf]; omega
          · obtain rfl : j = k := by omega
            have hf1 := HB3.o.frozen 1
            have hf2 := HB3.o.frozen 2
            have hb1 := HB3.o.at_ 1 rfl
            have hb2 := HB3.o.at_ 2 rfl
            have hp2 := HP3.o.at_ 2 rfl
            have hp6 := HP3.o.at_ 6 rfl
            have hnb : w.heap.size ≠ b := by omega
            have HTK : Hd (items.take j = items) := hd (List.take_of_length_le (by rw [HN.o]; exact Nat.le_refl _))
            rw [HTK.o] at HB3 HR3 hb0
            obtain ⟨Lj, hLj⟩ : ∃ Lj, rfoldIts base items = Lj := ⟨_, rfl⟩
            rw [hLj] at HB3 HR3 hb0
            have HLJ := hd hLj
            clear hLj
            go_wp2_with fail
            go_region
            go_wp2
            go_ret
            rw [HLJ.o]
            refine .inr ⟨rfl, HOK.o, ⟨A3, c3, ((HB3.o.set_ 1 _).set_ 2 _).drew, ?_, .inl hS⟩, ((HC3.o.setCell (.inl hS) _).setCell (.inl hS) _).drew⟩
            refine (((HR3.o.far (p := ⟨b, 1, none⟩) (fun a ha => (HR3.o.fp a ha).2) _).far (p := ⟨b, 2, none⟩) (fun a ha => (HR3.o.fp a ha).2) _).drew).mono fun q hq => hq.1

/-- Fold, whatever comes. -/
theorem rfold_calls (w : World) (S : Nat → Prop) (b : Nat) (s : St) (h : RRp w S b s.token s.more (s.ml.map (·.2))) (hri : Rising s.ml) (hky : KeyUid s.ml) (hSw : ∀ q, S q → q < w.heap.size) (asked : Int) (r : Rs) (items : List It) (A : Option Addr) (c : Nat)
    (hr : Rds w A items.length 4 (itsEnc items)) (hAS : items ≠ [] → ∀ q, Of A q → ¬ S q) (hl : s.ml.length + items.length < 1000000) :
    Calls Try.prog 22 #[.pointer (some ⟨b, 0, none⟩), .int .i64 asked, .agg (rsEnc r A items.length c).toArray] w fun e w' =>
      e = .returned (.int .i64 (foldSem s asked r items).1) ∧ RRp w' (Plus S w.heap.size) b (foldSem s asked r items).2.token (foldSem s asked r items).2.more ((foldSem s asked r items).2.ml.map (·.2)) ∧ Chg S w w' := by
  have keep : ∀ w', Below w.heap.size w w' → RRp w' (Plus S w.heap.size) b s.token s.more (s.ml.map (·.2)) ∧ Chg S w w' := fun w' hb => ⟨(h.below hb).mono (fun _ h => .inl h), Chg.of_below _ hb⟩
  by_cases h1 : r.kind ≠ 8 ∨ asked ≠ s.token
  · rw [fold_kind h1]
    exact (rfold_no1 w S b s.token s.more _ h asked r A items.length c h1).mono fun e w' ⟨he, hb⟩ => ⟨he, keep w' hb⟩
  · have h2 : r.kind = 8 := Decidable.byContradiction fun hn => h1 (.inl hn)
    have h3 : asked = s.token := Decidable.byContradiction fun hn => h1 (.inr hn)
    by_cases h4 : r.err = 8
    · rw [fold_tok h2 h3 h4, h3]
      exact rfold_all w S b s.token s.more _ h r A items.length c h2 h4
    · by_cases h5 : r.err = 0
      · by_cases h6 : r.token < asked
        · rw [fold_low h2 h3 h5 h6, h3]
          exact (rfold_no3 w S b s.token s.more _ h r A items.length c h2 h5 (h3 ▸ h6)).mono fun e w' ⟨he, hb⟩ => ⟨he, keep w' hb⟩
        · have hmain := rfold_items w S b s.token s.more _ h hSw r items A c h2 h5 (h3 ▸ h6) hr hAS (by rw [List.length_map]; exact hl)
          have hbase : rfoldIts (if s.token = 0 then [] else s.ml.map (·.2)) items = (foldIts (if s.token = 0 then [] else s.ml) items).map (·.2) := by
            by_cases h0 : s.token = 0
            · rw [if_pos h0, if_pos h0]; exact rfoldIts_map (ml := []) List.Pairwise.nil (fun _ he => by cases he) items
            · rw [if_neg h0, if_neg h0]; exact rfoldIts_map hri hky items
          rw [hbase, ← h3] at hmain
          refine hmain.mono fun e w' hh => ?_
          rcases hh with ⟨he, hbad, hb⟩ | ⟨he, hok, hrep, hchg⟩
          · rw [fold_bad h2 h3 h5 h6 hbad]
            exact ⟨he, keep w' hb⟩
          · rw [fold_ok h2 h3 h5 h6 hok]
            exact ⟨he, hrep, hchg⟩
      · rw [fold_err h2 h3 h4 h5, h3]
        exact (rfold_no2 w S b s.token s.more _ h r A items.length c h2 h4 h5).mono fun e w' ⟨he, hb⟩ => ⟨he, keep w' hb⟩

end Go.Proofs.Ytbeckfnhgeclnaa
