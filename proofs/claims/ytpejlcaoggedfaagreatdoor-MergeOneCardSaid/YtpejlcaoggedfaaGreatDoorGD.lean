/-
  Merged cards, plain: the chapter's example.
-/
import Derived.Test.YtpejlcaoggedfaaGreatDoorGA
import Derived.Test.YtpejlcaoggedfaaGreatDoorMailL0
import Derived.Test.YtpejlcaoggedfaaGreatDoorMThr
import Derived.Test.YtpejlcaoggedfaaGreatDoorGB
set_option linter.unusedVariables false
set_option linter.unusedSimpArgs false
namespace Go.Proofs.YtpejlcaoggedfaaGreatDoor
open Go.RowKit

instance (l : List UInt8) : Decidable (LabP l) := by unfold LabP; infer_instance
instance (l : List UInt8) : Decidable (DomP l) := by unfold DomP; infer_instance
instance (l : List UInt8) : Decidable (dd l) := decidable_of_iff _ (contains_dd l)
instance (l : List UInt8) : Decidable (LocP l) := by unfold LocP; infer_instance
instance (l : List UInt8) : Decidable (AddrP l) := by unfold AddrP; infer_instance
def ft : Fld := ⟨3, 0, [49, 50, 51]⟩
def fm : Fld := ⟨4, 0, [97, 64, 98, 46, 99, 111]⟩
theorem ft_may : MayF ft := by
  have h := tel_self (l := [49, 50, 51]) (by unfold TelP; decide)
  refine ⟨?_, ?_⟩
  · show (if okKL 3 0 then valE 3 [49, 50, 51] else 1) = 0
    rw [if_pos (by decide)]
    unfold valE
    rw [if_pos rfl]
    exact h.2
  · show valT 3 [49, 50, 51] = [49, 50, 51]
    unfold valT
    rw [if_pos rfl]
    exact h.1
set_option maxRecDepth 100000 in
theorem fm_addr : AddrP [97, 64, 98, 46, 99, 111] := by decide +kernel
theorem fm_may : MayF fm := by
  have h := can_addr fm_addr
  refine ⟨?_, ?_⟩
  · show (if okKL 4 0 then valE 4 [97, 64, 98, 46, 99, 111] else 1) = 0
    rw [if_pos (by decide)]
    unfold valE
    rw [if_neg (by decide), if_pos rfl]
    exact h.2
  · show valT 4 [97, 64, 98, 46, 99, 111] = [97, 64, 98, 46, 99, 111]
    unfold valT
    rw [if_neg (by decide), if_pos rfl]
    exact h.1
theorem reads_small {l : List Fld} {s : List UInt8} (hm : AllMay l) (hr : Rises l) (hc : CntP l) (hl : l.length ≤ 12) (ht : textL l = s) (hs : s.length ≤ 900) : Reads s l := by
  have hs' := cans_self hm hr
  exact ⟨⟨cardE_of (errL_of fun f hf => (hm f hf).1) (by rw [hs']; exact hl) (by rw [hs']; exact hc) (by rw [hs', ht]; exact hs), hs'⟩, ht⟩
def sO : List UInt8 := [110, 97, 109, 101, 58, 65, 110, 110, 10, 116, 101, 108, 58, 49, 50, 51, 10]
def sB : List UInt8 := [110, 97, 109, 101, 58, 65, 110, 110, 10, 116, 101, 108, 58, 49, 50, 51, 10, 109, 97, 105, 108, 58, 97, 64, 98, 46, 99, 111, 10]
def sR : List UInt8 := [110, 97, 109, 101, 58, 65, 110, 110, 10, 109, 97, 105, 108, 58, 97, 64, 98, 46, 99, 111, 10]
theorem less_k {a b : Fld} (h : a.k < b.k) : LessP a b := .inl h
theorem may3 : AllMay [fa, ft, fm] := fun f hf => by
  simp at hf
  rcases hf with rfl | rfl | rfl
  · exact fa_may
  · exact ft_may
  · exact fm_may
theorem may_sub {l m : List Fld} (h : AllMay m) (hs : ∀ f ∈ l, f ∈ m) : AllMay l := fun f hf => h f (hs f hf)
theorem may_o : AllMay [fa, ft] := may_sub may3 (by simp)
theorem may_r : AllMay [fa, fm] := may_sub may3 (by simp)
theorem rises3 : Rises [fa, ft, fm] := by
  refine List.pairwise_cons.2 ⟨fun y hy => ?_, List.pairwise_cons.2 ⟨fun y hy => ?_, List.pairwise_singleton _ _⟩⟩
  · simp at hy
    rcases hy with rfl | rfl <;> exact less_k (by decide)
  · simp at hy
    subst hy
    exact less_k (by decide)
theorem rises_o : Rises [fa, ft] := List.pairwise_cons.2 ⟨fun y hy => by simp at hy; subst hy; exact less_k (by decide), List.pairwise_singleton _ _⟩
theorem rises_r : Rises [fa, fm] := List.pairwise_cons.2 ⟨fun y hy => by simp at hy; subst hy; exact less_k (by decide), List.pairwise_singleton _ _⟩
theorem text_o : textL [fa, ft] = sO := by
  unfold textL
  simp only [List.flatMap_cons, List.flatMap_nil]
  rw [line_yes fa_may, line_yes ft_may]
  rfl
theorem text_b : textL [fa, ft, fm] = sB := by
  unfold textL
  simp only [List.flatMap_cons, List.flatMap_nil]
  rw [line_yes fa_may, line_yes ft_may, line_yes fm_may]
  rfl
theorem text_r : textL [fa, fm] = sR := by
  unfold textL
  simp only [List.flatMap_cons, List.flatMap_nil]
  rw [line_yes fa_may, line_yes fm_may]
  rfl
theorem reads_o : Reads sO [fa, ft] := reads_small may_o rises_o (by decide) (by decide) text_o (by decide)
theorem reads_b : Reads sB [fa, ft, fm] := reads_small may3 rises3 (by decide) (by decide) text_b (by decide)
theorem reads_r : Reads sR [fa, fm] := reads_small may_r rises_r (by decide) (by decide) text_r (by decide)
theorem ex_list : mrgL [fa, ft] [fa] [fa, ft, fm] 6 = [fa, fm] := by decide
theorem ex_torn : mrgN [fa, ft] [fa] [fa, ft, fm] 6 = 0 := by decide
theorem ex_thr : thrT sO sN sB = sR ∧ thrM sO sN sB = 0 ∧ thrE sO sN sB = 0 := by
  have o := crd_yes reads_o
  have x := crd_yes fa1_reads
  have y := crd_yes reads_b
  have hok : thrOk sO sN sB := ⟨o.2, x.2, y.2⟩
  have hl : thrL sO sN sB = [fa, fm] := by unfold thrL; rw [o.1, x.1, y.1, ex_list]
  have hr := reads_text reads_r
  have h := thr_yes hok
  rw [hl, hr.1, hr.2] at h
  refine ⟨h.1, ?_, h.2⟩
  rw [thr_m hok (by rw [hl]; exact hr.1)]
  unfold thrN
  rw [o.1, x.1, y.1, ex_torn]

end Go.Proofs.YtpejlcaoggedfaaGreatDoor
namespace Go.Proofs.YtpejlcaoggedfaaGreatDoor
open Go.RowKit Go.Sort

set_option maxRecDepth 100000 in
set_option maxHeartbeats 2000000 in
theorem mfirst_calls (w : World) (ht : Tbs w) : Calls Tryz.prog 26 #[] w fun e w' => e = .returned (.bool true) ∧ Below w.heap.size w w' := by
  have C1 := three_calls (bs sO) (bs sN) (bs sB) (by decide) (by decide) (by decide) w ht
  rw [bs_data, bs_data, bs_data, ex_thr.1, ex_thr.2.1, ex_thr.2.2] at C1
  have hb0 : bs sO = ⟨#[110, 97, 109, 101, 58, 65, 110, 110, 10, 116, 101, 108, 58, 49, 50, 51, 10]⟩ := rfl
  have hb1 : bs sN = ⟨#[110, 97, 109, 101, 58, 65, 110, 110, 10]⟩ := rfl
  have hb2 : bs sB = ⟨#[110, 97, 109, 101, 58, 65, 110, 110, 10, 116, 101, 108, 58, 49, 50, 51, 10, 109, 97, 105, 108, 58, 97, 64, 98, 46, 99, 111, 10]⟩ := rfl
  rw [hb0, hb1, hb2] at C1
  have H1 := hd C1
  clear C1 hb0 hb1 hb2 ht
  go_enter Tryz.func26, Tryz.ntmps26
  go_wp2_with fail
  refine H1.o.mono ?_
  rintro e w1 ⟨rfl, hb1⟩
  have HB1 := hd hb1
  clear hb1
  have he : ((bs sR).toList == [110, 97, 109, 101, 58, 65, 110, 110, 10, 109, 97, 105, 108, 58, 97, 64, 98, 46, 99, 111, 10]) = true := by
    rw [ByteArray.toList_eq]; rfl
  go_wp2
  go_ret
  exact ⟨rfl, HB1.o⟩

def ShortP (so sa sb : ByteArray) : Prop := so.size ≤ 1000 ∧ sa.size ≤ 1000 ∧ sb.size ≤ 1000
instance (so sa sb : ByteArray) : Decidable (ShortP so sa sb) := by unfold ShortP; infer_instance
theorem mlight_calls (so sa sb : ByteArray) (ho : so.size ≤ maxLen) (ha : sa.size ≤ maxLen) (hb : sb.size ≤ maxLen) (w : World) :
    Calls Tryz.prog 27 #[.string so, .string sa, .string sb] w fun e w' => e = .returned (.bool (decide (ShortP so sa sb))) ∧ w = w' := by
  obtain ⟨v, hv⟩ : ∃ v, decide (ShortP so sa sb) = v := ⟨_, rfl⟩
  rw [hv]
  have HT := hd (show ShortP so sa sb → v = true from fun h => by rw [← hv]; exact decide_eq_true h)
  have HF := hd (show ¬ ShortP so sa sb → v = false from fun h => by rw [← hv]; exact decide_eq_false h)
  clear hv
  unfold maxLen at ho ha hb
  by_cases h1 : so.size ≤ 1000
  · have i1 : decide ((so.size : Int) ≤ 1000) = true := by simp; omega
    by_cases h2 : sa.size ≤ 1000
    · have i2 : decide ((sa.size : Int) ≤ 1000) = true := by simp; omega
      by_cases h3 : sb.size ≤ 1000
      · have i3 : decide ((sb.size : Int) ≤ 1000) = true := by simp; omega
        have HV := hd (HT.o ⟨h1, h2, h3⟩)
        clear h1 h2 h3
        go_enter Tryz.func27, Tryz.ntmps27
        go_wp2
        go_ret
        exact ⟨retBB HV.o.symm, rfl⟩
      · have i3 : decide ((sb.size : Int) ≤ 1000) = false := by simp; omega
        have HV := hd (HF.o (fun h => h3 h.2.2))
        clear h1 h2 h3
        go_enter Tryz.func27, Tryz.ntmps27
        go_wp2
        go_ret
        exact ⟨retBB HV.o.symm, rfl⟩
    · have i2 : decide ((sa.size : Int) ≤ 1000) = false := by simp; omega
      have HV := hd (HF.o (fun h => h2 h.2.1))
      clear h1 h2
      go_enter Tryz.func27, Tryz.ntmps27
      go_wp2
      go_ret
      exact ⟨retBB HV.o.symm, rfl⟩
  · have i1 : decide ((so.size : Int) ≤ 1000) = false := by simp; omega
    have HV := hd (HF.o (fun h => h1 h.1))
    clear h1
    go_enter Tryz.func27, Tryz.ntmps27
    go_wp2
    go_ret
    exact ⟨retBB HV.o.symm, rfl⟩

theorem thr_fail {a b c : List UInt8} (h : thrE a b c ≠ 0) : thrT a b c = [] ∧ thrM a b c = 0 := by
  by_cases hk : thrOk a b c
  · have h1 := thr_yes hk
    rw [h1.2] at h
    exact ⟨h1.1.trans (cardT_no h), thr_m0 h⟩
  · have := thr_no hk
    exact ⟨this.1, this.2.2⟩
theorem thr_ok {a b c : List UInt8} (h : thrE a b c = 0) : thrOk a b c ∧ cardE (thrL a b c) = 0 := by
  by_cases hk : thrOk a b c
  · exact ⟨hk, (thr_yes hk).2.symm.trans h⟩
  · rw [(thr_no hk).2.1] at h; cases h
theorem thr_len (a b c : List UInt8) : (thrT a b c).length ≤ 900 := by
  by_cases h : thrE a b c = 0
  · obtain ⟨h1, h2⟩ := thr_ok h
    rw [(thr_yes h1).1, cardT, if_pos h2]
    exact (cardE_0 h2).2.2.2
  · rw [(thr_fail h).1]; simp
theorem thr_may {a b c : List UInt8} (h : thrOk a b c) : AllMay (thrL a b c) := all_may_mrg (ok_may (crd_ok h.2.1)) (ok_may (crd_ok h.2.2))
theorem crd_reads {s : List UInt8} (h : crdE s = 0) : Reads s (crdF s) := by
  rcases crd_or s with ⟨l, h1, e, _⟩ | ⟨_, _, e⟩
  · rw [e]; exact h1
  · rw [e] at h; cases h
/-- Where the choice is one card's fields. -/
theorem thr_self {o a b s : List UInt8} (h : thrOk o a b) (hs : crdE s = 0) (hm : ∀ f, f ∈ thrL o a b ↔ f ∈ crdF s) (hn : thrN o a b = 0) : thrT o a b = s ∧ thrM o a b = 0 ∧ thrE o a b = 0 := by
  have h1 := card_self (crd_reads hs) (thr_may h) hm
  have h2 := thr_yes h
  exact ⟨h2.1.trans h1.2, (thr_m h h1.1).trans hn, h2.2.trans h1.1⟩
theorem thr_one {o a : List UInt8} (ho : crdE o = 0) (ha : crdE a = 0) : (thrT o o a = a ∧ thrM o o a = 0 ∧ thrE o o a = 0) ∧ (thrT o a o = a ∧ thrM o a o = 0 ∧ thrE o a o = 0) ∧ (thrT o a a = a ∧ thrM o a a = 0 ∧ thrE o a a = 0) := by
  have hm := ok_may (crd_ok ha)
  exact ⟨thr_self ⟨ho, ho, ha⟩ ha (mrg_of hm (pick1 _ _)) (mrgN_of (torn1 _ _) 6), thr_self ⟨ho, ha, ho⟩ ha (mrg_of hm (pick2 _ _)) (mrgN_of (torn2 _ _) 6), thr_self ⟨ho, ha, ha⟩ ha (mrg_of hm (pick3 _ _)) (mrgN_of (torn3 _ _) 6)⟩
theorem thr_turn {o a b : List UInt8} (h : thrE o a b = 0) (h' : thrE o b a = 0) : thrM o a b = thrM o b a ∧ (thrM o a b = 0 → thrT o a b = thrT o b a) := by
  obtain ⟨h1, h2⟩ := thr_ok h
  obtain ⟨h3, h4⟩ := thr_ok h'
  have hn : thrN o a b = thrN o b a := mrgN_turn _ _ _ 6
  rw [thr_m h1 h2, thr_m h3 h4, (thr_yes h1).1, (thr_yes h3).1]
  exact ⟨hn, fun h0 => (cards_same (thr_may h1) (thr_may h3) (fun f => mrg_turn h0 f)).2.2⟩
/-- What is merged is a card. -/
theorem thr_reads {o a b : List UInt8} (h : thrE o a b = 0) : Reads (thrT o a b) (cans (thrL o a b)) := by
  obtain ⟨h1, h2⟩ := thr_ok h
  rw [(thr_yes h1).1, cardT, if_pos h2]
  exact ⟨card_twice h2, rfl⟩
theorem thr_mem {o a b : List UInt8} (h : thrE o a b = 0) (f : Fld) : f ∈ crdF (thrT o a b) ↔ f ∈ thrL o a b := by
  rw [(crd_yes (thr_reads h)).1, cans, map_may (thr_may (thr_ok h).1), mem_rise]
theorem thr_some {o a b : List UInt8} (h : thrE o a b = 0) {f : Fld} (hf : f ∈ crdF (thrT o a b)) : f ∈ crdF a ∨ f ∈ crdF b := mrg_mem ((thr_mem h f).1 hf)
theorem thr_both {o a b : List UInt8} (h : thrE o a b = 0) {f : Fld} (ha : f ∈ crdF a) (hb : f ∈ crdF b) : f ∈ crdF (thrT o a b) :=
  (thr_mem h f).2 (mrg_both (crd_ok (thr_ok h).1.2.1) (crd_ok (thr_ok h).1.2.2) ha hb)
theorem chg_text {a b : List UInt8} (ha : crdE a = 0) (hb : crdE b = 0) : cardE ((crdF a).filter (fun f => decide (f ∉ woL (crdF a) (crdF b))) ++ woL (crdF b) (crdF a)) = 0 ∧ cardT ((crdF a).filter (fun f => decide (f ∉ woL (crdF a) (crdF b))) ++ woL (crdF b) (crdF a)) = b :=
  card_self (crd_reads hb) (fun f hf => ok_may (crd_ok hb) f ((mem_change f).1 hf)) mem_change

end Go.Proofs.YtpejlcaoggedfaaGreatDoor
namespace Go.Proofs.YtpejlcaoggedfaaGreatDoor
open Go.RowKit

theorem only_next {l : List Fld} {kd : Int} {k : Nat} (h : k < l.length) (h0 : onlyL (l.take k) kd = []) (hk : l[k].k ≠ kd) : onlyL (l.take (k + 1)) kd = [] := by
  rw [only_take l kd k h, h0, if_neg hk]; rfl
theorem only1_at {l : List Fld} {kd : Int} {k : Nat} (h : k < l.length) (h0 : onlyL (l.take k) kd = []) (hk : l[k].k = kd) : (onlyL l kd).take 1 = [l[k]] := by
  have e : l = l.take (k + 1) ++ l.drop (k + 1) := (List.take_append_drop (k + 1) l).symm
  have h1 : onlyL l kd = onlyL (l.take (k + 1)) kd ++ onlyL (l.drop (k + 1)) kd := by
    unfold onlyL
    rw [← List.filter_append, ← e]
  rw [h1, only_take l kd k h, h0, if_pos hk]
  rfl

set_option maxRecDepth 100000 in
set_option maxHeartbeats 2000000 in
theorem ronly_calls (w : World) (A : Option Addr) (n c : Nat) (l : List Fld) (kd : Nat) (hn : n = l.length) (hr : Rds w A n 3 (fsE l)) (hb : n ≤ 1000) :
    Calls Tryz.prog 49 #[.slice A n c, .int .i64 kd] w fun e w' => FsR w ((onlyL l kd).take 1) e w' := by
  have HN := hd hn
  have HR := hd hr
  clear hn hr
  go_enter Tryz.func49, Tryz.ntmps49
  go_wp2_with fail
  go_loop [5] (fun i => ∃ (k : Nat), i = .int .i64 k ∧ k ≤ n ∧ Hd (onlyL (l.take k) kd = [])) (fun i => n - (intOf i).toNat)
  case atStart => exact ⟨0, rfl, Nat.zero_le _, hd rfl⟩
  case round =>
    obtain ⟨k, rfl, hk, HE⟩ := hrel
    by_cases hlt : k < n
    · have hlti : decide ((k : Int) < (n : Int)) = true := by simp; omega
      have hkl : k < l.length := by rw [← HN.o]; exact hlt
      obtain ⟨f, hf⟩ : ∃ f, l[k]'hkl = f := ⟨_, rfl⟩
      obtain ⟨g, o, rfl, hg, hc⟩ := HR.o.at_ (by omega)
      have hcf : ∀ t u, t < 3 → (fEnc f)[t]? = some u → w.cell? ⟨g, o + k * 3 + t, none⟩ = some u := fun t u ht hv => by
        rw [Nat.add_assoc]
        exact hc _ _ ((fsE_at l k hkl t ht).trans (by rw [hf]; exact hv))
      have c0 := hcf 0 _ (by omega) rfl
      have c1 := hcf 1 _ (by omega) rfl
      have c2 := hcf 2 _ (by omega) rfl
      rw [Nat.add_zero] at c0
      clear hcf hc
      by_cases hfk : f.k = (kd : Int)
      · have HA := hd (show (onlyL l kd).take 1 = [f] by rw [only1_at hkl HE.o (by rw [hf]; exact hfk), hf])
        have hfe : (f.k == (kd : Int)) = true := by simpa using hfk
        have HB := hd ((Below.refl w.heap.size w).alloc (Nat.le_refl _) (.cells #[.int .i64 f.k, .int .i64 f.l, .string (bs f.v)] 36))
        have HK := hd (Blk.new w 36 #[.int .i64 f.k, .int .i64 f.l, .string (bs f.v)])
        clear hfk hf HE
        obtain ⟨fk, fl, fv⟩ := f
        go_wp2
        go_ret
        refine ⟨⟨_, 1, 1, rfl, by rw [HA.o]; rfl, ?_, HB.o⟩⟩
        rw [HA.o]
        exact Row.of_block HK.o (Nat.le_refl _) (Nat.le_refl _) (by unfold maxLen; omega) rfl rfl rfl
      · have HNX := hd (only_next hkl HE.o (by rw [hf]; exact hfk))
        have hfe : (f.k == (kd : Int)) = false := by simpa using hfk
        clear hfk hf HE
        obtain ⟨fk, fl, fv⟩ := f
        go_wp2
        go_round
        case rel => exact ⟨k + 1, by go_num, by omega, HNX⟩
        case measure => simp [intOf]; omega
    · have hlti : decide ((k : Int) < (n : Int)) = false := by simp; omega
      have HA := hd (show (onlyL l kd).take 1 = [] by
        have h := HE.o
        rw [List.take_of_length_le (by rw [← HN.o]; omega)] at h
        rw [h]; rfl)
      go_wp2
      go_ret
      exact ⟨⟨none, 0, 0, rfl, by rw [HA.o]; rfl, by rw [HA.o]; exact Row.nil _ _ _ _, Below.refl _ _⟩⟩

set_option maxRecDepth 100000 in
set_option maxHeartbeats 2000000 in
theorem rsame_calls (w : World) (A B : Option Addr) (n c m d : Nat) (l r : List Fld) (hn : n = l.length) (hm : m = r.length) (ha : Rds w A n 3 (fsE l)) (hb : Rds w B m 3 (fsE r)) (h1 : n ≤ 1) (h2 : m ≤ 1) :
    Calls Tryz.prog 50 #[.slice A n c, .slice B m d] w fun e w' => e = .returned (.bool (decide (l = r))) ∧ Below w.heap.size w w' := by
  obtain ⟨v, hv⟩ : ∃ v, decide (l = r) = v := ⟨_, rfl⟩
  rw [hv]
  have HT := hd (show l = r → v = true from fun h => by rw [← hv]; exact decide_eq_true h)
  have HF := hd (show ¬ l = r → v = false from fun h => by rw [← hv]; exact decide_eq_false h)
  have HN := hd hn
  have HM := hd hm
  have HA := hd ha
  have HB := hd hb
  clear hv hn hm ha hb
  by_cases hnm : n = m
  · subst hnm
    by_cases h0 : n = 0
    · subst h0
      have HV := hd (HT.o (by rw [List.eq_nil_of_length_eq_zero HN.o.symm, List.eq_nil_of_length_eq_zero HM.o.symm]))
      go_enter Tryz.func50, Tryz.ntmps50
      go_wp2_with fail
      go_quiet (fail)
      go_wp2
      go_ret
      exact ⟨retBB HV.o.symm, bdrewN (Below.refl _ _) _⟩
    · obtain rfl : n = 1 := by omega
      clear h0 h1 h2
      obtain ⟨x, hx⟩ : ∃ x, l = [x] := List.length_eq_one_iff.1 HN.o.symm
      obtain ⟨y, hy⟩ : ∃ y, r = [y] := List.length_eq_one_iff.1 HM.o.symm
      subst hx hy
      obtain ⟨g, o, hA, _, hc⟩ := HA.o.at_ (by omega)
      obtain ⟨g', o', hB, _, hc'⟩ := HB.o.at_ (by omega)
      subst hA hB
      have x0 := hc 0 (.int .i64 x.k) rfl
      have x1 := hc 1 (.int .i64 x.l) rfl
      have x2 := hc 2 (.string (bs x.v)) rfl
      have y0 := hc' 0 (.int .i64 y.k) rfl
      have y1 := hc' 1 (.int .i64 y.l) rfl
      have y2 := hc' 2 (.string (bs y.v)) rfl
      simp only [Nat.add_zero] at x0 y0
      clear hc hc'
      have hcase := fld_cases x y
      by_cases hxy : x = y
      · have HV := hd (HT.o (by rw [hxy]))
        clear hcase
        subst hxy
        obtain ⟨xk, xl, xv⟩ := x
        go_enter Tryz.func50, Tryz.ntmps50
        go_wp2_with fail
        go_quiet (fail)
        go_wp2
        go_ret
        exact ⟨retBB HV.o.symm, bdrewN (Below.refl _ _) _⟩
      · have HV := hd (HF.o (fun h => hxy (by injection h)))
        have HNE := hd hxy
        clear hxy
        obtain ⟨xk, xl, xv⟩ := x
        obtain ⟨yk, yl, yv⟩ := y
        simp only at hcase
        rcases hcase with he | he | ⟨he1, he2⟩ | ⟨he1, he2, he3⟩
        · exact absurd he HNE.o
        · clear HNE
          go_enter Tryz.func50, Tryz.ntmps50
          go_wp2_with fail
          go_quiet (fail)
          go_wp2
          go_ret
          exact ⟨retBB HV.o.symm, bdrewN (Below.refl _ _) _⟩
        · clear HNE
          subst he1
          go_enter Tryz.func50, Tryz.ntmps50
          go_wp2_with fail
          go_quiet (fail)
          go_wp2
          go_ret
          exact ⟨retBB HV.o.symm, bdrewN (Below.refl _ _) _⟩
        · clear HNE
          subst he1 he2
          go_enter Tryz.func50, Tryz.ntmps50
          go_wp2_with fail
          go_quiet (fail)
          go_wp2
          go_ret
          exact ⟨retBB HV.o.symm, bdrewN (Below.refl _ _) _⟩
  · have n1 : ((n : Int) == (m : Int)) = false := by simp; omega
    have HV := hd (HF.o (fun h => hnm (by rw [HN.o, HM.o, h])))
    clear hnm
    go_enter Tryz.func50, Tryz.ntmps50
    go_wp2_with fail
    go_quiet (fail)
    go_wp2
    go_ret
    exact ⟨retBB HV.o.symm, bdrewN (Below.refl _ _) _⟩

/-- What is gone, what has come. -/
noncomputable def goneL (a b : List UInt8) : List Fld := if crdE a = 0 ∧ crdE b = 0 then woL (crdF a) (crdF b) else []
noncomputable def chgE (a b : List UInt8) : Int := if crdE a = 0 ∧ crdE b = 0 then 0 else 1
theorem chg_no {a b : List UInt8} (h : ¬ (crdE a = 0 ∧ crdE b = 0)) : goneL a b = [] ∧ goneL b a = [] ∧ chgE a b = 1 := by
  refine ⟨by rw [goneL, if_neg h], by rw [goneL, if_neg (fun k => h ⟨k.2, k.1⟩)], by rw [chgE, if_neg h]⟩
theorem chg_yes {a b : List UInt8} (h : crdE a = 0 ∧ crdE b = 0) : goneL a b = woL (crdF a) (crdF b) ∧ goneL b a = woL (crdF b) (crdF a) ∧ chgE a b = 0 := by
  refine ⟨by rw [goneL, if_pos h], by rw [goneL, if_pos ⟨h.2, h.1⟩], by rw [chgE, if_pos h]⟩
theorem retC3 {A B : Option Addr} {n c m d : Nat} {e f : Int} (h : e = f) : Ending.returned (.tuple #[.slice A n c, .slice B m d, .int .i64 e]) = .returned (.tuple #[.slice A n c, .slice B m d, .int .i64 f]) := by rw [h]
structure ChgR (w : World) (a b : List UInt8) (e : Ending) (w' : World) : Prop where
  o : ∃ (A B : Option Addr) (n c m d : Nat), e = .returned (.tuple #[.slice A n c, .slice B m d, .int .i64 (chgE a b)]) ∧ n = (goneL a b).length ∧ m = (goneL b a).length ∧ Rds w' A n 3 (fsE (goneL a b)) ∧ Rds w' B m 3 (fsE (goneL b a)) ∧ n ≤ 12 ∧ m ≤ 12 ∧ Below w.heap.size w w'
theorem rds_nil (w : World) : Rds w none 0 3 (fsE []) := (Row.nil w (fun _ => False) 0 3).rds

set_option maxRecDepth 100000 in
set_option maxHeartbeats 4000000 in
theorem chg_calls (sa sb : ByteArray) (ha : sa.size ≤ 1000000) (hb : sb.size ≤ 1000000) (w : World) (ht : Tbs w) :
    Calls Tryz.prog 31 #[.string sa, .string sb] w fun e w' => ChgR w sa.data.toList sb.data.toList e w' := by
  have HT := hd (fun W (h : Below w.heap.size w W) => ht.below h)
  have P2 := hd (fun W (h : Below w.heap.size w W) => cparse_calls sa ha W (HT.o W h))
  have P3 := hd (fun W (h : Below w.heap.size w W) => cparse_calls sb hb W (HT.o W h))
  clear ht
  obtain ⟨SA, hSA⟩ : ∃ S, sa.data.toList = S := ⟨_, rfl⟩
  obtain ⟨SB, hSB⟩ : ∃ S, sb.data.toList = S := ⟨_, rfl⟩
  rw [hSA] at P2
  rw [hSB] at P3
  rw [hSA, hSB]
  clear hSA hSB
  have L2 := hd (crd_len SA)
  have L3 := hd (crd_len SB)
  obtain ⟨E2, hE2⟩ : ∃ e, crdE SA = e := ⟨_, rfl⟩
  obtain ⟨E3, hE3⟩ : ∃ e, crdE SB = e := ⟨_, rfl⟩
  obtain ⟨XA, hXA⟩ : ∃ l, crdF SA = l := ⟨_, rfl⟩
  obtain ⟨XB, hXB⟩ : ∃ l, crdF SB = l := ⟨_, rfl⟩
  rw [hXA] at L2
  rw [hXB] at L3
  have HE2 := hd hE2
  have HE3 := hd hE3
  have HXA := hd hXA
  have HXB := hd hXB
  have HNO := hd (fun (h : ¬ (E2 = 0 ∧ E3 = 0)) => chg_no (a := SA) (b := SB) (by rw [hE2, hE3]; exact h))
  have HOK := hd (fun (h : E2 = 0 ∧ E3 = 0) => chg_yes (a := SA) (b := SB) (by rw [hE2, hE3]; exact h))
  clear hE2 hE3 hXA hXB
  by_cases h2 : E2 = 0
  case neg =>
    have ne2 : (E2 != 0) = true := by simpa using h2
    have HV := hd (HNO.o (fun h => h2 h.1))
    clear h2 HNO HOK
    go_enter Tryz.func31, Tryz.ntmps31
    go_wp2_with fail
    refine (P2.o _ (Below.refl _ _)).mono ?_
    rintro e w2 ⟨⟨B2, m2, d2, rfl, hm2, hr2, hb2⟩⟩
    rw [HXA.o] at hm2 hr2
    rw [HE2.o]
    have M2 := hd hm2
    have R2 := hd hr2.rds
    have HB2 := hd hb2
    clear hm2 hr2 hb2
    go_wp2_with fail
    refine (P3.o _ HB2.o).mono ?_
    rintro e w5 ⟨⟨B3, m3, d3, rfl, hm3, hr3, hb3⟩⟩
    rw [HXB.o] at hm3 hr3
    rw [HE3.o]
    have M3 := hd hm3
    have R3 := hd hr3.rds
    replace R2 := hd (R2.o.below hb3)
    have HB5 := hd (HB2.o.trans (hb3.mono HB2.o.size))
    clear hm3 hr3 hb3
    go_wp2
    go_ret3
    exact ⟨⟨none, none, 0, 0, 0, 0, retC3 (by rw [HV.o.2.2]), by rw [HV.o.1]; rfl, by rw [HV.o.2.1]; rfl, by rw [HV.o.1]; exact rds_nil _, by rw [HV.o.2.1]; exact rds_nil _, by omega, by omega, HB5.o⟩⟩
  by_cases h3 : E3 = 0
  case neg =>
    have ne3 : (E3 != 0) = true := by simpa using h3
    have HV := hd (HNO.o (fun h => h3 h.2))
    clear h3 HNO HOK
    subst h2
    go_enter Tryz.func31, Tryz.ntmps31
    go_wp2_with fail
    refine (P2.o _ (Below.refl _ _)).mono ?_
    rintro e w2 ⟨⟨B2, m2, d2, rfl, hm2, hr2, hb2⟩⟩
    rw [HXA.o] at hm2 hr2
    rw [HE2.o]
    have M2 := hd hm2
    have R2 := hd hr2.rds
    have HB2 := hd hb2
    clear hm2 hr2 hb2
    go_wp2_with fail
    refine (P3.o _ HB2.o).mono ?_
    rintro e w5 ⟨⟨B3, m3, d3, rfl, hm3, hr3, hb3⟩⟩
    rw [HXB.o] at hm3 hr3
    rw [HE3.o]
    have M3 := hd hm3
    have R3 := hd hr3.rds
    replace R2 := hd (R2.o.below hb3)
    have HB5 := hd (HB2.o.trans (hb3.mono HB2.o.size))
    clear hm3 hr3 hb3
    go_wp2
    go_ret3
    exact ⟨⟨none, none, 0, 0, 0, 0, retC3 (by rw [HV.o.2.2]), by rw [HV.o.1]; rfl, by rw [HV.o.2.1]; rfl, by rw [HV.o.1]; exact rds_nil _, by rw [HV.o.2.1]; exact rds_nil _, by omega, by omega, HB5.o⟩⟩
  have HY := hd (HOK.o ⟨h2, h3⟩)
  clear HNO HOK
  subst h2 h3
  go_enter Tryz.func31, Tryz.ntmps31
  go_wp2_with fail
  refine (P2.o _ (Below.refl _ _)).mono ?_
  rintro e w2 ⟨⟨B2, m2, d2, rfl, hm2, hr2, hb2⟩⟩
  rw [HXA.o] at hm2 hr2
  rw [HE2.o]
  have M2 := hd hm2
  have R2 := hd hr2.rds
  have HB2 := hd hb2
  clear hm2 hr2 hb2
  go_wp2_with fail
  refine (P3.o _ HB2.o).mono ?_
  rintro e w5 ⟨⟨B3, m3, d3, rfl, hm3, hr3, hb3⟩⟩
  rw [HXB.o] at hm3 hr3
  rw [HE3.o]
  have M3 := hd hm3
  have R3 := hd hr3.rds
  replace R2 := hd (R2.o.below hb3)
  have HB5 := hd (HB2.o.trans (hb3.mono HB2.o.size))
  clear hm3 hr3 hb3
  have b2 : m2 ≤ 12 := by rw [M2.o]; exact L2.o
  have b3 : m3 ≤ 12 := by rw [M3.o]; exact L3.o
  have hw5 := HB5.o.size
  have HLA := hd (show (woL XA XB).length ≤ 12 from Nat.le_trans (wo_len _ _) L2.o)
  have HLB := hd (show (woL XB XA).length ≤ 12 from Nat.le_trans (wo_len _ _) L3.o)
  have W1 := hd (wo_calls w5 B2 B3 m2 d2 m3 d3 XA XB M2.o R2.o M3.o R3.o (by omega) (by omega))
  go_wp2_with fail
  refine W1.o.mono ?_
  rintro e w6 ⟨⟨Bp, mp, dp, rfl, hmp, hrp, hbp⟩⟩
  have W2 := hd (wo_calls w6 B3 B2 m3 d3 m2 d2 XB XA M3.o (R3.o.below hbp) M2.o (R2.o.below hbp) (by omega) (by omega))
  have HB6 := hd (HB5.o.trans (hbp.mono HB5.o.size))
  have RP := hd hrp.rds
  have MP := hd hmp
  clear hrp hmp hbp
  go_wp2_with fail
  refine W2.o.mono ?_
  rintro e w7 ⟨⟨Bq, mq, dq, rfl, hmq, hrq, hbq⟩⟩
  have HB7 := hd (HB6.o.trans (hbq.mono HB6.o.size))
  have RP7 := hd (RP.o.below hbq)
  have RQ := hd hrq.rds
  have MQ := hd hmq
  clear hrq hmq hbq
  go_wp2
  go_ret3
  exact ⟨⟨Bp, Bq, mp, dp, mq, dq, retC3 HY.o.2.2.symm, by rw [HY.o.1, HXA.o, HXB.o]; exact MP.o, by rw [HY.o.2.1, HXA.o, HXB.o]; exact MQ.o, by rw [HY.o.1, HXA.o, HXB.o]; exact RP7.o, by rw [HY.o.2.1, HXA.o, HXB.o]; exact RQ.o, by rw [MP.o]; exact HLA.o, by rw [MQ.o]; exact HLB.o, HB7.o⟩⟩

set_option maxRecDepth 100000 in
set_option maxHeartbeats 4000000 in
theorem rchg_calls (sa sb : ByteArray) (ha : sa.size ≤ 1000000) (hb : sb.size ≤ 1000000) (w : World) :
    Calls Tryz.prog 32 #[.string sa, .string sb] w fun e w' => ChgR w sa.data.toList sb.data.toList e w' := by
  obtain ⟨i0, hi, hz0, hz1, hz2⟩ := info_parts fInfo
  have P2 := hd (fun W (h : Below w.heap.size w W) => rcparse_calls sa ha W)
  have P3 := hd (fun W (h : Below w.heap.size w W) => rcparse_calls sb hb W)
  obtain ⟨SA, hSA⟩ : ∃ S, sa.data.toList = S := ⟨_, rfl⟩
  obtain ⟨SB, hSB⟩ : ∃ S, sb.data.toList = S := ⟨_, rfl⟩
  rw [hSA] at P2
  rw [hSB] at P3
  rw [hSA, hSB]
  clear hSA hSB
  have L2 := hd (crd_len SA)
  have L3 := hd (crd_len SB)
  obtain ⟨E2, hE2⟩ : ∃ e, crdE SA = e := ⟨_, rfl⟩
  obtain ⟨E3, hE3⟩ : ∃ e, crdE SB = e := ⟨_, rfl⟩
  obtain ⟨XA, hXA⟩ : ∃ l, crdF SA = l := ⟨_, rfl⟩
  obtain ⟨XB, hXB⟩ : ∃ l, crdF SB = l := ⟨_, rfl⟩
  rw [hXA] at L2
  rw [hXB] at L3
  have HE2 := hd hE2
  have HE3 := hd hE3
  have HXA := hd hXA
  have HXB := hd hXB
  have HNO := hd (fun (h : ¬ (E2 = 0 ∧ E3 = 0)) => chg_no (a := SA) (b := SB) (by rw [hE2, hE3]; exact h))
  have HOK := hd (fun (h : E2 = 0 ∧ E3 = 0) => chg_yes (a := SA) (b := SB) (by rw [hE2, hE3]; exact h))
  clear hE2 hE3 hXA hXB
  by_cases h2 : E2 = 0
  case neg =>
    have ne2 : (E2 != 0) = true := by simpa using h2
    have HV := hd (HNO.o (fun h => h2 h.1))
    clear h2 HNO HOK
    go_enter Tryz.func32, Tryz.ntmps32
    go_wp2_with fail
    refine (P2.o _ (Below.refl _ _)).mono ?_
    rintro e w2 ⟨⟨B2, m2, d2, rfl, hm2, hr2, hb2⟩⟩
    rw [HXA.o] at hm2 hr2
    rw [HE2.o]
    have M2 := hd hm2
    have R2 := hd hr2.rds
    have HB2 := hd hb2
    clear hm2 hr2 hb2
    go_wp2_with fail
    refine (P3.o _ HB2.o).mono ?_
    rintro e w5 ⟨⟨B3, m3, d3, rfl, hm3, hr3, hb3⟩⟩
    rw [HXB.o] at hm3 hr3
    rw [HE3.o]
    have M3 := hd hm3
    have R3 := hd hr3.rds
    replace R2 := hd (R2.o.below hb3)
    have HB5 := hd (HB2.o.trans (hb3.mono HB2.o.size))
    clear hm3 hr3 hb3
    go_wp2
    go_ret3
    exact ⟨⟨none, none, 0, 0, 0, 0, retC3 (by rw [HV.o.2.2]), by rw [HV.o.1]; rfl, by rw [HV.o.2.1]; rfl, by rw [HV.o.1]; exact rds_nil _, by rw [HV.o.2.1]; exact rds_nil _, by omega, by omega, HB5.o⟩⟩
  by_cases h3 : E3 = 0
  case neg =>
    have ne3 : (E3 != 0) = true := by simpa using h3
    have HV := hd (HNO.o (fun h => h3 h.2))
    clear h3 HNO HOK
    subst h2
    go_enter Tryz.func32, Tryz.ntmps32
    go_wp2_with fail
    refine (P2.o _ (Below.refl _ _)).mono ?_
    rintro e w2 ⟨⟨B2, m2, d2, rfl, hm2, hr2, hb2⟩⟩
    rw [HXA.o] at hm2 hr2
    rw [HE2.o]
    have M2 := hd hm2
    have R2 := hd hr2.rds
    have HB2 := hd hb2
    clear hm2 hr2 hb2
    go_wp2_with fail
    refine (P3.o _ HB2.o).mono ?_
    rintro e w5 ⟨⟨B3, m3, d3, rfl, hm3, hr3, hb3⟩⟩
    rw [HXB.o] at hm3 hr3
    rw [HE3.o]
    have M3 := hd hm3
    have R3 := hd hr3.rds
    replace R2 := hd (R2.o.below hb3)
    have HB5 := hd (HB2.o.trans (hb3.mono HB2.o.size))
    clear hm3 hr3 hb3
    go_wp2
    go_ret3
    exact ⟨⟨none, none, 0, 0, 0, 0, retC3 (by rw [HV.o.2.2]), by rw [HV.o.1]; rfl, by rw [HV.o.2.1]; rfl, by rw [HV.o.1]; exact rds_nil _, by rw [HV.o.2.1]; exact rds_nil _, by omega, by omega, HB5.o⟩⟩
  have HY := hd (HOK.o ⟨h2, h3⟩)
  clear HNO HOK
  subst h2 h3
  go_enter Tryz.func32, Tryz.ntmps32
  go_wp2_with fail
  refine (P2.o _ (Below.refl _ _)).mono ?_
  rintro e w2 ⟨⟨B2, m2, d2, rfl, hm2, hr2, hb2⟩⟩
  rw [HXA.o] at hm2 hr2
  rw [HE2.o]
  have M2 := hd hm2
  have R2 := hd hr2.rds
  have HB2 := hd hb2
  clear hm2 hr2 hb2
  go_wp2_with fail
  refine (P3.o _ HB2.o).mono ?_
  rintro e w5 ⟨⟨B3, m3, d3, rfl, hm3, hr3, hb3⟩⟩
  rw [HXB.o] at hm3 hr3
  rw [HE3.o]
  have M3 := hd hm3
  have R3 := hd hr3.rds
  replace R2 := hd (R2.o.below hb3)
  have HB5 := hd (HB2.o.trans (hb3.mono HB2.o.size))
  clear hm3 hr3 hb3
  have b2 : m2 ≤ 12 := by rw [M2.o]; exact L2.o
  have b3 : m3 ≤ 12 := by rw [M3.o]; exact L3.o
  have hw5 := HB5.o.size
  have HLA := hd (show (woL XA XB).length ≤ 12 from Nat.le_trans (wo_len _ _) L2.o)
  have HLB := hd (show (woL XB XA).length ≤ 12 from Nat.le_trans (wo_len _ _) L3.o)
  go_wp2_with fail
  go_loopw [10, 4] (fun i out wr => ∃ (k : Nat) (D : Option Addr) (q d : Nat), i = .int .i64 k ∧ k ≤ m2 ∧ out = .slice D q d ∧ q ≤ k ∧ Hd (q = (woL (XA.take k) XB).length) ∧ Hd (Row wr (From w5.heap.size) 36 3 D q d (fsE (woL (XA.take k) XB))) ∧ Hd (Below w5.heap.size w5 wr)) (fun i _ _ => m2 - (intOf i).toNat)
  case atStart => exact ⟨0, none, 0, 0, rfl, Nat.zero_le _, rfl, Nat.zero_le _, hd rfl, hd (Row.nil _ _ _ _), hd (Below.refl _ _)⟩
  case round =>
    obtain ⟨k, D, q, d, rfl, hk, rfl, hqk, HQ, HO, HW⟩ := hrel
    obtain ⟨wi, rfl⟩ : ∃ wi : World, wi = wr := ⟨_, rfl⟩
    by_cases hlt : k < m2
    · have hlti : decide ((k : Int) < (m2 : Int)) = true := by simp; omega
      have hkl : k < XA.length := by rw [← M2.o]; exact hlt
      have HST := hd (wo_take XA XB k hkl)
      obtain ⟨f, hf⟩ : ∃ f, XA[k]'hkl = f := ⟨_, rfl⟩
      rw [hf] at HST
      obtain ⟨g, o, rfl, hg, hc⟩ := (R2.o.below HW.o).at_ (by omega)
      have hcf : ∀ t u, t < 3 → (fEnc f)[t]? = some u → wi.cell? ⟨g, o + k * 3 + t, none⟩ = some u := fun t u ht hv => by
        rw [Nat.add_assoc]
        exact hc _ _ ((fsE_at XA k hkl t ht).trans (by rw [hf]; exact hv))
      have c0 := hcf 0 _ (by omega) rfl
      have c1 := hcf 1 _ (by omega) rfl
      have c2 := hcf 2 _ (by omega) rfl
      rw [Nat.add_zero] at c0
      clear hcf hc hf
      obtain ⟨v, hv⟩ : ∃ v, decide (f ∈ XB) = v := ⟨_, rfl⟩
      have K1 := has_calls wi B3 m3 d3 XB f M3.o (R3.o.below HW.o) (by omega)
      rw [hv] at K1
      have HV := hd hv
      obtain ⟨fk, fl, fv⟩ := f
      simp only [fldV] at K1
      replace K1 := hd K1
      clear hv
      go_wp2_with fail
      refine K1.o.mono ?_
      rintro e w6 ⟨rfl, hb6⟩
      have HR2 := hd (HO.o.below hb6)
      have HW2 := hd (HW.o.trans (hb6.mono HW.o.size))
      have hsz := HW2.o.size
      have c0' := (hb6.cell (p := ⟨g, o + k * 3, none⟩) hg).trans c0
      have c1' := (hb6.cell (p := ⟨g, o + k * 3 + 1, none⟩) hg).trans c1
      have c2' := (hb6.cell (p := ⟨g, o + k * 3 + 2, none⟩) hg).trans c2
      clear hb6 c0 c1 c2 K1
      cases v with
      | true =>
        have HE := hd (of_decide_eq_true HV.o)
        have HS2 := hd (by have := HST.o; rw [if_pos HE.o, List.append_nil] at this; exact this)
        go_wp2
        go_roundw
        case rel => exact ⟨k + 1, D, q, d, by go_num, by omega, rfl, by omega, hd (by rw [HS2.o]; exact HQ.o), hd (by rw [HS2.o]; exact HR2.o), HW2⟩
        case measure => simp [intOf]; omega
      | false =>
        have HE := hd (of_decide_eq_false HV.o)
        have HS2 := hd (by have := HST.o; rw [if_neg HE.o] at this; exact this)
        go_wp2_with (at_builtin; refine wpList_append_row rfl _ _ 22 rfl (From w5.heap.size) 36 i0 (.agg #[.int .i64 0, .int .i64 0, .string ⟨#[]⟩]) 3 32 Tryz.underlying22 hi hz0 hz1 hz2 rfl D q d (fsE (woL (XA.take k) XB)) rfl (HR2.o.alloc _) ⟨_, 0, none⟩ 1 1 [.int .i64 fk, .int .i64 fl, .string (bs fv)] rfl rfl (cells_at (Blk.new_ _ _ (by simp) _ _) rfl) (by simp [Value.oneCell']) (by omega) (by unfold maxLen; omega) (by omega) ?_; intro A2 cc2 w3 hown3 hchg3)
        go_roundw
        case rel =>
          refine ⟨k + 1, A2, q + 1, cc2, by go_num, by omega, rfl, by omega, hd ?_, hd ?_, hd ?_⟩
          · rw [HS2.o, List.length_append, ← HQ.o]; rfl
          · rw [HS2.o, fsE_snoc]
            exact hown3.mono (fun q hq => by
              rcases hq with hq | hq
              · exact hq
              · simp at hq; show w5.heap.size ≤ q; omega)
          · exact HW2.o.trans (((Chg.refl (From w5.heap.size) w6).alloc _).trans hchg3 (fun q hq => .inl hq) |>.below (fun _ h => h) hsz)
        case measure => simp [intOf]; omega
    · have hlti : decide ((k : Int) < (m2 : Int)) = false := by simp; omega
      have htk : XA.take k = XA := List.take_of_length_le (by rw [← M2.o]; omega)
      rw [htk] at HQ HO
      have HBw := hd (HB5.o.trans (HW.o.mono HB5.o.size))
      have R2' := hd (R2.o.below HW.o)
      have R3' := hd (R3.o.below HW.o)
      have RP := hd HO.o.rds
      have MP := hd HQ.o
      clear HW HO HQ htk
      clear R2 R3
      obtain ⟨Bp, rfl⟩ : ∃ B, B = D := ⟨_, rfl⟩
      obtain ⟨mp, rfl⟩ : ∃ B, B = q := ⟨_, rfl⟩
      obtain ⟨dp, rfl⟩ : ∃ B, B = d := ⟨_, rfl⟩
      obtain ⟨wo, rfl⟩ : ∃ W, W = wi := ⟨_, rfl⟩
      go_wp2_with fail
      go_loopw [11, 5] (fun i out wr => ∃ (k : Nat) (D : Option Addr) (q d : Nat), i = .int .i64 k ∧ k ≤ m3 ∧ out = .slice D q d ∧ q ≤ k ∧ Hd (q = (woL (XB.take k) XA).length) ∧ Hd (Row wr (From wo.heap.size) 36 3 D q d (fsE (woL (XB.take k) XA))) ∧ Hd (Below wo.heap.size wo wr)) (fun i _ _ => m3 - (intOf i).toNat)
      case atStart => exact ⟨0, none, 0, 0, rfl, Nat.zero_le _, rfl, Nat.zero_le _, hd rfl, hd (Row.nil _ _ _ _), hd (Below.refl _ _)⟩
      case round =>
        obtain ⟨k, D, q, d, rfl, hk, rfl, hqk, HQ, HO, HW⟩ := hrel
        obtain ⟨wi, rfl⟩ : ∃ wi : World, wi = wr := ⟨_, rfl⟩
        by_cases hlt : k < m3
        · have hlti : decide ((k : Int) < (m3 : Int)) = true := by simp; omega
          have hkl : k < XB.length := by rw [← M3.o]; exact hlt
          have HST := hd (wo_take XB XA k hkl)
          obtain ⟨f, hf⟩ : ∃ f, XB[k]'hkl = f := ⟨_, rfl⟩
          rw [hf] at HST
          obtain ⟨g, o, rfl, hg, hc⟩ := (R3'.o.below HW.o).at_ (by omega)
          have hcf : ∀ t u, t < 3 → (fEnc f)[t]? = some u → wi.cell? ⟨g, o + k * 3 + t, none⟩ = some u := fun t u ht hv => by
            rw [Nat.add_assoc]
            exact hc _ _ ((fsE_at XB k hkl t ht).trans (by rw [hf]; exact hv))
          have c0 := hcf 0 _ (by omega) rfl
          have c1 := hcf 1 _ (by omega) rfl
          have c2 := hcf 2 _ (by omega) rfl
          rw [Nat.add_zero] at c0
          clear hcf hc hf
          obtain ⟨v, hv⟩ : ∃ v, decide (f ∈ XA) = v := ⟨_, rfl⟩
          have K1 := has_calls wi B2 m2 d2 XA f M2.o (R2'.o.below HW.o) (by omega)
          rw [hv] at K1
          have HV := hd hv
          obtain ⟨fk, fl, fv⟩ := f
          simp only [fldV] at K1
          replace K1 := hd K1
          clear hv
          go_wp2_with fail
          refine K1.o.mono ?_
          rintro e w6 ⟨rfl, hb6⟩
          have HR2 := hd (HO.o.below hb6)
          have HW2 := hd (HW.o.trans (hb6.mono HW.o.size))
          have hsz := HW2.o.size
          have c0' := (hb6.cell (p := ⟨g, o + k * 3, none⟩) hg).trans c0
          have c1' := (hb6.cell (p := ⟨g, o + k * 3 + 1, none⟩) hg).trans c1
          have c2' := (hb6.cell (p := ⟨g, o + k * 3 + 2, none⟩) hg).trans c2
          clear hb6 c0 c1 c2 K1
          cases v with
          | true =>
            have HE := hd (of_decide_eq_true HV.o)
            have HS2 := hd (by have := HST.o; rw [if_pos HE.o, List.append_nil] at this; exact this)
            go_wp2
            go_roundw
            case rel => exact ⟨k + 1, D, q, d, by go_num, by omega, rfl, by omega, hd (by rw [HS2.o]; exact HQ.o), hd (by rw [HS2.o]; exact HR2.o), HW2⟩
            case measure => simp [intOf]; omega
          | false =>
            have HE := hd (of_decide_eq_false HV.o)
            have HS2 := hd (by have := HST.o; rw [if_neg HE.o] at this; exact this)
            go_wp2_with (at_builtin; refine wpList_append_row rfl _ _ 22 rfl (From wo.heap.size) 36 i0 (.agg #[.int .i64 0, .int .i64 0, .string ⟨#[]⟩]) 3 32 Tryz.underlying22 hi hz0 hz1 hz2 rfl D q d (fsE (woL (XB.take k) XA)) rfl (HR2.o.alloc _) ⟨_, 0, none⟩ 1 1 [.int .i64 fk, .int .i64 fl, .string (bs fv)] rfl rfl (cells_at (Blk.new_ _ _ (by simp) _ _) rfl) (by simp [Value.oneCell']) (by omega) (by unfold maxLen; omega) (by omega) ?_; intro A2 cc2 w3 hown3 hchg3)
            go_roundw
            case rel =>
              refine ⟨k + 1, A2, q + 1, cc2, by go_num, by omega, rfl, by omega, hd ?_, hd ?_, hd ?_⟩
              · rw [HS2.o, List.length_append, ← HQ.o]; rfl
              · rw [HS2.o, fsE_snoc]
                exact hown3.mono (fun q hq => by
                  rcases hq with hq | hq
                  · exact hq
                  · simp at hq; show wo.heap.size ≤ q; omega)
              · exact HW2.o.trans (((Chg.refl (From wo.heap.size) w6).alloc _).trans hchg3 (fun q hq => .inl hq) |>.below (fun _ h => h) hsz)
            case measure => simp [intOf]; omega
        · have hlti : decide ((k : Int) < (m3 : Int)) = false := by simp; omega
          have htk : XB.take k = XB := List.take_of_length_le (by rw [← M3.o]; omega)
          rw [htk] at HQ HO
          have HBf := hd (HBw.o.trans (HW.o.mono HBw.o.size))
          have RP7 := hd (RP.o.below HW.o)
          have RQ := hd HO.o.rds
          go_wp2
          go_ret3
          exact ⟨⟨Bp, D, mp, dp, q, d, retC3 HY.o.2.2.symm, by rw [HY.o.1, HXA.o, HXB.o]; exact MP.o, by rw [HY.o.2.1, HXA.o, HXB.o]; exact HQ.o, by rw [HY.o.1, HXA.o, HXB.o]; exact RP7.o, by rw [HY.o.2.1, HXA.o, HXB.o]; exact RQ.o, by rw [MP.o]; exact HLA.o, by rw [HQ.o]; exact HLB.o, HBf.o⟩⟩

end Go.Proofs.YtpejlcaoggedfaaGreatDoor
