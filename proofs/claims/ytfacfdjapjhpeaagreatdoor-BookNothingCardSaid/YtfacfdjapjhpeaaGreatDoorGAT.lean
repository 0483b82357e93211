/-
  Fields: the field of a line, the program's.
-/
import Derived.Test.YtfacfdjapjhpeaaGreatDoorGAR
import Derived.Test.YtfacfdjapjhpeaaGreatDoorGAS
import Derived.Test.YtfacfdjapjhpeaaGreatDoorGAM
set_option linter.unusedVariables false
set_option linter.unusedSimpArgs false
namespace Go.Proofs.YtfacfdjapjhpeaaGreatDoor
open Go.RowKit

theorem bt_eqL (a : List UInt8) (s : ByteArray) : ((bs a).toList == s.toList) = decide (a = s.data.toList) := by
  rw [bs_toL, Lib.toList_data]
  by_cases h : a = s.data.toList <;> simp [h]
theorem bt_eqM (a b : List UInt8) : ((bs a).toList == (bs b).toList) = decide (a = b) := by
  rw [bs_toL, bs_toL]
  by_cases h : a = b <;> simp [h]
/-- What the cut leaves. -/
structure CutIs (S H A : List UInt8) : Prop where
  o : ∀ f, Found S f → headL f.k f.l = H ∧ f.v = A
  n : S = [] → H = []
  la : A.length ≤ S.length
  lh : H.length ≤ S.length
theorem bef_len' (c : UInt8) (l : List UInt8) : (bef c l).length ≤ l.length := (List.takeWhile_sublist _).length_le
theorem cut_is (S : List UInt8) : CutIs S (if 58 ∈ S then bef 58 S else S) (if 58 ∈ S then aft 58 S else []) := by
  by_cases h : (58 : UInt8) ∈ S
  · rw [if_pos h, if_pos h]
    exact ⟨fun f hf => ⟨(found_cut hf).2.1.symm, (found_cut hf).2.2.symm⟩, fun e => (by rw [e] at h; cases h), Nat.le_of_lt (aft_len 58 S h), bef_len' 58 S⟩
  · rw [if_neg h, if_neg h]
    exact ⟨fun f hf => absurd (found_cut hf).1 h, fun e => e, Nat.zero_le _, Nat.le_refl _⟩
theorem line_iff {S H A : List UInt8} (hc : CutIs S H A) {k l : Int} (hk : 1 ≤ k ∧ k ≤ 6) (he : headL k l = H) : lineF ⟨k, l, A⟩ = S ↔ Found S ⟨k, l, A⟩ := by
  constructor
  · intro h
    by_cases hm : MayF ⟨k, l, A⟩
    · exact ⟨hm, by rw [← line_yes hm]; exact h⟩
    · rw [line_no hm] at h
      have := hc.n h.symm
      rw [this] at he
      unfold headL at he
      exact absurd (List.append_eq_nil_iff.1 he).1 (fun e => (kindL_ne k).1 e hk)
  · exact found_line
/-- From which kind, from which label on. -/
def From1 (S : List UInt8) (k : Nat) : Prop := ∀ f, Found S f → (k : Int) ≤ f.k
def From2 (S : List UInt8) (k l : Nat) : Prop := ∀ f, Found S f → (k : Int) ≤ f.k ∧ (f.k = k → (l : Int) ≤ f.l)
theorem from1_0 (S : List UInt8) : From1 S 1 := fun f hf => (may_ok hf.1).1
theorem from2_0 {S : List UInt8} {k : Nat} (h : From1 S k) : From2 S k 0 := fun f hf => ⟨h f hf, fun _ => by have := may_ok hf.1; unfold okKL at this; omega⟩
theorem from2_up {S : List UInt8} {k : Nat} (h : From2 S k 4) : From1 S (k + 1) := fun f hf => by
  have h1 := h f hf
  have h2 := may_ok hf.1
  unfold okKL at h2
  have : f.k ≠ k := fun e => by have := h1.2 e; omega
  have := h1.1
  omega
theorem from1_end {S : List UInt8} (h : From1 S 7) : ∀ f, ¬ Found S f := fun f hf => by
  have h1 := h f hf
  have h2 := may_ok hf.1
  unfold okKL at h2
  omega
theorem from2_no {S : List UInt8} {k l : Nat} (h : From2 S k l) (hn : ∀ f, Found S f → f.k = k → f.l ≠ l) : From2 S k (l + 1) := fun f hf => by
  have h1 := h f hf
  refine ⟨h1.1, fun e => ?_⟩
  have := h1.2 e
  have := hn f hf e
  omega

set_option maxRecDepth 100000 in
set_option maxHeartbeats 4000000 in
theorem fparse_calls (s : ByteArray) (hs : s.size ≤ 1000000) (w : World) (ht : Tbs w) : Calls Tryz.prog 158 #[.string s] w fun e w' => e = .returned (fldR (parF s.data.toList) (parE s.data.toList)) ∧ Below w.heap.size w w' := by
  have hsl : s.data.toList.length = s.size := by simp
  obtain ⟨V, hV⟩ : ∃ V, parF s.data.toList = V := ⟨_, rfl⟩
  obtain ⟨F, hF⟩ : ∃ F, parE s.data.toList = F := ⟨_, rfl⟩
  rw [hV, hF]
  have HY : Hd (∀ f, Found s.data.toList f → V = f ∧ F = 0) := hd (fun f hf => by rw [← hV, ← hF]; exact par_yes hf)
  have HN : Hd ((∀ f, ¬ Found s.data.toList f) → V = noFld ∧ F = 1) := hd (fun h => by rw [← hV, ← hF]; exact par_no h)
  clear hV hF
  have hcut := cut_is s.data.toList
  obtain ⟨S, hS⟩ : ∃ S, s.data.toList = S := ⟨_, rfl⟩
  have HS := hd hS
  have hC := fun W (h : Tbl W) => cutc_calls 58 s (by omega) W h
  rw [hS] at HY HN hcut hC hsl
  clear hS
  have hC' : ∃ H A bb, CutIs S H A ∧ ∀ W, Tbl W → Calls Tryz.prog 157 #[.string s, .string ⟨#[58]⟩] W fun e w' => e = .returned (.tuple #[.string (bs H), .string (bs A), .bool bb]) ∧ Below W.heap.size W w' := by
    by_cases h : (58 : UInt8) ∈ S
    · simp only [if_pos h] at hcut hC
      exact ⟨_, _, _, hcut, hC⟩
    · simp only [if_neg h] at hcut hC
      refine ⟨_, _, false, hcut, fun W hW => (hC W hW).mono ?_⟩
      rintro e w' ⟨rfl, hb⟩
      exact ⟨by rw [← HS.o, bs_self], hb⟩
  clear hC hcut
  obtain ⟨H, A, bb, hcut, hC⟩ := hC'
  have hA : A.length ≤ 1000000 := by have := hcut.la; omega
  have HCI := hd hcut
  have H1 := hd hC
  clear hC hcut
  have HT := hd (fun W (h : Below w.heap.size w W) => ht.below h)
  obtain ⟨X, hX⟩ : ∃ X, X = w.alloc (.cells #[.int .i64 0, .int .i64 0, .string ⟨#[]⟩] 230) := ⟨_, rfl⟩
  have HB0 := hd (show Below w.heap.size w X by rw [hX]; exact (Below.refl _ w).alloc (Nat.le_refl _) _)
  have HK := hd (show Blk X w.heap.size 230 #[.int .i64 0, .int .i64 0, .string ⟨#[]⟩] by rw [hX]; exact Blk.new _ _ _)
  have HX := hd (show X.heap.size = w.heap.size + 1 by rw [hX]; simp)
  have hx := hd hX
  clear hX ht
  go_enter Tryz.func158, Tryz.ntmps158
  go_wp2_with fail
  rw [← hx.o]
  refine (H1.o X (HT.o X HB0.o).1).mono ?_
  rintro e w1 ⟨rfl, hb1⟩
  have HB1 : Hd (Below X.heap.size X w1) := hd hb1
  clear hb1
  go_wp2_with fail
  go_loopw [7, 8, 9, 10, 11, 3] (fun k _ _ _ _ _ wr => ∃ q : Nat, k = .int .i64 q ∧ 1 ≤ q ∧ q ≤ 7 ∧ Hd (From1 S q) ∧ Below X.heap.size X wr) (fun k _ _ _ _ _ _ => 7 - (RowKit.intOf k).toNat)
  case atStart => exact ⟨1, rfl, by omega, by omega, hd (from1_0 S), HB1.o⟩
  case round =>
    obtain ⟨q, rfl, hq1, hq7, hf, hbe⟩ := hrel
    obtain ⟨wo, rfl⟩ : ∃ wo : World, wo = wr := ⟨_, rfl⟩
    have HBO := hd hbe
    clear hbe
    by_cases hlt : q < 7
    · have hq6 : (q : Int) ≤ 6 := by omega
      have hq6' : decide ((q : Int) ≤ 6) = true := by simpa using hq6
      go_wp2_with fail
      go_loopw [8, 9, 10, 11, 3] (fun l _ _ _ _ wr => ∃ r : Nat, l = .int .i64 r ∧ r ≤ 4 ∧ Hd (From2 S q r) ∧ Below X.heap.size X wr) (fun l _ _ _ _ _ => 4 - (RowKit.intOf l).toNat)
      case atStart => exact ⟨0, rfl, by omega, hd (from2_0 hf.o), HBO.o⟩
      case round =>
        obtain ⟨r, rfl, hr4, hg, hbe⟩ := hrel
        obtain ⟨wi, rfl⟩ : ∃ wi : World, wi = wr := ⟨_, rfl⟩
        have HBI := hd hbe
        clear hbe
        by_cases hlt4 : r < 4
        · have C1 := label_calls q r wi
          have C2 := kind_calls q wi
          by_cases ho : okL q r
          · rw [show decide (okL (q : Int) r) = true by simp [ho], show labV (q : Int) r = labL r by rw [labV, if_pos ho]] at C1
            have hsum : bs (kindL q) ++ bs (labL r) = bs (headL q r) := bs_app2 _ _
            have hlk := kindL_len q
            have hll := labL_len r
            rw [← bs_size] at hlk hll
            by_cases he : headL q r = H
            · have hne := bt_eqM (headL q r) H
              rw [decide_eq_true he, ← hsum] at hne
              have hkk := ((okKL_iff (q : Int) r).2 ⟨by omega, ho⟩)
              have hli := line_iff HCI.o (k := q) (l := r) (by omega) he
              have K1 := hd C1
              have K2 := hd C2
              have K3 := hd (fline_calls ⟨q, r, A⟩ hA)
              simp only [fldV] at K3
              have hbox := (Blk.new wi 230 #[.int .i64 q, .int .i64 r, .string (bs A)])
              have HBA := hd (HBI.o.alloc HBI.o.size (.cells #[.int .i64 q, .int .i64 r, .string (bs A)] 230))
              have HBOX := hd hbox
              have HTA := hd (HT.o _ (HB0.o.trans (HBA.o.mono (by rw [HX.o]; omega))))
              obtain ⟨L1, hL1⟩ : ∃ L1, lineF ⟨q, r, A⟩ = L1 := ⟨_, rfl⟩
              rw [hL1] at K3 hli
              have heq := bt_eqL L1 s
              rw [HS.o] at heq
              have HLI := hd hli
              clear C1 C2 he ho hsum hli hL1 hbox hkk
              by_cases hfd : L1 = S
              · have HFD := hd (HY.o _ (HLI.o.1 hfd))
                rw [decide_eq_true hfd] at heq
                clear hfd HLI
                go_wp2_with fail
                refine K1.o.mono ?_
                rintro e w2 ⟨rfl, rfl⟩
                go_wp2_with fail
                refine K2.o.mono ?_
                rintro e w2 ⟨rfl, rfl⟩
                go_wp2_with fail
                refine (K3.o _ HTA.o).mono ?_
                rintro e w2 ⟨rfl, hb2⟩
                have HB2 := hd (HBA.o.trans (hb2.mono HBA.o.size))
                have k1 := HK.o.below HB2.o (by rw [HX.o]; omega)
                have k2 := HBOX.o.below hb2 (by simp)
                have b0 := k1.at_ 0 rfl
                have b1 := k1.at_ 1 rfl
                have b2 := k1.at_ 2 rfl
                have g0 := k1.frozen 0
                have g1 := k1.frozen 1
                have g2 := k1.frozen 2
                have a0 := k2.at_ 0 rfl
                have a1 := k2.at_ 1 rfl
                have a2 := k2.at_ 2 rfl
                have hl := k1.lt
                have hl2 := k2.lt
                have Q1 := hd k1
                clear k1 k2 hb2
                go_wp2
                (try simp only [Exit.inBlock, Exit.then])
                refine bodyPost_ret (res_cell rfl _ _ _ _ _ _ _ rfl (((Q1.o.set_ 0 _).set_ 1 _).set_ 2 _) rfl rfl rfl) rfl ⟨?_, ?_⟩
                · exact retF (f := ⟨q, r, A⟩) (a := 0) HFD.o.1.symm HFD.o.2.symm
                · exact ((((HB0.o.trans (HB2.o.mono (by rw [HX.o]; omega))).setCell (Nat.le_refl _) _).setCell (Nat.le_refl _) _).setCell (Nat.le_refl _) _)
              · have HN2 := hd (from2_no hg.o (fun f hf e1 e2 => hfd (HLI.o.2 (by
                  have := (HCI.o.o f hf).2
                  obtain ⟨fk, fl, fv⟩ := f
                  simp only at e1 e2 this
                  rw [e1, e2, this] at hf
                  exact hf))))
                rw [decide_eq_false hfd] at heq
                clear hfd HLI
                go_wp2_with fail
                refine K1.o.mono ?_
                rintro e w2 ⟨rfl, rfl⟩
                go_wp2_with fail
                refine K2.o.mono ?_
                rintro e w2 ⟨rfl, rfl⟩
                go_wp2_with fail
                refine (K3.o _ HTA.o).mono ?_
                rintro e w2 ⟨rfl, hb2⟩
                have HB2 := hd (HBA.o.trans (hb2.mono HBA.o.size))
                clear hb2
                go_wp2
                go_roundw
                case rel => exact ⟨r + 1, by go_num, by omega, HN2, HB2.o⟩
                case measure => simp [RowKit.intOf]; omega
            · have hne := bt_eqM (headL q r) H
              rw [decide_eq_false he, ← hsum] at hne
              have HN2 := hd (from2_no hg.o (fun f hf e1 e2 => he (by rw [← e1, ← e2]; exact (HCI.o.o f hf).1)))
              have K1 := hd C1
              have K2 := hd C2
              clear C1 C2 he ho hsum
              go_wp2_with fail
              refine K1.o.mono ?_
              rintro e w2 ⟨rfl, rfl⟩
              go_wp2_with fail
              refine K2.o.mono ?_
              rintro e w2 ⟨rfl, rfl⟩
              go_wp2
              go_roundw
              case rel => exact ⟨r + 1, by go_num, by omega, HN2, HBI.o⟩
              case measure => simp [RowKit.intOf]; omega
          · rw [show decide (okL (q : Int) r) = false by simp [ho]] at C1
            have HN2 := hd (from2_no hg.o (fun f hf e1 e2 => ho (by rw [← e1, ← e2]; exact ((okKL_iff _ _).1 (may_ok hf.1)).2)))
            have K1 := hd C1
            clear C1 C2 ho
            go_wp2_with fail
            refine K1.o.mono ?_
            rintro e w2 ⟨rfl, rfl⟩
            go_wp2
            go_roundw
            case rel => exact ⟨r + 1, by go_num, by omega, HN2, HBI.o⟩
            case measure => simp [RowKit.intOf]; omega
        · have hr : r = 4 := by omega
          subst hr
          have HN2 := hd (from2_up hg.o)
          go_wp2
          go_roundw
          case rel => exact ⟨q + 1, by go_num, by omega, by omega, HN2, HBI.o⟩
          case measure => simp [RowKit.intOf]; omega
    · have hq : q = 7 := by omega
      subst hq
      have HX2 := hd (HN.o (from1_end hf.o))
      have k1 := HK.o.below HBO.o (by rw [HX.o]; omega)
      have b0 := k1.at_ 0 rfl
      have b1 := k1.at_ 1 rfl
      have b2 := k1.at_ 2 rfl
      have g0 := k1.frozen 0
      have g1 := k1.frozen 1
      have g2 := k1.frozen 2
      have hl := k1.lt
      have K1 := hd k1
      clear k1
      go_wp2
      (try simp only [Exit.inBlock, Exit.then])
      refine bodyPost_ret (res_cell rfl _ _ _ _ _ _ _ rfl (((K1.o.set_ 0 _).set_ 1 _).set_ 2 _) rfl rfl rfl) rfl ⟨?_, ?_⟩
      · exact retF (f := noFld) (a := 1) HX2.o.1.symm HX2.o.2.symm
      · exact ((((HB0.o.trans (HBO.o.mono (by rw [HX.o]; omega))).setCell (Nat.le_refl _) _).setCell (Nat.le_refl _) _).setCell (Nat.le_refl _) _)

end Go.Proofs.YtfacfdjapjhpeaaGreatDoor
namespace Go.Proofs.YtfacfdjapjhpeaaGreatDoor
open Go.RowKit

/-- So far: the fields, what is left. -/
structure Sofar (S : List UInt8) (L : List Fld) (r : List UInt8) : Prop where
  may : AllMay L
  eq : S = textL L ++ r
theorem sofar_0 (S : List UInt8) : Sofar S [] S := ⟨(fun f hf => by cases hf), rfl⟩
theorem sofar_next {S r : List UInt8} {L : List Fld} {f : Fld} (h : Sofar S L r) (hr : r = bef 10 r ++ 10 :: aft 10 r) (hf : Found (bef 10 r) f) : Sofar S (L ++ [f]) (aft 10 r) := by
  refine ⟨fun g hg => ?_, ?_⟩
  · rcases List.mem_append.1 hg with hg | hg
    · exact h.may g hg
    · rw [List.mem_singleton.1 hg]; exact hf.1
  · rw [textL_snoc, found_line hf, h.eq]
    conv => lhs; rw [hr]
    simp
/-- What a parse hands back. -/
structure ParR (w : World) (s : List UInt8) (e : Ending) (w' : World) : Prop where
  o : ∃ (A : Option Addr) (m c : Nat), e = .returned (.tuple #[.slice A m c, .int .i64 (crdE s)]) ∧ m = (crdF s).length ∧ Row w' (From w.heap.size) 230 3 A m c (fsE (crdF s)) ∧ Below w.heap.size w w'
theorem ParR.no {w w' : World} {s : List UInt8} (h : ∀ l, ¬ Reads s l) (hb : Below w.heap.size w w') : ParR w s (.returned (.tuple #[.slice none 0 0, .int .i64 1])) w' :=
  ⟨⟨none, 0, 0, ret2 (crd_no h).2.symm, by rw [(crd_no h).1]; rfl, by rw [(crd_no h).1]; exact Row.nil _ _ _ _, hb⟩⟩
theorem ParR.yes {w w' : World} {s : List UInt8} {L : List Fld} {B : Option Addr} {m c : Nat} (h : Reads s L) (hm : m = L.length) (hr : Row w' (From w.heap.size) 230 3 B m c (fsE L)) (hb : Below w.heap.size w w') : ParR w s (.returned (.tuple #[.slice B m c, .int .i64 0])) w' :=
  ⟨⟨B, m, c, ret2 (crd_yes h).2.symm, by rw [(crd_yes h).1]; exact hm, by rw [(crd_yes h).1]; exact hr, hb⟩⟩

set_option maxRecDepth 100000 in
set_option maxHeartbeats 8000000 in
theorem cparse_calls (s : ByteArray) (hs : s.size ≤ 1000000) (w : World) (ht : Tbs w) : Calls Tryz.prog 134 #[.string s] w fun e w' => ParR w s.data.toList e w' := by
  obtain ⟨i0, hi, hz0, hz1, hz2⟩ := info_parts fInfo
  have HSL := hd (show s.data.toList.length = s.size by simp)
  obtain ⟨S, hS⟩ : ∃ S, s.data.toList = S := ⟨_, rfl⟩
  have HS := hd hS
  rw [hS] at HSL ⊢
  clear hS
  have HT := hd (fun W (h : Below w.heap.size w W) => ht.below h)
  clear ht
  by_cases h9 : 900 < s.size
  · have HNO := hd (show ∀ l, ¬ Reads S l from fun l h => by have := (reads_len h).1; rw [HSL.o] at this; omega)
    have h9i : (900 : Int) < (s.size : Int) := by omega
    go_enter Tryz.func134, Tryz.ntmps134
    go_wp2
    go_ret2
    exact ParR.no HNO.o (Below.refl _ _)
  · have h9i : ¬ (900 : Int) < (s.size : Int) := by omega
    have HRS := hd (show s = bs S by rw [← HS.o, bs_self])
    go_enter Tryz.func134, Tryz.ntmps134
    go_wp2_with fail
    go_loopw [5, 6, 7, 8, 9, 10, 4, 2, 3] (fun rest _ _ _ _ _ out _ _ wr => ∃ (rb : ByteArray) (r : List UInt8) (L : List Fld) (B : Option Addr) (k d : Nat), rest = .string rb ∧ rb.size = r.length ∧ Hd (rb = bs r) ∧ out = .slice B k d ∧ Hd (k = L.length) ∧ k + r.length ≤ 900 ∧ Hd (Sofar S L r) ∧ Hd (Row wr (From w.heap.size) 230 3 B k d (fsE L)) ∧ Hd (Below w.heap.size w wr)) (fun rest _ _ _ _ _ _ _ _ _ => match rest with | .string b => b.size | _ => 0)
    case atStart => exact ⟨s, S, [], none, 0, 0, rfl, HSL.o.symm, HRS, rfl, rfl, by rw [HSL.o]; omega, hd (sofar_0 S), hd (Row.nil _ _ _ _), hd (Below.refl _ _)⟩
    case round =>
      obtain ⟨rb, r, L, B, k, d, rfl, hrz, HRB, rfl, HK, hk9, HSO, HRO, HW⟩ := hrel
      obtain ⟨wi, rfl⟩ : ∃ wi : World, wi = wr := ⟨_, rfl⟩
      by_cases hr0 : r = []
      · have hrb : (rb.toList == []) = true := by rw [HRB.o, bs_toL, hr0]; rfl
        have HEQ := hd (show S = textL L by have := HSO.o.eq; rw [hr0, List.append_nil] at this; exact this)
        have HND := hd (fun m (h : Reads S m) => (reads_end (r := []) HSO.o.may (by rw [← HEQ.o]; simp) (by simp) h).1)
        have HOF := hd (fun (h1 : cardE L = 0) (h2 : cardT L = S) => reads_of (r := []) HSO.o.may (by rw [← HEQ.o]; simp) h1 h2)
        have C1 := hd (ctext_calls wi (HT.o _ HW.o) B k d L HK.o HRO.o.rds (by omega) (fun f hf => by have := may_len (HSO.o.may f hf); omega))
        have heq : ((bs (cardT L)).toList == s.toList) = decide (cardT L = S) := by rw [bt_eqL, HS.o]
        by_cases hg : cardE L = 0 ∧ cardT L = S
        · have HRD := hd (HOF.o hg.1 hg.2)
          rw [hg.1] at C1
          rw [decide_eq_true hg.2] at heq
          generalize bs (cardT L) = T at C1 heq
          clear hg hr0
          go_wp2_with fail
          refine C1.o.mono ?_
          rintro e w2 ⟨rfl, hb2⟩
          have HR2 := hd (HRO.o.below hb2)
          have HW2 := hd (HW.o.trans (hb2.mono HW.o.size))
          clear hb2
          go_wp2
          go_ret2
          exact ParR.yes HRD.o HK.o HR2.o HW2.o
        · have HNO := hd (show ∀ l, ¬ Reads S l from fun m h => by
            have e := HND.o m h
            subst e
            exact hg (reads_text h))
          by_cases he : cardE L = 0
          · have hne : ¬ cardT L = S := fun h => hg ⟨he, h⟩
            rw [he] at C1
            rw [decide_eq_false hne] at heq
            generalize bs (cardT L) = T at C1 heq
            clear hg hr0 he hne
            go_wp2_with fail
            refine C1.o.mono ?_
            rintro e w2 ⟨rfl, hb2⟩
            have HW2 := hd (HW.o.trans (hb2.mono HW.o.size))
            clear hb2
            go_wp2
            go_ret2
            exact ParR.no HNO.o HW2.o
          · have nE : (cardE L != 0) = true := by simpa using he
            generalize cardE L = ce at C1 nE
            generalize bs (cardT L) = T at C1
            clear hg hr0 he heq HOF
            go_wp2_with fail
            refine C1.o.mono ?_
            rintro e w2 ⟨rfl, hb2⟩
            have HW2 := hd (HW.o.trans (hb2.mono HW.o.size))
            clear hb2
            go_wp2
            go_ret2
            exact ParR.no HNO.o HW2.o
      · have hrb : (rb.toList == []) = false := by
          rw [HRB.o, bs_toL]
          cases r with
          | nil => exact absurd rfl hr0
          | cons a t => rfl
        have hrd : rb.data.toList = r := by rw [HRB.o, bs_data]
        have hsz : rb.size ≤ 900 := by rw [hrz]; omega
        have C1 := cutc_calls 10 rb (by omega) wi (HT.o _ HW.o).1
        rw [hrd] at C1
        by_cases hin : (10 : UInt8) ∈ r
        · simp only [if_pos hin] at C1
          have HSP := hd (bef_aft 10 r hin)
          have hal := aft_len 10 r hin
          have hbl := bef_le 10 r
          have HCUT := hd (fun m (h : Reads S m) => reads_cut HSO.o.may (show S = textL L ++ (bef 10 r ++ 10 :: aft 10 r) by rw [← HSP.o]; exact HSO.o.eq) (bef_not 10 r) h)
          have HNX := hd (fun f (h : Found (bef 10 r) f) => sofar_next HSO.o HSP.o h)
          have C2 := fun W (h : Below w.heap.size w W) => fparse_calls (bs (bef 10 r)) (by rw [bs_size]; omega) W (HT.o W h)
          rw [bs_data] at C2
          have hz2' : (bs (aft 10 r)).size = (aft 10 r).length := bs_size _
          have HAF := hd (show bs (aft 10 r) = bs (aft 10 r) from rfl)
          obtain ⟨af, haf⟩ : ∃ af, aft 10 r = af := ⟨_, rfl⟩
          rw [haf] at hal hz2' HNX C1
          have K1 := hd C1
          rcases par_or (bef 10 r) with ⟨f, hf, e1, e2⟩ | ⟨hno, e1, e2⟩
          · rw [e1, e2] at C2
            have HSN := hd (HNX.o f hf)
            obtain ⟨fk, fl, fv⟩ := f
            simp only [fldR, fldV] at C2
            have K2 := hd C2
            clear C1 C2 hin e1 e2 hr0 haf hf HCUT HNX HSP HAF hrd
            go_wp2_with fail
            refine K1.o.mono ?_
            rintro e w2 ⟨rfl, hb2⟩
            have HW2 := hd (HW.o.trans (hb2.mono HW.o.size))
            have HR2 := hd (HRO.o.below hb2)
            clear hb2
            go_wp2_with fail
            refine (K2.o _ HW2.o).mono ?_
            rintro e w3 ⟨rfl, hb3⟩
            have HW3 := hd (HW2.o.trans (hb3.mono HW2.o.size))
            have HR3 := hd (HR2.o.below hb3)
            have hsw := HW3.o.size
            clear hb3
            go_wp2_with (at_builtin; go_loud (refine wpList_append_row rfl _ _ 198 rfl (From w.heap.size) 230 i0 (.agg #[.int .i64 0, .int .i64 0, .string ⟨#[]⟩]) 3 32 Tryz.underlying198 hi hz0 hz1 hz2 rfl B k d (fsE L) rfl ((HR3.o.alloc _).alloc _) ⟨_, 0, none⟩ 1 1 [.int .i64 fk, .int .i64 fl, .string (bs fv)] rfl rfl (cells_at (Blk.new_ _ _ (by simp) _ _) rfl) (by simp [Value.oneCell']) (by omega) (by unfold maxLen; omega) (by omega) ?_; intro A2 c2 w4 hown4 hchg4))
            go_roundw
            case rel =>
              refine ⟨_, af, L ++ [⟨fk, fl, fv⟩], A2, k + 1, c2, rfl, hz2', rfl, rfl, hd (by rw [List.length_append, HK.o]; rfl), by omega, HSN, hd ?_, hd ?_⟩
              · rw [fsE_snoc]
                exact hown4.mono (fun q hq => by
                  rcases hq with hq | hq
                  · exact hq
                  · simp at hq; show w.heap.size ≤ q; omega)
              · exact HW3.o.trans ((((Chg.refl (From w.heap.size) w3).alloc _).alloc _).trans hchg4 (fun q hq => .inl hq) |>.below (fun _ h => h) hsw)
            case measure => show (bs af).size < rb.size; omega
          · rw [e1, e2] at C2
            have HNO := hd (show ∀ l, ¬ Reads S l from fun m h => by obtain ⟨f, hf⟩ := HCUT.o m h; exact hno f hf)
            simp only [fldR, fldV, noFld] at C2
            have K2 := hd C2
            clear hno C1 C2 hin e1 e2 hr0 haf HCUT HNX HSP HAF hrd
            go_wp2_with fail
            refine K1.o.mono ?_
            rintro e w2 ⟨rfl, hb2⟩
            have HW2 := hd (HW.o.trans (hb2.mono HW.o.size))
            clear hb2
            go_wp2_with fail
            refine (K2.o _ HW2.o).mono ?_
            rintro e w3 ⟨rfl, hb3⟩
            have HW3 := hd (HW2.o.trans (hb3.mono HW2.o.size))
            clear hb3
            go_wp2
            go_ret2
            exact ParR.no HNO.o (HW3.o.alloc HW3.o.size _)
        · simp only [if_neg hin] at C1
          have HNO := hd (show ∀ l, ¬ Reads S l from fun m h => hr0 (reads_end HSO.o.may HSO.o.eq hin h).2)
          obtain ⟨p, pe, hp⟩ : ∃ p pe, ∀ W, Below w.heap.size w W → Calls Tryz.prog 158 #[.string rb] W fun e w' => e = .returned (fldR p pe) ∧ Below W.heap.size W w' := ⟨_, _, fun W h => fparse_calls rb (by omega) W (HT.o W h)⟩
          obtain ⟨pk, pl, pv⟩ := p
          simp only [fldR, fldV] at hp
          have K1 := hd C1
          have K2 := hd hp
          clear hp C1 hin hr0 hrd
          go_wp2_with fail
          refine K1.o.mono ?_
          rintro e w2 ⟨rfl, hb2⟩
          have HW2 := hd (HW.o.trans (hb2.mono HW.o.size))
          clear hb2
          go_wp2_with fail
          refine (K2.o _ HW2.o).mono ?_
          rintro e w3 ⟨rfl, hb3⟩
          have HW3 := hd (HW2.o.trans (hb3.mono HW2.o.size))
          clear hb3
          go_wp2
          go_ret2
          exact ParR.no HNO.o (HW3.o.alloc HW3.o.size _)

end Go.Proofs.YtfacfdjapjhpeaaGreatDoor
namespace Go.Proofs.YtfacfdjapjhpeaaGreatDoor
open Go.RowKit

theorem cis_calls (s : ByteArray) (hs : s.size ≤ 1000000) (w : World) (ht : Tbs w) : Calls Tryz.prog 105 #[.string s] w fun e w' => e = .returned (.bool (decide (crdE s.data.toList = 0))) ∧ Below w.heap.size w w' := by
  have C1 := hd (cparse_calls s hs w ht)
  clear ht
  obtain ⟨v, hv⟩ : ∃ v, decide (crdE s.data.toList = 0) = v := ⟨_, rfl⟩
  rw [hv]
  have hve : (crdE s.data.toList == 0) = v := by rw [← hv]; rfl
  have HV := hd hve
  clear hv hve
  go_enter Tryz.func105, Tryz.ntmps105
  go_wp2_with fail
  refine C1.o.mono ?_
  rintro e w1 ⟨⟨B, m, d, rfl, hm, hr, hb1⟩⟩
  have HB1 := hd hb1
  clear hm hr hb1
  go_wp2
  go_ret
  exact ⟨retBB HV.o, HB1.o⟩

end Go.Proofs.YtfacfdjapjhpeaaGreatDoor
namespace Go.Proofs.YtfacfdjapjhpeaaGreatDoor
open Go.RowKit

/-- Sizes that a walk bears. -/
structure RqS (q : Rq) : Prop where
  tn : q.tn.length ≤ 1000000
  col : q.col.length ≤ 1000000
  uid : q.uid.length ≤ 1000000
  card : q.card.length ≤ 1000000
  ops : q.ops.length ≤ 1000000
  op : ∀ o ∈ q.ops, o.uid.length ≤ 1000000 ∧ o.card.length ≤ 1000000
def namA (h1 h2 h3 n1 n2 n3 : Bool) : Bool := (!h1 || n1) && (!h2 || n2) && (!h3 || n3)
def namC (ops : List OpV) : Bool := ops.all (fun o => uidB o.uid)
theorem nam_parts (q : Rq) : namedB q = (namA (hT q.k) (hC q.k) (hU q.k) (nameB q.tn) (nameB q.col) (uidB q.uid) && namC q.ops) := by
  unfold namedB namA namC
  simp only [Bool.and_assoc]

set_option maxRecDepth 100000 in
set_option maxHeartbeats 8000000 in
theorem named_calls (q : Rq) (A : Option Addr) (c : Nat) (h : isK q.k = true) (w : World) (hr : Rds w A q.ops.length 5 (opsE q.ops)) (hs : RqS q) :
    Calls Tryz.prog 69 #[reqV q A c, .agg (hasE q.k).toArray] w fun e w' => e = .returned (.bool (namedB q)) ∧ Below w.heap.size w w' := by
  have hsa := shapeA h
  have hb := hs.ops
  have C1 := fun W => name_calls (bs q.tn) (by rw [bs_size]; have := hs.tn; omega) W
  have C2 := fun W => name_calls (bs q.col) (by rw [bs_size]; have := hs.col; omega) W
  have C3 := fun W => uid_calls (bs q.uid) (by rw [bs_size]; have := hs.uid; omega) W
  have C4 := hd (fun o (ho : o ∈ q.ops) W => uid_calls (bs o.uid) (by rw [bs_size]; have := (hs.op o ho).1; omega) W)
  rw [bs_data] at C1 C2 C3
  obtain ⟨sb, hsq⟩ : ∃ sb, namedB q = sb := ⟨_, rfl⟩
  rw [hsq]
  rw [nam_parts q] at hsq
  obtain ⟨k, tn, col, uid, card, ck, cv, ops, tok, most, ticks⟩ := q
  simp only at *
  unfold reqV reqE hasE
  simp only
  generalize hT k = h1 at *
  generalize hC k = h2 at *
  generalize hU k = h3 at *
  generalize hCd k = h4 at *
  generalize hCn k = h5 at *
  generalize hO k = h6 at *
  generalize hTk k = h7 at *
  generalize hM k = h8 at *
  generalize hTi k = h9 at *
  generalize nameB tn = n1 at *
  generalize nameB col = n2 at *
  generalize uidB uid = n3 at *
  obtain ⟨sa, hA⟩ : ∃ sa, namA h1 h2 h3 n1 n2 n3 = sa := ⟨_, rfl⟩
  rw [hA] at hsq
  have HS := hd hsq
  have HA := hd hA
  replace C1 := hd C1
  replace C2 := hd C2
  replace C3 := hd C3
  obtain ⟨n, hn⟩ : ∃ n, ops.length = n := ⟨_, rfl⟩
  have HN := hd hn
  rw [hn] at hr hb ⊢
  have HR := hd hr
  clear hA hsq hn hr hs
  obtain ⟨X, hX⟩ : ∃ X, X = (w.alloc (.cells #[.int .i64 k, .string (bs tn), .string (bs col), .string (bs uid), .string (bs card), .int .i64 ck, .int .i64 cv, .slice A n c, .int .i64 tok, .int .i64 most, .int .i64 ticks] 45)).alloc (.cells #[.bool h1, .bool h2, .bool h3, .bool h4, .bool h5, .bool h6, .bool h7, .bool h8, .bool h9] 138) := ⟨_, rfl⟩
  have q1 : Blk X w.heap.size 45 #[.int .i64 k, .string (bs tn), .string (bs col), .string (bs uid), .string (bs card), .int .i64 ck, .int .i64 cv, .slice A n c, .int .i64 tok, .int .i64 most, .int .i64 ticks] := by rw [hX]; exact (Blk.new _ _ _).alloc _
  have q2 : Blk X (w.heap.size + 1) 138 #[.bool h1, .bool h2, .bool h3, .bool h4, .bool h5, .bool h6, .bool h7, .bool h8, .bool h9] := by rw [hX]; exact Blk.new_ _ _ (by simp) _ _
  have HBX := hd (show Below w.heap.size w X by rw [hX]; exact twoB _ _ _)
  have r1 := q1.at_ 1 rfl
  have r2 := q1.at_ 2 rfl
  have r3 := q1.at_ 3 rfl
  have r7 := q1.at_ 7 rfl
  have t0 := q2.at_ 0 rfl
  have t1 := q2.at_ 1 rfl
  have t2 := q2.at_ 2 rfl
  have HX := hd hX
  clear q1 q2 hX
  go_enter Tryz.func69, Tryz.ntmps69
  go_upto_region 1 with (fail)
  rw [← HX.o]
  go_cut [0, 1, 34] from 7 to 34 (fun _ _ s34 wx => s34 = .bool (!sa) ∧ wx = X)
  case first =>
    clear h
    rcases hsa with ⟨rfl, rfl, rfl, rfl, rfl⟩ | ⟨rfl, rfl, rfl, rfl, rfl⟩ | ⟨rfl, rfl, rfl, rfl, rfl⟩ | ⟨rfl, rfl, rfl, rfl, rfl⟩ | ⟨rfl, rfl, rfl, rfl, rfl⟩ | ⟨rfl, rfl, rfl, rfl, rfl⟩ <;> cases n1 <;> cases n2 <;> cases n3
    all_goals
      obtain rfl := HA.o
      go_wp2_with (first | (go_at_call 42; (with_reducible refine (C1.o _).mono ?_); rintro e w' ⟨rfl, rfl⟩) | (go_at_call 42; (with_reducible refine (C2.o _).mono ?_); rintro e w' ⟨rfl, rfl⟩) | (go_at_call 104; (with_reducible refine (C3.o _).mono ?_); rintro e w' ⟨rfl, rfl⟩))
      go_meet
      exact ⟨rfl, rfl⟩
  case rest =>
  obtain ⟨rfl, hwc⟩ := hcut
  subst hwc
  cases sa with
  | false =>
    go_wp2
    go_ret
    exact ⟨ret_bool (by rw [← HS.o]; rfl), HBX.o⟩
  | true =>
  have HS2 := hd (show namC ops = sb by rw [← HS.o]; rfl)
  clear hsa t0 t1 t2 r1 r2 r3 C1 C2 C3 HA
  go_wp2_with fail
  go_loopw [38, 6] (fun i _ wr => ∃ k : Nat, i = .int .i64 k ∧ k ≤ n ∧ Hd (namC (ops.take k) = true) ∧ Hd (Below w.heap.size w wr) ∧ Hd (Below wc.heap.size wc wr)) (fun i _ _ => n - (RowKit.intOf i).toNat)
  case atStart => exact ⟨0, rfl, Nat.zero_le _, hd rfl, HBX, hd (Below.refl _ _)⟩
  case round =>
    obtain ⟨k, rfl, hk, HV, HB, HBC⟩ := hrel
    have hki : (0 : Int) ≤ (k : Int) := by omega
    by_cases hlt : k < n
    · have hlti : (k : Int) < (n : Int) := by omega
      have hkl : k < ops.length := by rw [HN.o]; exact hlt
      obtain ⟨g, o, rfl, hg, hc⟩ := HR.o.at_ (by omega)
      obtain ⟨x, hx⟩ : ∃ x, ops[k]'hkl = x := ⟨_, rfl⟩
      have HT : Hd (ops.take (k + 1) = ops.take k ++ [x]) := hd (by rw [List.take_succ_eq_append_getElem hkl, hx])
      have hmem : x ∈ ops := by rw [← hx]; exact List.getElem_mem hkl
      have HMEM := hd hmem
      have hcell : ∀ j u, j < 5 → (opEnc x)[j]? = some u → wr.cell? ⟨g, o + (k * 5 + j), none⟩ = some u := fun j u hj hv => (HB.o.cell (p := ⟨g, o + (k * 5 + j), none⟩) hg).trans (hc _ _ ((opsE_at ops k hkl j hj).trans (by rw [hx]; exact hv)))
      have K4 := C4.o x hmem
      rw [bs_data] at K4
      obtain ⟨xd, xu, xc, xk, xv⟩ := x
      have k0 := hcell 0 _ (by omega) rfl
      have k1 := hcell 1 _ (by omega) rfl
      have k2 := hcell 2 _ (by omega) rfl
      have k3 := hcell 3 _ (by omega) rfl
      have k4 := hcell 4 _ (by omega) rfl
      rw [← Nat.add_assoc] at k0 k1 k2 k3 k4
      rw [Nat.add_zero] at k0
      have HA := hd (HB.o.alloc HB.o.size (.cells #[.bool xd, .string (bs xu), .string (bs xc), .int .i64 xk, .int .i64 xv] 60))
      have HAC := hd (HBC.o.alloc HBC.o.size (.cells #[.bool xd, .string (bs xu), .string (bs xc), .int .i64 xk, .int .i64 xv] 60))
      have HBAD := hd (show uidB xu = false → sb = false from fun h => by
        rw [← HS2.o, namC]
        exact List.all_eq_false.2 ⟨_, HMEM.o, by simp [h]⟩)
      have HGO := hd (show uidB xu = true → namC (ops.take (k + 1)) = true from fun h => by
        have := HV.o
        unfold namC at *
        rw [HT.o, List.all_append, this]
        simpa using h)
      simp only at K4
      generalize uidB xu = ub at *
      replace K4 := hd K4
      clear hcell hc hx hkl hmem
      cases ub with
      | true =>
        have HG := hd (HGO.o rfl)
        go_wp2_with (go_at_call 104; refine (K4.o _).mono ?_; rintro e w' ⟨rfl, rfl⟩)
        go_roundw
        case rel => ((repeat apply Exists.intro); exact ⟨⟨k + 1, by go_num, by omega, HG, HA, HAC⟩, rfl⟩)
        case measure => simp [RowKit.intOf]; omega
      | false =>
        have HG := hd (HBAD.o rfl)
        go_wp2_with (go_at_call 104; refine (K4.o _).mono ?_; rintro e w' ⟨rfl, rfl⟩)
        go_ret
        exact ⟨ret_bool HG.o.symm, HA.o⟩
    · obtain rfl : k = n := by omega
      have HE : Hd (sb = true) := hd (by
        rw [← HS2.o, ← HV.o, List.take_of_length_le (by rw [HN.o]; exact Nat.le_refl _)])
      go_wp2
      go_ret
      exact ⟨ret_bool HE.o.symm, HB.o⟩

end Go.Proofs.YtfacfdjapjhpeaaGreatDoor
namespace Go.Proofs.YtfacfdjapjhpeaaGreatDoor
open Go.RowKit

theorem shapeC {k : Int} (h : isK k = true) : (hCd k = true ∧ hCn k = true) ∨ (hCd k = false ∧ hCn k = true) ∨ (hCd k = false ∧ hCn k = false) := by
  rcases kind_or h with rfl | rfl | rfl | rfl | rfl | rfl | rfl | rfl | rfl | rfl | rfl <;> decide
def forA (h4 h5 i4 m5 : Bool) : Bool := (!h4 || i4) && (!h5 || m5)
noncomputable def forO (o : OpV) : Bool := (o.del || isB o.card) && mayP o.ck o.cv
noncomputable def forC (ops : List OpV) : Bool := ops.all forO
theorem for_parts (q : Rq) : formedB q = (forA (hCd q.k) (hCn q.k) (isB q.card) (mayP q.ck q.cv) && forC q.ops) := by
  unfold formedB forA forC forO
  rfl

set_option maxRecDepth 100000 in
set_option maxHeartbeats 8000000 in
theorem formed_calls (q : Rq) (A : Option Addr) (c : Nat) (h : isK q.k = true) (w : World) (ht : Tbs w) (hr : Rds w A q.ops.length 5 (opsE q.ops)) (hs : RqS q) :
    Calls Tryz.prog 70 #[reqV q A c, .agg (hasE q.k).toArray] w fun e w' => e = .returned (.bool (formedB q)) ∧ Below w.heap.size w w' := by
  have hsa := shapeC h
  have hb := hs.ops
  have C1 := fun W (h : Below w.heap.size w W) => cis_calls (bs q.card) (by rw [bs_size]; exact hs.card) W (ht.below h)
  have C2 := fun W => cmay_calls W q.ck q.cv
  have C4 := hd (fun o (ho : o ∈ q.ops) W (h : Below w.heap.size w W) => cis_calls (bs o.card) (by rw [bs_size]; exact (hs.op o ho).2) W (ht.below h))
  rw [bs_data] at C1
  obtain ⟨sb, hsq⟩ : ∃ sb, formedB q = sb := ⟨_, rfl⟩
  rw [hsq]
  rw [for_parts q] at hsq
  obtain ⟨k, tn, col, uid, card, ck, cv, ops, tok, most, ticks⟩ := q
  simp only at *
  unfold reqV reqE hasE
  simp only
  generalize hT k = h1 at *
  generalize hC k = h2 at *
  generalize hU k = h3 at *
  generalize hCd k = h4 at *
  generalize hCn k = h5 at *
  generalize hO k = h6 at *
  generalize hTk k = h7 at *
  generalize hM k = h8 at *
  generalize hTi k = h9 at *
  change ∀ W, Below w.heap.size w W → Calls Tryz.prog 105 #[.string (bs card)] W fun e w' => e = .returned (.bool (isB card)) ∧ Below W.heap.size W w' at C1
  generalize isB card = i4 at *
  generalize mayP ck cv = m5 at *
  obtain ⟨sa, hA⟩ : ∃ sa, forA h4 h5 i4 m5 = sa := ⟨_, rfl⟩
  rw [hA] at hsq
  have HS := hd hsq
  have HA := hd hA
  replace C1 := hd C1
  replace C2 := hd C2
  obtain ⟨n, hn⟩ : ∃ n, ops.length = n := ⟨_, rfl⟩
  have HN := hd hn
  rw [hn] at hr hb ⊢
  have HR := hd hr
  clear hA hsq hn hr hs ht
  obtain ⟨X, hX⟩ : ∃ X, X = (w.alloc (.cells #[.int .i64 k, .string (bs tn), .string (bs col), .string (bs uid), .string (bs card), .int .i64 ck, .int .i64 cv, .slice A n c, .int .i64 tok, .int .i64 most, .int .i64 ticks] 45)).alloc (.cells #[.bool h1, .bool h2, .bool h3, .bool h4, .bool h5, .bool h6, .bool h7, .bool h8, .bool h9] 138) := ⟨_, rfl⟩
  have q1 : Blk X w.heap.size 45 #[.int .i64 k, .string (bs tn), .string (bs col), .string (bs uid), .string (bs card), .int .i64 ck, .int .i64 cv, .slice A n c, .int .i64 tok, .int .i64 most, .int .i64 ticks] := by rw [hX]; exact (Blk.new _ _ _).alloc _
  have q2 : Blk X (w.heap.size + 1) 138 #[.bool h1, .bool h2, .bool h3, .bool h4, .bool h5, .bool h6, .bool h7, .bool h8, .bool h9] := by rw [hX]; exact Blk.new_ _ _ (by simp) _ _
  have HBX := hd (show Below w.heap.size w X by rw [hX]; exact twoB _ _ _)
  have r4 := q1.at_ 4 rfl
  have r5 := q1.at_ 5 rfl
  have r6 := q1.at_ 6 rfl
  have t3 := q2.at_ 3 rfl
  have t4 := q2.at_ 4 rfl
  have Q1 := hd q1
  have Q2 := hd q2
  have hl1 := q1.lt
  have hl2 := q2.lt
  have HX := hd hX
  clear q1 q2 hX
  go_enter Tryz.func70, Tryz.ntmps70
  go_upto_region 1 with (fail)
  rw [← HX.o]
  go_cut [0, 1, 24] from 7 to 24 (fun _ _ s24 wx => s24 = .bool (!sa) ∧ Hd (Below X.heap.size X wx))
  case first =>
    clear h
    rcases hsa with ⟨rfl, rfl⟩ | ⟨rfl, rfl⟩ | ⟨rfl, rfl⟩
    · go_wp2_with fail
      refine (C1.o _ HBX.o).mono ?_
      rintro e w1 ⟨rfl, hb1⟩
      have HB1 := hd hb1
      cases i4 with
      | false =>
        obtain rfl := HA.o
        clear hb1
        go_wp2_with fail
        go_meet
        exact ⟨by cases m5 <;> rfl, HB1⟩
      | true =>
        have r5' := (Q1.o.below hb1 hl1).at_ 5 rfl
        have r6' := (Q1.o.below hb1 hl1).at_ 6 rfl
        have t4' := (Q2.o.below hb1 hl2).at_ 4 rfl
        clear hb1 r5 r6 t4 r4 t3
        go_wp2_with fail
        refine (C2.o _).mono ?_
        rintro e w2 ⟨rfl, hb2⟩
        have HB2 := hd (HB1.o.trans (hb2.mono HB1.o.size))
        clear hb2
        go_wp2_with fail
        go_meet
        exact ⟨by rw [← HA.o]; rfl, HB2⟩
    · go_wp2_with fail
      refine (C2.o _).mono ?_
      rintro e w2 ⟨rfl, hb2⟩
      have HB2 := hd hb2
      clear hb2
      go_wp2_with fail
      go_meet
      exact ⟨by rw [← HA.o]; rfl, HB2⟩
    · go_wp2_with fail
      go_meet
      exact ⟨by rw [← HA.o]; rfl, hd (Below.refl _ _)⟩
  case rest =>
  obtain ⟨rfl, HBW⟩ := hcut
  have r7 := (Q1.o.below HBW.o hl1).at_ 7 rfl
  replace HBX := hd (HBX.o.trans (HBW.o.mono HBX.o.size))
  cases sa with
  | false =>
    go_wp2
    go_ret
    exact ⟨ret_bool (by rw [← HS.o]; rfl), HBX.o⟩
  | true =>
  have HS2 := hd (show forC ops = sb by rw [← HS.o]; rfl)
  have hlc := Nat.lt_of_lt_of_le hl1 HBW.o.size
  clear hsa t3 t4 r4 r5 r6 C1 C2 HA hl1 hl2 HBW
  go_wp2_with fail
  go_loopw [28, 6] (fun i _ wr => ∃ k : Nat, i = .int .i64 k ∧ k ≤ n ∧ Hd (forC (ops.take k) = true) ∧ Hd (Below w.heap.size w wr) ∧ Hd (Below wc.heap.size wc wr)) (fun i _ _ => n - (RowKit.intOf i).toNat)
  case atStart => exact ⟨0, rfl, Nat.zero_le _, hd rfl, HBX, hd (Below.refl _ _)⟩
  case round =>
    obtain ⟨k, rfl, hk, HV, HB, HBC⟩ := hrel
    have hki : (0 : Int) ≤ (k : Int) := by omega
    by_cases hlt : k < n
    · have hlti : (k : Int) < (n : Int) := by omega
      have hkl : k < ops.length := by rw [HN.o]; exact hlt
      obtain ⟨g, o, rfl, hg, hc⟩ := HR.o.at_ (by omega)
      obtain ⟨x, hx⟩ : ∃ x, ops[k]'hkl = x := ⟨_, rfl⟩
      have HT : Hd (ops.take (k + 1) = ops.take k ++ [x]) := hd (by rw [List.take_succ_eq_append_getElem hkl, hx])
      have hmem : x ∈ ops := by rw [← hx]; exact List.getElem_mem hkl
      have HMEM := hd hmem
      have hcell : ∀ j u, j < 5 → (opEnc x)[j]? = some u → wr.cell? ⟨g, o + (k * 5 + j), none⟩ = some u := fun j u hj hv => (HB.o.cell (p := ⟨g, o + (k * 5 + j), none⟩) hg).trans (hc _ _ ((opsE_at ops k hkl j hj).trans (by rw [hx]; exact hv)))
      obtain ⟨xd, xu, xc, xk, xv⟩ := x
      have k0 := hcell 0 _ (by omega) rfl
      have k1 := hcell 1 _ (by omega) rfl
      have k2 := hcell 2 _ (by omega) rfl
      have k3 := hcell 3 _ (by omega) rfl
      have k4 := hcell 4 _ (by omega) rfl
      rw [← Nat.add_assoc] at k0 k1 k2 k3 k4
      rw [Nat.add_zero] at k0
      have HA := hd (HB.o.alloc HB.o.size (.cells #[.bool xd, .string (bs xu), .string (bs xc), .int .i64 xk, .int .i64 xv] 60))
      have HAC := hd (HBC.o.alloc HBC.o.size (.cells #[.bool xd, .string (bs xu), .string (bs xc), .int .i64 xk, .int .i64 xv] 60))
      have HBK := hd (Blk.new wr 60 #[.bool xd, .string (bs xu), .string (bs xc), .int .i64 xk, .int .i64 xv])
      have K4 := C4.o _ hmem _ HA.o
      rw [bs_data] at K4
      have HBAD := hd (show forO ⟨xd, xu, xc, xk, xv⟩ = false → sb = false from fun h => by
        rw [← HS2.o, forC]
        exact List.all_eq_false.2 ⟨_, HMEM.o, by simp [h]⟩)
      have HGO := hd (show forO ⟨xd, xu, xc, xk, xv⟩ = true → forC (ops.take (k + 1)) = true from fun h => by
        have := HV.o
        unfold forC at *
        rw [HT.o, List.all_append, this]
        simpa using h)
      unfold forO at HBAD HGO
      simp only at HBAD HGO
      change Calls Tryz.prog 105 #[.string (bs xc)] (wr.alloc (.cells #[.bool xd, .string (bs xu), .string (bs xc), .int .i64 xk, .int .i64 xv] 60)) fun e w' => e = .returned (.bool (isB xc)) ∧ Below (wr.alloc (.cells #[.bool xd, .string (bs xu), .string (bs xc), .int .i64 xk, .int .i64 xv] 60)).heap.size (wr.alloc (.cells #[.bool xd, .string (bs xu), .string (bs xc), .int .i64 xk, .int .i64 xv] 60)) w' at K4
      generalize isB xc = ib at *
      have K5 := fun W => cmay_calls W xk xv
      generalize mayP xk xv = mb at *
      replace K4 := hd K4
      replace K5 := hd K5
      clear hcell hc hx hkl hmem
      cases xd with
      | true =>
        cases mb with
        | true =>
          have HG := hd (HGO.o rfl)
          go_wp2_with fail
          refine (K5.o _).mono ?_
          rintro e w2 ⟨rfl, hb2⟩
          have HB2 := hd (HA.o.trans (hb2.mono HA.o.size))
          have HB3 := hd (HAC.o.trans (hb2.mono HAC.o.size))
          clear hb2
          go_wp2
          go_roundw
          case rel => ((repeat apply Exists.intro); exact ⟨⟨k + 1, by go_num, by omega, HG, HB2, HB3⟩, rfl⟩)
          case measure => simp [RowKit.intOf]; omega
        | false =>
          have HG := hd (HBAD.o rfl)
          go_wp2_with fail
          refine (K5.o _).mono ?_
          rintro e w2 ⟨rfl, hb2⟩
          have HB2 := hd (HA.o.trans (hb2.mono HA.o.size))
          clear hb2
          go_wp2
          go_ret
          exact ⟨ret_bool HG.o.symm, HB2.o⟩
      | false =>
        cases ib with
        | false =>
          have HG := hd (HBAD.o rfl)
          go_wp2_with fail
          refine K4.o.mono ?_
          rintro e w2 ⟨rfl, hb2⟩
          have HB2 := hd (HA.o.trans (hb2.mono HA.o.size))
          clear hb2
          go_wp2
          go_ret
          exact ⟨ret_bool HG.o.symm, HB2.o⟩
        | true =>
          go_wp2_with fail
          refine K4.o.mono ?_
          rintro e w2 ⟨rfl, hb2⟩
          have HB2 := hd (HA.o.trans (hb2.mono HA.o.size))
          have HB3 := hd (HAC.o.trans (hb2.mono HAC.o.size))
          have hx := HBK.o.below hb2 (by simp)
          have m3 := hx.at_ 3 rfl
          have m4 := hx.at_ 4 rfl
          clear hb2 hx
          go_wp2_with fail
          refine (K5.o _).mono ?_
          rintro e w3 ⟨rfl, hb3⟩
          have HB4 := hd (HB2.o.trans (hb3.mono HB2.o.size))
          have HB5 := hd (HB3.o.trans (hb3.mono HB3.o.size))
          clear hb3
          cases mb with
          | true =>
            have HG := hd (HGO.o rfl)
            go_wp2
            go_roundw
            case rel => ((repeat apply Exists.intro); exact ⟨⟨k + 1, by go_num, by omega, HG, HB4, HB5⟩, rfl⟩)
            case measure => simp [RowKit.intOf]; omega
          | false =>
            have HG := hd (HBAD.o rfl)
            go_wp2
            go_ret
            exact ⟨ret_bool HG.o.symm, HB4.o⟩
    · obtain rfl : k = n := by omega
      have HE : Hd (sb = true) := hd (by
        rw [← HS2.o, ← HV.o, List.take_of_length_le (by rw [HN.o]; exact Nat.le_refl _)])
      go_wp2
      go_ret
      exact ⟨ret_bool HE.o.symm, HB.o⟩

end Go.Proofs.YtfacfdjapjhpeaaGreatDoor
namespace Go.Proofs.YtfacfdjapjhpeaaGreatDoor
open Go.RowKit

theorem chk_12 {q : Rq} (h : isK q.k = false) : chk q = 12 := by unfold chk; rw [if_pos h]
theorem chk_s {q : Rq} (h : isK q.k = true) (h2 : strayB q = true) : chk q = 1 := by unfold chk; rw [if_neg (by rw [h]; decide), if_pos h2]
theorem chk_n {q : Rq} (h : isK q.k = true) (h2 : strayB q = false) (h3 : namedB q = false) : chk q = 3 := by unfold chk; rw [if_neg (by rw [h]; decide), if_neg (by rw [h2]; decide), if_pos h3]
theorem chk_f {q : Rq} (h : isK q.k = true) (h2 : strayB q = false) (h3 : namedB q = true) (h4 : formedB q = false) : chk q = 1 := by unfold chk; rw [if_neg (by rw [h]; decide), if_neg (by rw [h2]; decide), if_neg (by rw [h3]; decide), if_pos h4]
theorem chk_o {q : Rq} (h : isK q.k = true) (h2 : strayB q = false) (h3 : namedB q = true) (h4 : formedB q = true) : chk q = if outB q = true then 12 else 0 := by unfold chk; rw [if_neg (by rw [h]; decide), if_neg (by rw [h2]; decide), if_neg (by rw [h3]; decide), if_neg (by rw [h4]; decide)]

set_option maxRecDepth 100000 in
set_option maxHeartbeats 8000000 in
theorem check_calls (q : Rq) (A : Option Addr) (c : Nat) (w : World) (ht : Tbs w) (hr : Rds w A q.ops.length 5 (opsE q.ops)) (hs : RqS q) :
    Calls Tryz.prog 41 #[reqV q A c] w fun e w' => e = .returned (.int .i64 (chk q)) ∧ Below w.heap.size w w' := by
  cases hk : isK q.k with
  | false =>
    have C0 := fun W => isk_calls q.k W
    rw [hk] at C0
    have HV := hd (chk_12 hk)
    replace C0 := hd C0
    unfold reqV reqE
    generalize hX : chk q = X at *
    obtain ⟨k, tn, col, uid, card, ck, cv, ops, tok, most, ticks⟩ := q
    simp only at *
    obtain rfl := HV.o
    generalize ops.length = n at *
    clear hr hs hk ht hX
    go_enter Tryz.func41, Tryz.ntmps41
    go_wp2_with (go_at_call 66; refine (C0.o _).mono ?_; rintro e w' ⟨rfl, rfl⟩)
    go_ret
    exact ⟨rfl, (Below.refl _ w).alloc (Nat.le_refl _) _⟩
  | true =>
    have C0 := fun W => isk_calls q.k W
    rw [hk] at C0
    have C1 := hd (fun W => fields_calls q.k hk W)
    have C2 := hd (fun W (h : Below w.heap.size w W) => stray_calls q A c hk W (hr.below h) hs.ops)
    have C3 := hd (fun W (h : Below w.heap.size w W) => named_calls q A c hk W (hr.below h) hs)
    have C4 := hd (fun W (h : Below w.heap.size w W) => formed_calls q A c hk W (ht.below h) (hr.below h) hs)
    have HV1 := hd (fun h => chk_s hk h)
    have HV2 := hd (fun h h2 => chk_n hk h h2)
    have HV3 := hd (fun h h2 h3 => chk_f hk h h2 h3)
    have HV4 := hd (fun h h2 h3 => chk_o hk h h2 h3)
    have hsb := shapeB hk
    have hob : outB q = ((hO q.k && (decide (q.ops.length < 1) || decide (8 < q.ops.length))) || decide (q.tok < 0) || (hM q.k && (decide (q.most < 1) || decide (1000 < q.most))) || decide (q.ticks < 0) || decide (1048576 < q.ticks)) := rfl
    replace C0 := hd C0
    unfold reqV reqE hasE at *
    generalize chk q = X at *
    generalize strayB q = x1 at *
    generalize namedB q = x2 at *
    generalize formedB q = x3 at *
    generalize outB q = x4 at *
    obtain ⟨k, tn, col, uid, card, ck, cv, ops, tok, most, ticks⟩ := q
    simp only at *
    generalize hT k = h1 at *
    generalize hC k = h2 at *
    generalize hU k = h3 at *
    generalize hCd k = h4 at *
    generalize hCn k = h5 at *
    generalize hO k = h6 at *
    generalize hTk k = h7 at *
    generalize hM k = h8 at *
    generalize hTi k = h9 at *
    have hnm := hs.ops
    simp only at hnm
    generalize ops.length = n at *
    have HOB := hd hob
    clear hr hs hk ht hob
    obtain ⟨Y, hY⟩ : ∃ Y, Y = w.alloc (.cells #[.int .i64 k, .string (bs tn), .string (bs col), .string (bs uid), .string (bs card), .int .i64 ck, .int .i64 cv, .slice A n c, .int .i64 tok, .int .i64 most, .int .i64 ticks] 45) := ⟨_, rfl⟩
    have hbk : Blk Y w.heap.size 45 #[.int .i64 k, .string (bs tn), .string (bs col), .string (bs uid), .string (bs card), .int .i64 ck, .int .i64 cv, .slice A n c, .int .i64 tok, .int .i64 most, .int .i64 ticks] := by rw [hY]; exact Blk.new _ _ _
    have HBY := hd (show Below w.heap.size w Y by rw [hY]; exact (Below.refl _ w).alloc (Nat.le_refl _) _)
    have q0 := hbk.at_ 0 rfl
    have hl0 := hbk.lt
    have HK := hd hbk
    have HYY := hd hY
    clear hbk hY
    go_enter Tryz.func41, Tryz.ntmps41
    go_upto_region 1 with (fail)
    rw [← HYY.o]
    go_wp2_with (go_at_call 66; refine (C0.o _).mono ?_; rintro e w' ⟨rfl, rfl⟩)
    refine (C1.o _).mono ?_
    rintro e w1 ⟨rfl, hb1⟩
    have hk1 := HK.o.below hb1 HK.o.lt
    have HB1 := hd (HBY.o.trans (hb1.mono HBY.o.size))
    obtain ⟨Z, hZ⟩ : ∃ Z, Z = w1.alloc (.cells #[.bool h1, .bool h2, .bool h3, .bool h4, .bool h5, .bool h6, .bool h7, .bool h8, .bool h9] 138) := ⟨_, rfl⟩
    have hkz : Blk Z w.heap.size 45 #[.int .i64 k, .string (bs tn), .string (bs col), .string (bs uid), .string (bs card), .int .i64 ck, .int .i64 cv, .slice A n c, .int .i64 tok, .int .i64 most, .int .i64 ticks] := by rw [hZ]; exact hk1.alloc _
    have hhz : Blk Z w1.heap.size 138 #[.bool h1, .bool h2, .bool h3, .bool h4, .bool h5, .bool h6, .bool h7, .bool h8, .bool h9] := by rw [hZ]; exact Blk.new _ _ _
    have HBZ := hd (show Below w.heap.size w Z by rw [hZ]; exact HB1.o.alloc HB1.o.size _)
    have HZZ := hd hZ
    have HKZ := hd hkz
    have HHZ := hd hhz
    have a0 := hkz.at_ 0 rfl
    have a1 := hkz.at_ 1 rfl
    have a2 := hkz.at_ 2 rfl
    have a3 := hkz.at_ 3 rfl
    have a4 := hkz.at_ 4 rfl
    have a5 := hkz.at_ 5 rfl
    have a6 := hkz.at_ 6 rfl
    have a7 := hkz.at_ 7 rfl
    have a8 := hkz.at_ 8 rfl
    have a9 := hkz.at_ 9 rfl
    have a10 := hkz.at_ 10 rfl
    have e0 := hhz.at_ 0 rfl
    have e1 := hhz.at_ 1 rfl
    have e2 := hhz.at_ 2 rfl
    have e3 := hhz.at_ 3 rfl
    have e4 := hhz.at_ 4 rfl
    have e5 := hhz.at_ 5 rfl
    have e6 := hhz.at_ 6 rfl
    have e7 := hhz.at_ 7 rfl
    have e8 := hhz.at_ 8 rfl
    have la := hkz.lt
    have le := hhz.lt
    clear hb1 hk1 hZ hkz hhz q0 hl0 C0 C1 HK HYY
    go_upto_region 4 with (fail)
    rw [← HZZ.o]
    go_wp2_with fail
    refine (C2.o _ HBZ.o).mono ?_
    rintro e w2 ⟨rfl, hb2⟩
    have HB2 := hd (HBZ.o.trans (hb2.mono HBZ.o.size))
    have hk2 := HKZ.o.below hb2 la
    have hh2 := HHZ.o.below hb2 le
    clear a0 a1 a2 a3 a4 a5 a6 a7 a8 a9 a10 e0 e1 e2 e3 e4 e5 e6 e7 e8 la le hb2 HBZ
    cases x1 with
    | true =>
      have HV := hd (HV1.o (by first | rfl | trivial))
      go_wp2
      go_ret
      exact ⟨ret_int HV.o.symm, HB2.o⟩
    | false =>
      have HK2 := hd hk2
      have HH2 := hd hh2
      have a0 := hk2.at_ 0 rfl
      have a1 := hk2.at_ 1 rfl
      have a2 := hk2.at_ 2 rfl
      have a3 := hk2.at_ 3 rfl
      have a4 := hk2.at_ 4 rfl
      have a5 := hk2.at_ 5 rfl
      have a6 := hk2.at_ 6 rfl
      have a7 := hk2.at_ 7 rfl
      have a8 := hk2.at_ 8 rfl
      have a9 := hk2.at_ 9 rfl
      have a10 := hk2.at_ 10 rfl
      have e0 := hh2.at_ 0 rfl
      have e1 := hh2.at_ 1 rfl
      have e2 := hh2.at_ 2 rfl
      have e3 := hh2.at_ 3 rfl
      have e4 := hh2.at_ 4 rfl
      have e5 := hh2.at_ 5 rfl
      have e6 := hh2.at_ 6 rfl
      have e7 := hh2.at_ 7 rfl
      have e8 := hh2.at_ 8 rfl
      have la := hk2.lt
      have le := hh2.lt
      clear hk2 hh2
      go_wp2_with fail
      refine (C3.o _ HB2.o).mono ?_
      rintro e w3 ⟨rfl, hb3⟩
      have HB3 := hd (HB2.o.trans (hb3.mono HB2.o.size))
      have hk3 := HK2.o.below hb3 la
      have hh3 := HH2.o.below hb3 le
      clear a0 a1 a2 a3 a4 a5 a6 a7 a8 a9 a10 e0 e1 e2 e3 e4 e5 e6 e7 e8 la le hb3
      cases x2 with
      | false =>
        have HV := hd (HV2.o (by first | rfl | trivial) (by first | rfl | trivial))
        go_wp2
        go_ret
        exact ⟨ret_int HV.o.symm, HB3.o⟩
      | true =>
        have HK3 := hd hk3
        have HH3 := hd hh3
        have a0 := hk3.at_ 0 rfl
        have a1 := hk3.at_ 1 rfl
        have a2 := hk3.at_ 2 rfl
        have a3 := hk3.at_ 3 rfl
        have a4 := hk3.at_ 4 rfl
        have a5 := hk3.at_ 5 rfl
        have a6 := hk3.at_ 6 rfl
        have a7 := hk3.at_ 7 rfl
        have a8 := hk3.at_ 8 rfl
        have a9 := hk3.at_ 9 rfl
        have a10 := hk3.at_ 10 rfl
        have e0 := hh3.at_ 0 rfl
        have e1 := hh3.at_ 1 rfl
        have e2 := hh3.at_ 2 rfl
        have e3 := hh3.at_ 3 rfl
        have e4 := hh3.at_ 4 rfl
        have e5 := hh3.at_ 5 rfl
        have e6 := hh3.at_ 6 rfl
        have e7 := hh3.at_ 7 rfl
        have e8 := hh3.at_ 8 rfl
        have la := hk3.lt
        have le := hh3.lt
        clear hk3 hh3
        go_wp2_with fail
        refine (C4.o _ HB3.o).mono ?_
        rintro e w4 ⟨rfl, hb4⟩
        have HB4 := hd (HB3.o.trans (hb4.mono HB3.o.size))
        have hk4 := HK3.o.below hb4 la
        have hh4 := HH3.o.below hb4 le
        clear a0 a1 a2 a3 a4 a5 a6 a7 a8 a9 a10 e0 e1 e2 e3 e4 e5 e6 e7 e8 la le hb4
        cases x3 with
        | false =>
          have HV := hd (HV3.o (by first | rfl | trivial) (by first | rfl | trivial) (by first | rfl | trivial))
          go_wp2
          go_ret
          exact ⟨ret_int HV.o.symm, HB4.o⟩
        | true =>
          have HV := hd (HV4.o (by first | rfl | trivial) (by first | rfl | trivial) (by first | rfl | trivial))
          have a7 := hk4.at_ 7 rfl
          have a8 := hk4.at_ 8 rfl
          have a9 := hk4.at_ 9 rfl
          have a10 := hk4.at_ 10 rfl
          have e5 := hh4.at_ 5 rfl
          have e7 := hh4.at_ 7 rfl
          have la := hk4.lt
          have le := hh4.lt
          clear hk4 hh4 C2 C3 C4 HV1 HV2 HV3 HV4
          have HNO := hd (show x4 = true → X = 12 from fun h => by rw [HV.o, if_pos h])
          have HYES := hd (show x4 = false → X = 0 from fun h => by rw [HV.o, if_neg (by rw [h]; decide)])
          rcases hsb with ⟨rfl, rfl, rfl, rfl⟩ | ⟨rfl, rfl, rfl, rfl⟩ | ⟨rfl, rfl, rfl, rfl⟩ | ⟨rfl, rfl, rfl, rfl⟩
          all_goals
            go_wp2
            all_goals first
              | (exfalso; omega)
              | (go_ret; exact ⟨ret_int (HNO.o (by rw [HOB.o]; simp; omega)).symm, HB4.o⟩)
              | (go_ret; exact ⟨ret_int (HYES.o (by rw [HOB.o]; simp; omega)).symm, HB4.o⟩)

end Go.Proofs.YtfacfdjapjhpeaaGreatDoor
