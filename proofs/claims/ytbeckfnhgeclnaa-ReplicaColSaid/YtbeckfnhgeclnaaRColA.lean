/-
  The reference's collection: NewCol, place, Bytes, Get, Live.
-/
import Derived.Test.YtbeckfnhgeclnaaAppG
import Derived.Test.YtbeckfnhgeclnaaColLive
import Derived.Test.YtbeckfnhgeclnaaRing
import Derived.Test.YtbeckfnhgeclnaaRefP
import Derived.BigQuiet
import Derived.Deep.QuietTactic
import Derived.Laws.Cover1
set_option linter.unusedVariables false
set_option linter.unusedSimpArgs false
namespace Go.Proofs.Ytbeckfnhgeclnaa
open Go.RowKit Go.Lib

theorem rchInfo : (Try.prog.info? 114).map (fun i => (i.zero, i.size, i.bytes)) = some (some (.agg #[.int .i64 0, .string ⟨#[]⟩]), 2, 24) := by kernel_rfl
/-- The reference's collection at block b. -/
def RCol (w : World) (S : Nat → Prop) (b : Nat) (s : Cs) : Prop :=
  ∃ A c A2 c2, Blk w b 112 #[.int .i64 s.most, .int .i64 s.cap, .slice A (liveL s.ml).length c, .slice A2 s.log.length c2, .int .i64 s.latest, .int .i64 s.horizon] ∧
    Row w S 41 4 A (liveL s.ml).length c (itsEnc (liveL s.ml)) ∧ Row w S 114 2 A2 s.log.length c2 (chsEnc s.log) ∧ S b
theorem RCol.lt {w : World} {S : Nat → Prop} {b : Nat} {s : Cs} (h : RCol w S b s) : b < w.heap.size := by
  obtain ⟨A, c, A2, c2, hb, _⟩ := h
  exact hb.lt
theorem RCol.mono {w : World} {S T : Nat → Prop} {b : Nat} {s : Cs} (h : RCol w S b s) (hs : ∀ k, S k → T k) : RCol w T b s := by
  obtain ⟨A, c, A2, c2, h1, h2, h3, h4⟩ := h
  exact ⟨A, c, A2, c2, h1, h2.mono hs, h3.mono hs, hs _ h4⟩
theorem RCol.chg {w w' : World} {S T : Nat → Prop} {b : Nat} {s : Cs} (h : RCol w S b s) (hc : Chg T w w') (hd : ∀ k, S k → ¬ T k) : RCol w' S b s := by
  obtain ⟨A, c, A2, c2, h1, h2, h3, h4⟩ := h
  exact ⟨A, c, A2, c2, h1.chg hc (hd _ h4), h2.chg hc hd, h3.chg hc hd, h4⟩
theorem RCol.below {w w' : World} {S : Nat → Prop} {b : Nat} {s : Cs} (h : RCol w S b s) (hb : Below w.heap.size w w') : RCol w' S b s :=
  h.chg (Chg.of_below Non hb) (fun _ _ => id)
theorem RCol.shrink {w : World} {S : Nat → Prop} {b : Nat} {s : Cs} (h : RCol w S b s) : RCol w (fun k => S k ∧ k < w.heap.size) b s := by
  obtain ⟨A, c, A2, c2, h1, h2, h3, h4⟩ := h
  exact ⟨A, c, A2, c2, h1, ⟨h2.own, fun a ha => ⟨h2.fp a ha, h2.lt ha⟩⟩, ⟨h3.own, fun a ha => ⟨h3.fp a ha, h3.lt ha⟩⟩, h4, h1.lt⟩

theorem rcnew_calls (w : World) (S : Nat → Prop) (birth cards log : Int) (hS : S w.heap.size) :
    Calls Try.prog 43 #[.int .i64 birth, .int .i64 cards, .int .i64 log] w fun e w' => e = .returned (.pointer (some ⟨w.heap.size, 0, none⟩)) ∧ RCol w' S w.heap.size (Cs.new birth cards log) ∧ Below w.heap.size w w' := by
  go_enter Try.func43, Try.ntmps43
  go_wp2
  all_goals
    go_ret
    refine ⟨rfl, ⟨none, 0, none, 0, ?_, Row.nil _ _ _ _, Row.nil _ _ _ _, hS⟩, (Below.refl _ _).alloc (Nat.le_refl _) _⟩
    show Blk _ _ _ #[.int .i64 (max cards 1), .int .i64 (max log 1), _, _, _, _]
    first
      | (rw [show max cards 1 = cards by omega, show max log 1 = log by omega]; exact Blk.new _ _ _)
      | (rw [show max cards 1 = cards by omega, show max log 1 = 1 by omega]; exact Blk.new _ _ _)
      | (rw [show max cards 1 = 1 by omega, show max log 1 = log by omega]; exact Blk.new _ _ _)
      | (rw [show max cards 1 = 1 by omega, show max log 1 = 1 by omega]; exact Blk.new _ _ _)

theorem drewN_add (w : World) (q n : Nat) : (w.drewN q).drewN n = w.drewN (q + n) := by simp [World.drewN, Nat.add_assoc]
theorem liveL_at (ml : ML Ce) (i : Nat) (h : i < ml.length) : (liveL ml)[i]'(by rw [liveL_len]; exact h) = itOf ml[i] := by simp [liveL]
theorem place_is {ml : ML Ce} (hr : Rising ml) {k : List UInt8} {i : Nat} (hi : i ≤ ml.length) (h1 : ∀ j (hj : j < ml.length), j < i → compareBytes (ml[j]).1 k < 0) (h2 : ∀ (hj : i < ml.length), ¬ compareBytes (ml[i]).1 k < 0) : place ml k = i := by
  have hp := place_le ml k
  rcases Nat.lt_trichotomy (place ml k) i with h | h | h
  · have := (place_lt (k := k) hr (place ml k) (by omega)).2 (h1 _ (by omega) h)
    omega
  · exact h
  · exact absurd ((place_lt (k := k) hr i (by omega)).1 h) (h2 (by omega))
theorem has_at {ml : ML Ce} (hr : Rising ml) {k : List UInt8} : hasM ml k = match ml[place ml k]? with | some x => decide (x.1 = k) | none => false := by
  rw [hasM, getM_place hr]
  cases ml[place ml k]? with
  | none => rfl
  | some x => by_cases h : x.1 = k <;> simp [h]
theorem rstr_eq (a b : List UInt8) : ((bs a).toList == (bs b).toList) = decide (a = b) := by
  rw [toList_data, toList_data]
  show (a == b) = _
  by_cases h : a = b <;> simp [h]
theorem rstr_less (a b : List UInt8) : Op.bytesLess (bs a).toList (bs b).toList = !(geqT a b) := by
  have := geq_str a b
  cases h : Op.bytesLess (bs a).toList (bs b).toList <;> simp [h] at this <;> simp [this]
theorem geq_dec (a b : List UInt8) : geqT a b = !decide (compareBytes a b < 0) := rfl

set_option maxRecDepth 100000 in
set_option maxHeartbeats 4000000 in
theorem rplace_calls (w : World) (S : Nat → Prop) (b : Nat) (s : Cs) (key : List UInt8) (h : RCol w S b s) (hri : Rising s.ml) (hl : s.ml.length ≤ 1000000) :
    Calls Try.prog 75 #[.pointer (some ⟨b, 0, none⟩), .string (bs key)] w fun e w' => e = .returned (.tuple #[.int .i64 (place s.ml key : Nat), .bool (hasM s.ml key)]) ∧ ∃ q, w' = w.drewN q := by
  obtain ⟨A, c, A2, c2, hb, hr, _⟩ := h
  have c0 := hb.at_ 2 rfl
  have HR := hd hr.rds
  have HRI := hd hri
  have HHAS := hd (has_at (k := key) hri)
  obtain ⟨ml, hml⟩ : ∃ ml, s.ml = ml := ⟨_, rfl⟩
  rw [hml] at HR HRI HHAS c0 hl ⊢
  obtain ⟨n, hn⟩ : ∃ n, ml.length = n := ⟨_, rfl⟩
  have hln := liveL_len ml
  rw [hn] at hln
  rw [hln] at HR c0
  have HN := hd hn
  have HPI := hd (fun i (hi : i ≤ ml.length) h1 h2 => place_is (k := key) (i := i) HRI.o hi h1 h2)
  obtain ⟨res, hres⟩ : ∃ r : Value × Value, (Value.int .i64 (place ml key : Nat), Value.bool (hasM ml key)) = r := ⟨_, rfl⟩
  have HRES := hd hres
  rw [hn] at hl
  clear hb hr hri hml hn hln hres
  go_enter Try.func75, Try.ntmps75
  go_wp2_with fail
  go_loopw [6] (fun s6 wr => ∃ k : Nat, s6 = .int .i64 k ∧ k ≤ n ∧ Hd (∀ j (hj : j < ml.length), j < k → compareBytes (ml[j]).1 key < 0) ∧ wr = w) (fun s6 _ => n - (intOf s6).toNat)
  case atStart => exact ⟨0, rfl, Nat.zero_le _, hd (fun _ _ h => absurd h (Nat.not_lt_zero _)), rfl⟩
  case round =>
    obtain ⟨k, rfl, hk, HLO, rfl⟩ := hrel
    have hki : (0 : Int) ≤ (k : Int) := by omega
    by_cases hlt : k < n
    · have hlti : (k : Int) < (n : Int) := by omega
      have hkl : k < ml.length := by rw [HN.o]; exact hlt
      obtain ⟨g, o, rfl, hg, hc⟩ := HR.o.at_ (by omega)
      obtain ⟨x, hx⟩ : ∃ x, ml[k]'hkl = x := ⟨_, rfl⟩
      have k0 : wr.cell? ⟨g, o + (k * 4 + 0), none⟩ = some (.string (bs x.1)) := hc _ _ ((flat_at itEnc 4 itEnc_len (liveL ml) k (by rw [liveL_len]; exact hkl) 0 (by omega)).trans (by rw [liveL_at ml k hkl, hx]; rfl))
      rw [← Nat.add_assoc, Nat.add_zero] at k0
      obtain ⟨xu, hxu⟩ : ∃ u, x.1 = u := ⟨_, rfl⟩
      rw [hxu] at k0
      have hls := rstr_less xu key
      have heq := rstr_eq xu key
      obtain ⟨bg, hbg⟩ : ∃ q : Bool, geqT xu key = q := ⟨_, rfl⟩
      rw [hbg] at hls
      have HBG := hd hbg
      obtain ⟨be, hbe⟩ : ∃ q : Bool, decide (xu = key) = q := ⟨_, rfl⟩
      rw [hbe] at heq
      have HBE := hd hbe
      have HKL := hd hkl
      have HX : Hd ((ml[k]'HKL.o).1 = xu) := hd (by rw [hx]; exact hxu)
      clear hc hx hxu hkl hbg hbe
      cases bg with
      | true =>
        have HP : Hd (place ml key = k) := hd (HPI.o k (by rw [HN.o]; omega) (fun j hj hjk => HLO.o j hj hjk) (fun hj => by
          have h1 : (ml[k]'hj).1 = xu := HX.o
          rw [h1]
          have h2 := HBG.o
          rw [geq_dec] at h2
          simpa using h2))
        have HH : Hd (hasM ml key = be) := hd (by
          have h1 := HHAS.o
          rw [HP.o, List.getElem?_eq_getElem HKL.o] at h1
          rw [h1, ← HBE.o]
          simp only
          rw [HX.o])
        go_wp2_with fail
        go_quiet (fail)
        go_wp2
        go_ret2
        exact ⟨(by show Ending.returned (.tuple #[.int .i64 (k : Nat), .bool be]) = _; rw [HP.o, HH.o]), _, rfl⟩
      | false =>
        have HLO2 : Hd (∀ j (hj : j < ml.length), j < k + 1 → compareBytes (ml[j]).1 key < 0) := hd (fun j hj hjk => by
          by_cases h : j < k
          · exact HLO.o j hj h
          · obtain rfl : j = k := by omega
            rw [HX.o]
            have h2 := HBG.o
            rw [geq_dec] at h2
            simpa using h2)
        go_wp2
        go_roundw
        case rel => exact ⟨k + 1, by go_num, by omega, HLO2, by first | rfl | trivial⟩
        case measure => simp [intOf]; omega
    · obtain rfl : k = n := by omega
      have HP : Hd (place ml key = k) := hd (HPI.o k (by rw [HN.o]; exact Nat.le_refl _) (fun j hj hjk => HLO.o j hj hjk) (fun hj => by rw [HN.o] at hj; omega))
      have HH : Hd (hasM ml key = false) := hd (by
        have h1 := HHAS.o
        rw [HP.o, List.getElem?_eq_none (by rw [HN.o]; exact Nat.le_refl _)] at h1
        exact h1)
      go_wp2
      go_ret2
      exact ⟨(by show Ending.returned (.tuple #[.int .i64 (k : Nat), .bool false]) = _; rw [HP.o, HH.o]), 0, rfl⟩

theorem bytesM_snoc (ml : ML Ce) (e : List UInt8 × Ce) : bytesM (ml ++ [e]) = bytesM ml + e.2.text.length := by simp [bytesM]
theorem bytesM_take (ml : ML Ce) (k : Nat) : bytesM (ml.take k) ≤ bytesM ml := by
  induction ml generalizing k with
  | nil => simp [bytesM]
  | cons e ml ih =>
    cases k with
    | zero => have := bytesM_nn (e :: ml); simpa [bytesM] using this
    | succ k => rw [List.take_succ_cons, bytesM_cons, bytesM_cons]; have := ih k; omega

set_option maxRecDepth 100000 in
set_option maxHeartbeats 4000000 in
theorem rbytes_calls (w : World) (S : Nat → Prop) (b : Nat) (s : Cs) (h : RCol w S b s) (hl : s.ml.length ≤ 1000000) (hby : bytesM s.ml ≤ 1000000000000) :
    Calls Try.prog 76 #[.pointer (some ⟨b, 0, none⟩)] w fun e w' => e = .returned (.int .i64 (bytesM s.ml)) ∧ w = w' := by
  obtain ⟨A, c, A2, c2, hb, hr, _⟩ := h
  have c0 := hb.at_ 2 rfl
  have HR := hd hr.rds
  obtain ⟨ml, hml⟩ : ∃ ml, s.ml = ml := ⟨_, rfl⟩
  rw [hml] at HR c0 hl hby ⊢
  obtain ⟨n, hn⟩ : ∃ n, ml.length = n := ⟨_, rfl⟩
  have hln := liveL_len ml
  rw [hn] at hln
  rw [hln] at HR c0
  have HN := hd hn
  rw [hn] at hl
  obtain ⟨res, hres⟩ : ∃ r, bytesM ml = r := ⟨_, rfl⟩
  have HRES := hd hres
  rw [hres] at hby ⊢
  clear hb hr hml hn hln hres
  go_enter Try.func76, Try.ntmps76
  go_wp2_with fail
  go_loop [3, 4] (fun s3 s4 => ∃ (k : Nat) (t : Int), s4 = .int .i64 k ∧ s3 = .int .i64 t ∧ k ≤ n ∧ 0 ≤ t ∧ t ≤ res ∧ Hd (bytesM (ml.take k) = t)) (fun _ s4 => n - (intOf s4).toNat)
  case atStart => exact ⟨0, 0, rfl, rfl, Nat.zero_le _, by omega, by have h1 := HRES.o; have := bytesM_nn ml; omega, hd rfl⟩
  case round =>
    obtain ⟨k, t, rfl, rfl, hk, ht0, htr, HT⟩ := hrel
    have hki : (0 : Int) ≤ (k : Int) := by omega
    by_cases hlt : k < n
    · have hlti : (k : Int) < (n : Int) := by omega
      have hkl : k < ml.length := by rw [HN.o]; exact hlt
      obtain ⟨g, o, rfl, hg, hc⟩ := HR.o.at_ (by omega)
      obtain ⟨x, hx⟩ : ∃ x, ml[k]'hkl = x := ⟨_, rfl⟩
      have k3 : w.cell? ⟨g, o + (k * 4 + 3), none⟩ = some (.string (bs x.2.text)) := hc _ _ ((flat_at itEnc 4 itEnc_len (liveL ml) k (by rw [liveL_len]; exact hkl) 3 (by omega)).trans (by rw [liveL_at ml k hkl, hx]; rfl))
      rw [← Nat.add_assoc] at k3
      have HS : Hd (bytesM (ml.take (k + 1)) = t + x.2.text.length) := hd (by rw [List.take_succ_eq_append_getElem hkl, hx, bytesM_snoc, HT.o])
      have hle := bytesM_take ml (k + 1)
      rw [HS.o, HRES.o] at hle
      obtain ⟨m, hsz⟩ : ∃ m, (bs x.2.text).size = m := ⟨_, rfl⟩
      have hm : x.2.text.length = m := by rw [← bs_size]; exact hsz
      rw [hm] at HS hle
      have hm0 : (0 : Int) ≤ (m : Int) := by omega
      clear hc hx hkl hm
      go_wp2
      go_round
      case rel => exact ⟨k + 1, t + m, by go_num, rfl, by omega, by omega, hle, HS⟩
      case measure => simp [intOf]; omega
    · obtain rfl : k = n := by omega
      have HE : Hd (t = res) := hd (by rw [← HT.o, ← HRES.o, List.take_of_length_le (by rw [HN.o]; exact Nat.le_refl _)])
      go_wp2
      go_ret
      exact ⟨ret_int (by rw [HE.o]), rfl⟩

set_option maxRecDepth 100000 in
set_option maxHeartbeats 2000000 in
theorem rcget_calls (w : World) (S : Nat → Prop) (b : Nat) (s : Cs) (key : List UInt8) (h : RCol w S b s) (hri : Rising s.ml) (hl : s.ml.length ≤ 1000000) :
    Calls Try.prog 47 #[.pointer (some ⟨b, 0, none⟩), .string (bs key)] w fun e w' => e = .returned (.tuple #[.int .i64 (verM s.ml key), .string (bs (txtM s.ml key)), .bool (hasM s.ml key)]) ∧ ∃ q, w' = w.drewN q := by
  have HP := hd (rplace_calls w S b s key h hri hl)
  obtain ⟨A, c, A2, c2, hb, hr, _⟩ := h
  have c0 := hb.at_ 2 rfl
  have HR := hd hr.rds
  obtain ⟨ml, hml⟩ : ∃ ml, s.ml = ml := ⟨_, rfl⟩
  rw [hml] at HR HP c0 hl hri ⊢
  have hln := liveL_len ml
  rw [hln] at HR c0
  cases hh : hasM ml key with
  | false =>
    rw [hh] at HP
    rw [ver_none hh, txt_none hh]
    generalize place ml key = p at *
    clear hb hr hml hln hri hh
    go_enter Try.func47, Try.ntmps47
    go_wp2_with fail
    refine HP.o.mono ?_
    rintro e w1 ⟨rfl, q, rfl⟩
    go_wp2
    go_ret3
    exact ⟨rfl, _, rfl⟩
  | true =>
    rw [hh] at HP
    obtain ⟨hp, hpk, hgp⟩ := hasM_at hri hh
    obtain ⟨x, hx⟩ : ∃ x, ml[place ml key] = x := ⟨_, rfl⟩
    have e1 : verM ml key = x.2.ver := by unfold verM; rw [hgp, hx]
    have e2 : txtM ml key = x.2.text := by unfold txtM; rw [hgp, hx]
    rw [e1, e2]
    have hat := liveL_at ml (place ml key) hp
    obtain ⟨g, o, rfl, hg, hc⟩ := HR.o.at_ (by omega)
    have k1 : w.cell? ⟨g, o + (place ml key * 4 + 1), none⟩ = some (.int .i64 x.2.ver) := hc _ _ ((flat_at itEnc 4 itEnc_len (liveL ml) (place ml key) (by rw [liveL_len]; exact hp) 1 (by omega)).trans (by rw [hat, hx]; rfl))
    have k3 : w.cell? ⟨g, o + (place ml key * 4 + 3), none⟩ = some (.string (bs x.2.text)) := hc _ _ ((flat_at itEnc 4 itEnc_len (liveL ml) (place ml key) (by rw [liveL_len]; exact hp) 3 (by omega)).trans (by rw [hat, hx]; rfl))
    rw [← Nat.add_assoc] at k1 k3
    obtain ⟨p, hpp⟩ : ∃ p, place ml key = p := ⟨_, rfl⟩
    rw [hpp] at hp k1 k3 HP
    obtain ⟨n, hn⟩ : ∃ n, ml.length = n := ⟨_, rfl⟩
    rw [hn] at hp hl c0
    have hpi : (p : Int) < (n : Int) := by omega
    have hp0 : (0 : Int) ≤ (p : Int) := by omega
    clear hb hr hml hln hri hh hpk hgp hx e1 e2 hat hc hpp hn HR
    go_enter Try.func47, Try.ntmps47
    go_wp2_with fail
    refine HP.o.mono ?_
    rintro e w1 ⟨rfl, q, rfl⟩
    go_wp2_with fail
    go_quiet (fail)
    go_wp2
    go_ret3
    exact ⟨rfl, _, drewN_add _ _ _⟩

set_option maxRecDepth 100000 in
set_option maxHeartbeats 1000000 in
theorem rlive_calls (w : World) (S : Nat → Prop) (b : Nat) (s : Cs) (h : RCol w S b s) (hl : s.ml.length ≤ 1000000) :
    Calls Try.prog 41 #[.pointer (some ⟨b, 0, none⟩)] w fun e w' => ∃ A c, e = .returned (.slice A s.ml.length c) ∧ RowO w' (From w.heap.size) 41 4 A s.ml.length c (itsEnc (liveL s.ml)) ∧ Below w.heap.size w w' := by
  obtain ⟨i0, hi, hz0, hz1, hz2⟩ := info_parts itInfo
  obtain ⟨A, c, A2, c2, hb, hr, _⟩ := h
  have c0 := hb.at_ 2 rfl
  have HR := hd hr.rds
  have hbl := hb.lt
  obtain ⟨ml, hml⟩ : ∃ ml, s.ml = ml := ⟨_, rfl⟩
  rw [hml] at HR c0 hl ⊢
  have hln := liveL_len ml
  rw [hln] at HR c0
  obtain ⟨n, hn⟩ : ∃ n, ml.length = n := ⟨_, rfl⟩
  rw [hn] at HR c0 hl ⊢
  clear hb hr hml hln hn
  have HONE : Hd (∀ u ∈ itsEnc (liveL ml), u.oneCell' = true) := hd (fun u hu => by
    obtain ⟨x, _, h⟩ := List.mem_flatMap.1 hu
    exact itEnc_one x u h)
  have hmm : 0 + n ≤ maxLen := by unfold maxLen; omega
  have hby : (0 + n) * 48 ≤ 140737488355328 := by omega
  have HA := hd ((Below.refl w.heap.size w).alloc (Nat.le_refl _) (.cells #[] 41))
  go_enter Try.func41, Try.ntmps41
  go_wp2_with (at_builtin; refine wpList_append_orG rfl _ _ 28 rfl (From w.heap.size) 41 i0 (.agg #[.string ⟨#[]⟩, .int .i64 0, .bool false, .string ⟨#[]⟩]) 4 48 Try.underlying28 hi hz0 hz1 hz2 rfl (some ⟨w.heap.size, 0, none⟩) 0 0 [] rfl (.inr ⟨rfl, rfl, rfl⟩) A n c (itsEnc (liveL ml)) rfl (HR.o.alloc _) HONE.o hmm hby ?_; intro A3 c3 w3 hr3 hc3; have HR3 := hd hr3; have HC3 := hd hc3; clear hr3 hc3)
  go_ret
  have hz : 0 + n = n := Nat.zero_add n
  have hr3 := HR3.o
  have hc3 := HC3.o
  rw [hz] at hr3
  refine ⟨A3, c3, rfl, ?_, HA.o.trans (hc3.below (fun q hq => hq) HA.o.size)⟩
  rw [List.nil_append] at hr3
  rcases hr3 with h | h
  · exact .inl (h.mono fun q hq => by
      rcases hq with hq | hq
      · exact hq
      · have hq : (w.alloc (.cells #[] 41)).heap.size ≤ q := hq
        simp at hq
        show w.heap.size ≤ q
        omega)
  · exact .inr h

end Go.Proofs.Ytbeckfnhgeclnaa
