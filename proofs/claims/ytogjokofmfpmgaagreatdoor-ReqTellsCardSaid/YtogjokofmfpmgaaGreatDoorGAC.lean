/-
  Addresses: whether two are one; an address's own form.
-/
import Derived.Test.YtogjokofmfpmgaaGreatDoorGAB
import Derived.Lib.QuietBelow
import Derived.Shelf.Strings.Prefix
import Derived.Shelf.LaysM
import Derived.Test.YtogjokofmfpmgaaGreatDoorProg
import Derived.Test.YtogjokofmfpmgaaGreatDoorGAA
import Derived.Shelf.Strconv.Itoa3
set_option linter.unusedVariables false
set_option linter.unusedSimpArgs false
namespace Go.Proofs.YtogjokofmfpmgaaGreatDoor
open Go.RowKit Go.Sort

/-- What stands behind the last @, as small signs. -/
def lfold : List UInt8 → List UInt8
  | [] => []
  | c :: r => if 64 ∈ r then c :: lfold r else if c = 64 then c :: foldL r else c :: r
theorem lfold_no : ∀ l : List UInt8, (64 : UInt8) ∉ l → lfold l = l
  | [], _ => rfl
  | c :: r, h => by
    simp only [List.mem_cons, not_or] at h
    rw [lfold, if_neg h.2, if_neg (fun e => h.1 e.symm)]
theorem lfold_at : ∀ (a b : List UInt8), (64 : UInt8) ∉ b → lfold (a ++ 64 :: b) = a ++ 64 :: foldL b
  | [], b, h => by rw [List.nil_append, lfold, if_neg h, if_pos rfl]; rfl
  | x :: a, b, h => by
    rw [List.cons_append, lfold, if_pos (by simp), lfold_at a b h]; rfl
theorem lfold_last {l : List UInt8} {q : Nat} (h : LastAt l q) : lfold l = l.take q ++ 64 :: foldL (l.drop (q + 1)) := by
  conv => lhs; rw [lastAt_split h]
  exact lfold_at _ _ (lastAt_aft h)
theorem foldL_64 (c : UInt8) : lowU c = 64 → c = 64 := by
  intro h
  unfold lowU at h
  split at h
  · next hc =>
    have := congrArg UInt8.toNat h
    rw [UInt8.toNat_add, show (32 : UInt8).toNat = 32 from rfl, show (64 : UInt8).toNat = 64 from rfl] at this
    omega
  · exact h
theorem fold_no {l : List UInt8} (h : (64 : UInt8) ∉ l) : (64 : UInt8) ∉ foldL l := by
  intro hm
  obtain ⟨c, hc, e⟩ := List.mem_map.1 hm
  exact h (foldL_64 c e ▸ hc)
theorem foldL_len (l : List UInt8) : (foldL l).length = l.length := by simp [foldL]
open Classical in
noncomputable def canT (l : List UInt8) : List UInt8 := if cleanE l = 0 ∧ AddrP (lfold (cleanT l)) then lfold (cleanT l) else []
open Classical in
noncomputable def canE (l : List UInt8) : Int := if cleanE l = 0 then (if AddrP (lfold (cleanT l)) then 0 else 1) else cleanE l
theorem can_e {l : List UInt8} (h : cleanE l ≠ 0) : canT l = [] ∧ canE l = cleanE l := by simp [canT, canE, h]
theorem can_yes {l : List UInt8} (h : cleanE l = 0) (k : AddrP (lfold (cleanT l))) : canT l = lfold (cleanT l) ∧ canE l = 0 := by simp [canT, canE, h, k]
theorem can_no {l : List UInt8} (h : cleanE l = 0) (k : ¬ AddrP (lfold (cleanT l))) : canT l = [] ∧ canE l = 1 := by simp [canT, canE, h, k]
theorem cleanT_len (l : List UInt8) : (cleanT l).length ≤ 64 := by
  unfold cleanT
  repeat' split
  all_goals first | (simp; done) | omega
theorem bs_ext (l : List UInt8) (a b : Nat) : (bs l).extract a b = bs ((l.drop a).take (b - a)) := by
  have := ext_data (bs l) a b
  rw [bs_data] at this
  rw [← this]
  exact (bs_self _).symm
theorem bs_app2 (a b : List UInt8) : bs a ++ bs b = bs (a ++ b) := by
  apply ByteArray.ext; simp [bs]

/-- What the text is behind the folding, from whichever place. -/
def Folded (T : List UInt8) (a : Nat) (C : List UInt8) : Prop := T.take a ++ foldL (T.drop a) = C ∧ (AddrP C → C = lfold T) ∧ (AddrP (lfold T) → AddrP C)
theorem folded_at {T : List UInt8} {q : Nat} (h : LastAt T q) : ∃ C, Folded T (q + 1) C := by
  refine ⟨lfold T, ?_, fun _ => rfl, fun h => h⟩
  rw [lfold_last h]
  have hq := h.1
  have h64 : T[q] = 64 := by
    have := h.2.1
    rw [bt_list T q hq] at this
    exact UInt8.toNat_inj.1 this
  have : T.take (q + 1) = T.take q ++ [64] := by rw [List.take_succ_eq_append_getElem hq, h64]
  rw [this]; simp
theorem folded_none {T : List UInt8} (h : (64 : UInt8) ∉ T) : ∃ C, Folded T 0 C :=
  ⟨foldL T, by simp, fun hA => absurd hA.2.1 (fold_no h), fun hA => absurd hA.2.1 (by rw [lfold_no T h]; exact h)⟩
theorem lastIx_calls (T : List UInt8) (h : T.length ≤ 64) (w : World) : Calls Tryz.prog 156 #[.string (bs T), .int .u8 64] w fun e w' => (∃ a : Nat, e = .returned (.int .i64 ((a : Int) - 1)) ∧ a ≤ T.length ∧ ∃ C, Folded T a C) ∧ w = w' := by
  refine (Any.strings_LastIndexByte lays149 (bs T) 64 (by rw [bs_size]; omega) w).mono ?_
  rintro e w' ⟨rfl, rfl⟩
  refine ⟨?_, rfl⟩
  have key : ∀ j, j < T.length → (((bs T).data[j]!).toNat : Int) = (bt T j : Int) := fun j hj => by
    simp [bs, bt, List.getD_eq_getElem?_getD, hj]
  rcases Lib.lastIndexByte_spec (bs T) 64 with ⟨e, hn⟩ | ⟨i, hi, e, hc, hn⟩
  · rw [bs_size] at hn
    exact ⟨0, by rw [e]; rfl, by omega, folded_none (no_at (fun j hj h64 => hn j hj (by rw [key j hj, h64]; rfl)))⟩
  · rw [bs_size] at hi hn
    refine ⟨i + 1, by rw [e]; simp, by omega, folded_at ⟨hi, ?_, fun j h1 h2 h64 => hn j h1 h2 (by rw [key j h2, h64]; rfl)⟩⟩
    have := hc
    rw [key i hi] at this
    omega

set_option maxRecDepth 100000 in
set_option maxHeartbeats 4000000 in
theorem canon_calls (s : ByteArray) (hs : s.size ≤ 1000000) (w : World) (ht : Tbl w) : Calls Tryz.prog 141 #[.string s] w fun e w' => e = .returned (.tuple #[.string (bs (canT s.data.toList)), .int .i64 (canE s.data.toList)]) ∧ Below w.heap.size w w' := by
  have HT := hd ht
  clear ht
  have C1 := hd (clean_calls s hs w (HT.o))
  obtain ⟨V, hV⟩ : ∃ V, canT s.data.toList = V := ⟨_, rfl⟩
  obtain ⟨F, hF⟩ : ∃ F, canE s.data.toList = F := ⟨_, rfl⟩
  rw [hV, hF]
  have HR := hd (⟨hV.symm, hF.symm⟩ : V = canT s.data.toList ∧ F = canE s.data.toList)
  clear hV hF
  have hl := cleanT_len s.data.toList
  have R1 := hd (fun h : cleanE s.data.toList ≠ 0 => can_e h)
  have R2 := hd (fun (h : cleanE s.data.toList = 0) k => can_yes h k)
  have R3 := hd (fun (h : cleanE s.data.toList = 0) k => can_no h k)
  obtain ⟨T, hT⟩ : ∃ T, cleanT s.data.toList = T := ⟨_, rfl⟩
  obtain ⟨E, hE⟩ : ∃ E, cleanE s.data.toList = E := ⟨_, rfl⟩
  rw [hT, hE] at C1 R2 R3
  rw [hE] at R1
  rw [hT] at hl
  clear hT hE
  by_cases hE0 : E = 0
  · have HE := hd hE0
    subst hE0
    have hz : (bs T).size = T.length := bs_size T
    have HZ := hd hz
    clear hz
    have hz1 : (bs T).size ≤ 64 := by rw [HZ.o]; exact hl
    go_enter Tryz.func141, Tryz.ntmps141
    go_wp2_with fail
    refine C1.o.mono ?_
    rintro e w1 ⟨rfl, hb1⟩
    have B1 := hd hb1
    clear hb1
    go_wp2_with fail
    refine (lastIx_calls T hl w1).mono ?_
    rintro e w' ⟨⟨a, rfl, hal, C, hC⟩, rfl⟩
    have HC := hd hC
    clear hC
    have hsum : (a : Int) - 1 + 1 = (a : Int) := by omega
    go_wp2_with fail
    have ha0 : (0 : Int) ≤ (a : Int) := by omega
    have ha1 : (a : Int) ≤ ((bs T).size : Int) := by rw [HZ.o]; omega
    have hzz : ((bs T).extract a (bs T).size).size ≤ 1000000000 := by rw [ByteArray.size_extract]; omega
    have FC := fold_calls ((bs T).extract a (bs T).size) hzz
    have ef : ((bs T).extract a (bs T).size).data.toList = T.drop a := by
      rw [ext_data, bs_data]; exact List.take_of_length_le (by rw [List.length_drop, HZ.o]; exact Nat.le_refl _)
    rw [ef] at FC
    clear hzz
    have D1 := hd (fun dd os => Calls.regrown_of (FC (grow (redrawn w1 dd) os)))
    have z1 : (bs (foldL (T.drop a))).size ≤ 64 := by rw [bs_size, foldL_len, List.length_drop]; omega
    have z2 : ((bs T).extract 0 a).size ≤ 64 := by rw [ByteArray.size_extract]; omega
    clear FC ef
    refine wp_region_quiet_below (by kernel_rfl) (by kernel_rfl) ?_
    repeat (go_big_quiet_step (exact D1.o _ _))
    refine wpQuiet_nil ?_
    intro w2 hw'
    have hb2 : Below w1.heap.size w1 w2 := by
      obtain ⟨⟨dq, osq⟩, hw''⟩ := hw'
      subst hw''
      exact below_regrown w1 dq osq
    have B2 := hd (B1.o.trans (hb2.mono B1.o.size))
    clear hw' hb2
    have e4 : (bs T).extract 0 a ++ bs (foldL (T.drop a)) = bs C := by
      rw [bs_ext, List.drop_zero, Nat.sub_zero, bs_app2, HC.o.1]
    rw [e4]
    clear e4 z1 z2
    have hIS := is_calls (bs C) (by rw [bs_size, ← HC.o.1, List.length_append, foldL_len, List.length_take, List.length_drop]; omega) w2 (HT.o.below B2.o)
    rw [bs_data] at hIS
    by_cases hA : AddrP C
    · rw [addrB_t hA] at hIS
      have HX := hd (R2.o trivial (HC.o.2.1 hA ▸ hA))
      have HCL := hd (HC.o.2.1 hA)
      have HIS := hd hIS
      clear hIS hA
      go_wp2_with fail
      refine HIS.o.mono ?_
      rintro e w3 ⟨rfl, hb3⟩
      go_wp2_with fail
      go_ret2
      exact ⟨retTE (by rw [HR.o.1, HX.o.1, ← HCL.o]) (by rw [HR.o.2, HX.o.2]), B2.o.trans (hb3.mono B2.o.size)⟩
    · rw [addrB_f hA] at hIS
      have HX := hd (R3.o trivial (fun h => hA (HC.o.2.2 h)))
      have HIS := hd hIS
      clear hIS hA
      go_wp2_with fail
      refine HIS.o.mono ?_
      rintro e w3 ⟨rfl, hb3⟩
      go_wp2_with fail
      go_ret2
      exact ⟨retTE (by rw [HR.o.1, HX.o.1]; rfl) (by rw [HR.o.2, HX.o.2]), B2.o.trans (hb3.mono B2.o.size)⟩
  · have n0 : (E != 0) = true := by simpa using hE0
    have H0 := hd (R1.o hE0)
    clear hE0
    go_enter Tryz.func141, Tryz.ntmps141
    go_wp2_with fail
    refine C1.o.mono ?_
    rintro e w1 ⟨rfl, hb1⟩
    go_wp2_with fail
    go_ret2
    exact ⟨retTE (by rw [HR.o.1, H0.o.1]; rfl) (by rw [HR.o.2, H0.o.2]), hb1⟩

end Go.Proofs.YtogjokofmfpmgaaGreatDoor
namespace Go.Proofs.YtogjokofmfpmgaaGreatDoor
open Go.RowKit

def Plain1 (l : List UInt8) : Prop := ∀ c ∈ l, 33 ≤ c.toNat ∧ c.toNat ≤ 126
theorem scanB_ascii : ∀ l : List UInt8, (∀ c ∈ l, 32 ≤ c.toNat ∧ c.toNat ≤ 126) → scanB l = true
  | [], _ => rfl
  | c :: r, h => by
    have hc := h c (by simp)
    have hs : sgn (c :: r) = 1 := by
      unfold sgn signN
      rw [bt_zero, if_pos (by omega)]
    rw [scanB_step _ (by simp), hs, bt_zero, if_neg (by simp [okC]; omega)]
    exact scanB_ascii r (fun x hx => h x (by simp [hx]))
theorem cleanB_ascii (l : List UInt8) (h : ∀ c ∈ l, 32 ≤ c.toNat ∧ c.toNat ≤ 126) : cleanB l = true := by
  rw [← scanB_clean]; exact scanB_ascii l h
theorem sq_plain : ∀ (l out : List UInt8), Plain1 l → l.foldl sq out = out ++ l
  | [], out, _ => by simp
  | c :: r, out, h => by
    have hc := h c (by simp)
    rw [List.foldl_cons, sq_other _ _ (by omega), sq_plain r _ (fun x hx => h x (by simp [hx]))]
    simp
theorem trim_plain (l : List UInt8) (h : Plain1 l) : trimE l = l := by
  rw [trimE, if_neg]
  intro e
  have := h 32 (List.mem_of_getLast? e)
  simp at this
theorem locC_plain {n : Nat} (h : locC n) : 33 ≤ n ∧ n ≤ 126 := by unfold locC at h; omega
theorem labC_plain {n : Nat} (h : labC n) : 33 ≤ n ∧ n ≤ 126 := by unfold labC at h; omega
theorem loc_plain {l : List UInt8} (h : LocP l) : Plain1 l := by
  intro c hc
  obtain ⟨i, hi, e⟩ := mem_bt hc
  have := locC_plain (h.2.2.2.2.2 i hi)
  rwa [e] at this
/-- The signs of a domain. -/
theorem dom_sign {l : List UInt8} (h : ∀ x ∈ splitC 46 l, LabP x) : ∀ c ∈ l, c = 46 ∨ labC c.toNat := by
  intro c hc
  by_cases e : c = 46
  · exact .inl e
  · obtain ⟨p, hp, hx⟩ := splitC_mem 46 l c hc e
    obtain ⟨i, hi, e2⟩ := mem_bt hx
    have := (h p hp).2.2.2.2 i hi
    rw [e2] at this
    exact .inr this
theorem dom_plain {l : List UInt8} (h : DomP l) : Plain1 l := by
  intro c hc
  rcases dom_sign h.2 c hc with rfl | h2
  · decide
  · exact labC_plain h2
theorem lowU_dom {c : UInt8} (h : c = 46 ∨ labC c.toNat) : lowU c = c := by
  refine lowU_no c ?_
  rcases h with rfl | h
  · decide
  · unfold labC at h; omega
theorem foldL_dom {l : List UInt8} (h : DomP l) : foldL l = l := by
  have := dom_sign h.2
  clear h
  unfold foldL
  induction l with
  | nil => rfl
  | cons c r ih =>
    rw [List.map_cons, lowU_dom (this c (by simp)), ih (fun x hx => this x (by simp [hx]))]
theorem addr_form {l : List UInt8} (h : AddrP l) : l = bef 64 l ++ 64 :: aft 64 l := bef_aft 64 l h.2.1
theorem addr_plain {l : List UInt8} (h : AddrP l) : Plain1 l := by
  intro c hc
  rw [addr_form h] at hc
  rcases List.mem_append.1 hc with hc | hc
  · exact loc_plain h.2.2.1 c hc
  · rcases List.mem_cons.1 hc with rfl | hc
    · decide
    · exact dom_plain h.2.2.2 c hc
theorem addr_ne {l : List UInt8} (h : AddrP l) : 0 < l.length := by rw [addr_form h]; simp; omega
theorem can_addr {l : List UInt8} (h : AddrP l) : canT l = l ∧ canE l = 0 := by
  have hp := addr_plain h
  have hc := cleanB_ascii l (fun c hc => by have := hp c hc; omega)
  have hs : sqz l = l := by unfold sqz; rw [sq_plain l [] hp, List.nil_append]; exact trim_plain l hp
  obtain ⟨e1, e2⟩ := cleanB_ok l hc (by rw [hs]; exact h.1) (by rw [hs]; exact addr_ne h)
  rw [hs] at e1
  have hf : lfold l = l := by
    conv => lhs; rw [addr_form h]
    rw [lfold_at _ _ (dom_no_at h.2.2.2), foldL_dom h.2.2.2]
    exact (addr_form h).symm
  have := can_yes e2 (by rw [e1, hf]; exact h)
  rwa [e1, hf] at this
theorem can_ok {l : List UInt8} (h : canE l = 0) : AddrP (canT l) := by
  by_cases c : cleanE l = 0
  · by_cases k : AddrP (lfold (cleanT l))
    · rw [(can_yes c k).1]; exact k
    · have := (can_no c k).2; omega
  · have := (can_e c).2; omega
end Go.Proofs.YtogjokofmfpmgaaGreatDoor
namespace Go.Proofs.YtogjokofmfpmgaaGreatDoor
open Go.RowKit

theorem signN_to (n n' b0 b1 b2 b3 c1 c2 c3 k : Nat) (h : signN n b0 b1 b2 b3 = k) (hk : k ≠ 0) (e1 : 2 ≤ k → b1 = c1 ∧ 1 < n') (e2 : 3 ≤ k → b2 = c2 ∧ 2 < n') (e3 : 4 ≤ k → b3 = c3 ∧ 3 < n') : signN n' b0 c1 c2 c3 = k := by
  unfold signN at h ⊢
  by_cases a1 : b0 < 128
  · rw [if_pos a1] at h ⊢; exact h
  · rw [if_neg a1] at h ⊢
    by_cases a2 : 194 ≤ b0 ∧ b0 ≤ 223
    · rw [if_pos a2] at h ⊢
      by_cases a3 : 1 < n ∧ b1 / 64 = 2
      · rw [if_pos a3] at h
        obtain ⟨rfl, l1⟩ := e1 (by omega)
        rw [if_pos ⟨l1, a3.2⟩]; exact h
      · rw [if_neg a3] at h; exact absurd h.symm hk
    · rw [if_neg a2] at h ⊢
      by_cases a4 : 224 ≤ b0 ∧ b0 ≤ 239
      · rw [if_pos a4] at h ⊢
        split at h
        · next c =>
          obtain ⟨rfl, l1⟩ := e1 (by omega)
          obtain ⟨rfl, l2⟩ := e2 (by omega)
          rw [if_pos ⟨⟨l2, c.1.2⟩, c.2⟩]; exact h
        · exact absurd h.symm hk
      · rw [if_neg a4] at h ⊢
        by_cases a5 : 240 ≤ b0 ∧ b0 ≤ 244
        · rw [if_pos a5] at h ⊢
          split at h
          · next c =>
            obtain ⟨rfl, l1⟩ := e1 (by omega)
            obtain ⟨rfl, l2⟩ := e2 (by omega)
            obtain ⟨rfl, l3⟩ := e3 (by omega)
            rw [if_pos ⟨⟨l3, c.1.2⟩, c.2⟩]; exact h
          · exact absurd h.symm hk
        · rw [if_neg a5] at h; exact absurd h.symm hk
theorem bt_app (a b : List UInt8) (i : Nat) (h : i < a.length) : bt (a ++ b) i = bt a i := by
  simp [bt, List.getD_eq_getElem?_getD, List.getElem?_append_left h]
theorem bt_take (l : List UInt8) (k i : Nat) (h : i < k) : bt (l.take k) i = bt l i := by
  simp [bt, List.getD_eq_getElem?_getD, List.getElem?_take, h]
theorem sgn_to {a c : List UInt8} (ha : a ≠ []) (h : sgn a ≠ 0) (e : ∀ i, i < sgn a → bt c i = bt a i) (hl : sgn a ≤ c.length) : sgn c = sgn a := by
  have hle := sgn_le a ha
  have e0 := e 0 (by omega)
  unfold sgn
  rw [e0]
  refine signN_to a.length c.length (bt a 0) (bt a 1) (bt a 2) (bt a 3) (bt c 1) (bt c 2) (bt c 3) _ rfl h (fun hk => ?_) (fun hk => ?_) (fun hk => ?_)
  · have : 2 ≤ sgn a := hk
    exact ⟨(e 1 (by omega)).symm, by omega⟩
  · have : 3 ≤ sgn a := hk
    exact ⟨(e 2 (by omega)).symm, by omega⟩
  · have : 4 ≤ sgn a := hk
    exact ⟨(e 3 (by omega)).symm, by omega⟩
theorem sgn_app (a b : List UInt8) (ha : a ≠ []) (h : sgn a ≠ 0) : sgn (a ++ b) = sgn a := by
  have hle := sgn_le a ha
  exact sgn_to ha h (fun i hi => bt_app a b i (by omega)) (by rw [List.length_append]; omega)
theorem sgn_take (a : List UInt8) (ha : a ≠ []) (h : sgn a ≠ 0) : sgn (a.take (sgn a)) = sgn a := by
  have hle := sgn_le a ha
  exact sgn_to ha h (fun i hi => bt_take a _ i hi) (by rw [List.length_take]; omega)
theorem scanB_nil : scanB [] = true := rfl
theorem scan_head {a : List UInt8} (ha : a ≠ []) (h : scanB a = true) : sgn a ≠ 0 ∧ okC (bt a 0) = true ∧ scanB (a.drop (sgn a)) = true := by
  rw [scanB_step a ha] at h
  by_cases c : sgn a = 0 ∨ okC (bt a 0) = false
  · rw [if_pos c] at h; cases h
  · rw [if_neg c] at h
    refine ⟨fun e => c (.inl e), ?_, h⟩
    cases hb : okC (bt a 0) with
    | true => rfl
    | false => exact absurd (.inr hb) c
theorem scan_of {a : List UInt8} (ha : a ≠ []) (h1 : sgn a ≠ 0) (h2 : okC (bt a 0) = true) : scanB a = scanB (a.drop (sgn a)) := by
  rw [scanB_step a ha, if_neg (by simp [h1, h2])]
theorem scan_app : ∀ (n : Nat) (a b : List UInt8), a.length ≤ n → scanB a = true → scanB (a ++ b) = scanB b := by
  intro n
  induction n with
  | zero => intro a b h _; have : a = [] := List.eq_nil_of_length_eq_zero (by omega); subst this; rfl
  | succ n ih =>
    intro a b h hs
    by_cases ha : a = []
    · subst ha; rfl
    · obtain ⟨h1, h2, h3⟩ := scan_head ha hs
      have hle := sgn_le a ha
      have hab : a ++ b ≠ [] := by simp [ha]
      have h0 : 0 < a.length := List.length_pos_iff.2 ha
      rw [scan_of hab (by rw [sgn_app a b ha h1]; exact h1) (by rw [bt_app a b 0 h0]; exact h2), sgn_app a b ha h1, List.drop_append_of_le_length hle]
      exact ih _ b (by rw [List.length_drop]; omega) h3
theorem scan_chunk {a : List UInt8} (ha : a ≠ []) (h1 : sgn a ≠ 0) (h2 : okC (bt a 0) = true) : scanB (a.take (sgn a)) = true := by
  have hle := sgn_le a ha
  have h0 : 0 < a.length := List.length_pos_iff.2 ha
  have hn : a.take (sgn a) ≠ [] := by
    intro e
    have := congrArg List.length e
    rw [List.length_take, List.length_nil] at this
    omega
  rw [scan_of hn (by rw [sgn_take a ha h1]; exact h1) (by rw [bt_take a _ 0 (by omega)]; exact h2), sgn_take a ha h1, List.drop_take, Nat.sub_self, List.take_zero]
  rfl
theorem sgn_small (b0 : UInt8) (t : List UInt8) (h : b0.toNat < 128) : sgn (b0 :: t) = 1 := by
  unfold sgn signN; rw [bt_zero, if_pos h]
theorem chunk_hi {a : List UInt8} (ha : a ≠ []) (h : 2 ≤ sgn a) : ∀ c ∈ a.take (sgn a), 128 ≤ c.toNat := by
  cases a with
  | nil => exact absurd rfl ha
  | cons b0 t =>
    have h0 : 128 ≤ b0.toNat := by
      rcases Nat.lt_or_ge b0.toNat 128 with hh | hh
      · have := sgn_small b0 t hh; omega
      · exact hh
    rcases sgn_cases b0 t with e | e | ⟨e, b1, r, rfl, q1⟩ | ⟨e, b1, b2, r, rfl, q1, q2⟩ | ⟨e, b1, b2, b3, r, rfl, q1, q2, q3⟩
    · omega
    · omega
    · rw [e]; intro c hc; simp at hc; rcases hc with rfl | rfl <;> omega
    · rw [e]; intro c hc; simp at hc; rcases hc with rfl | rfl | rfl <;> omega
    · rw [e]; intro c hc; simp at hc; rcases hc with rfl | rfl | rfl | rfl <;> omega
theorem fold_hi : ∀ (l out : List UInt8), (∀ c ∈ l, 128 ≤ c.toNat) → l.foldl sq out = out ++ l
  | [], out, _ => by simp
  | c :: r, out, h => by
    have hc := h c (by simp)
    rw [List.foldl_cons, sq_other _ _ (by omega), fold_hi r _ (fun x hx => h x (by simp [hx]))]
    simp
def Whole (o : List UInt8) : Prop := scanB o = true ∧ (o.getLast? = some 32 → scanB o.dropLast = true)
theorem fold_scan : ∀ (n : Nat) (l out : List UInt8), l.length ≤ n → scanB l = true → Whole out → Whole (l.foldl sq out) := by
  intro n
  induction n with
  | zero => intro l out h _ ho; have : l = [] := List.eq_nil_of_length_eq_zero (by omega); subst this; exact ho
  | succ n ih =>
    intro l out h hs ho
    by_cases hl : l = []
    · subst hl; exact ho
    · obtain ⟨h1, h2, h3⟩ := scan_head hl hs
      have hle := sgn_le l hl
      have hch := scan_chunk hl h1 h2
      have e := List.take_append_drop (sgn l) l
      have key : Whole ((l.take (sgn l)).foldl sq out) := by
        by_cases k1 : sgn l = 1
        · obtain ⟨b, t, rfl⟩ := List.exists_cons_of_ne_nil hl
          rw [k1] at hch ⊢
          show Whole (sq out b)
          unfold sq
          split
          · exact ho
          · refine ⟨?_, fun _ => ?_⟩
            · rw [scan_app _ out [b] (Nat.le_refl _) ho.1]; exact hch
            · rw [List.dropLast_concat]; exact ho.1
        · have hhi := chunk_hi hl (by omega)
          rw [fold_hi _ _ hhi]
          refine ⟨by rw [scan_app _ out _ (Nat.le_refl _) ho.1]; exact hch, fun hlast => ?_⟩
          exfalso
          have hne : l.take (sgn l) ≠ [] := by
            intro e
            have := congrArg List.length e
            rw [List.length_take, List.length_nil] at this
            omega
          rw [List.getLast?_append, List.getLast?_eq_some_getLast hne, Option.some_or] at hlast
          injection hlast with hlast
          have := hhi _ (List.getLast_mem hne)
          rw [hlast] at this
          simp at this
      have := ih (l.drop (sgn l)) _ (by rw [List.length_drop]; omega) h3 key
      rw [← List.foldl_append, e] at this
      exact this
theorem sqz_scan {l : List UInt8} (h : scanB l = true) : scanB (sqz l) = true := by
  have := fold_scan l.length l [] (Nat.le_refl _) h ⟨scanB_nil, fun e => by simp at e⟩
  unfold sqz trimE
  split
  · next e => exact this.2 e
  · exact this.1
theorem fold_again : ∀ (l out : List UInt8), out.foldl sq [] = out → (l.foldl sq out).foldl sq [] = l.foldl sq out
  | [], _, h => h
  | c :: r, out, h => by
    rw [List.foldl_cons]
    refine fold_again r _ ?_
    by_cases k : c = 32 ∧ (out = [] ∨ out.getLast? = some 32)
    · rw [show sq out c = out by rw [sq, if_pos k]]; exact h
    · have e : sq out c = out ++ [c] := by rw [sq, if_neg k]
      rw [e, List.foldl_append, h]
      exact e
theorem sqz_again (l : List UInt8) : sqz (sqz l) = sqz l := by
  have h := fold_again l [] rfl
  unfold sqz
  generalize l.foldl sq [] = O at *
  by_cases k : O.getLast? = some 32
  · have e1 : trimE O = O.dropLast := by rw [trimE, if_pos k]
    rw [e1]
    have e2 : O = O.dropLast ++ [32] := by
      have hn : O ≠ [] := fun e => by rw [e] at k; simp at k
      have := List.dropLast_concat_getLast hn
      rw [List.getLast?_eq_some_getLast hn] at k
      injection k with k
      rw [k] at this
      exact this.symm
    generalize O.dropLast = D at *
    subst e2
    rw [List.foldl_append] at h
    have hlen := fold_sq_len D []
    generalize D.foldl sq [] = X at *
    have h' : sq X 32 = D ++ [32] := h
    unfold sq at h'
    split at h'
    · next c =>
      have := congrArg List.length h'
      rw [List.length_append] at this
      simp at this hlen
      omega
    · next c =>
      have e3 := List.append_cancel_right h'
      subst e3
      rw [trimE, if_neg (fun e => c ⟨rfl, .inr e⟩)]
  · have e1 : trimE O = O := by rw [trimE, if_neg k]
    rw [e1, h, e1]
theorem sq_sub : ∀ (l out : List UInt8), ∀ c ∈ l.foldl sq out, c ∈ out ∨ c ∈ l
  | [], out, c, h => .inl h
  | x :: r, out, c, h => by
    rw [List.foldl_cons] at h
    rcases sq_sub r _ c h with h | h
    · unfold sq at h
      split at h
      · exact .inl h
      · rcases List.mem_append.1 h with h | h
        · exact .inl h
        · exact .inr (by simp at h; simp [h])
    · exact .inr (by simp [h])
theorem cleanE_0 {l : List UInt8} (h : cleanE l = 0) : cleanB l = true ∧ sqz l ≠ [] ∧ (sqz l).length ≤ 64 ∧ cleanT l = sqz l := by
  unfold cleanE at h
  split at h
  · next hb =>
    split at h
    · omega
    · next hn =>
      split at h
      · omega
      · next hl =>
        have hp : 0 < (sqz l).length := List.length_pos_iff.2 hn
        exact ⟨hb, hn, by omega, (cleanB_ok l hb (by omega) hp).1⟩
  · omega
/-- Cleaned twice. -/
theorem clean_twice {l : List UInt8} (h : cleanE l = 0) : cleanT (cleanT l) = cleanT l ∧ cleanE (cleanT l) = 0 := by
  obtain ⟨h1, h2, h3, h4⟩ := cleanE_0 h
  rw [h4]
  have hb : cleanB (sqz l) = true := by
    rw [← scanB_clean] at h1 ⊢
    exact sqz_scan h1
  have hp : 0 < (sqz l).length := List.length_pos_iff.2 h2
  have := cleanB_ok (sqz l) hb (by rw [sqz_again]; exact h3) (by rw [sqz_again]; exact hp)
  rw [sqz_again] at this
  exact this
theorem clean_plain {l : List UInt8} (hp : Plain1 l) (h0 : 0 < l.length) (h64 : l.length ≤ 64) : cleanT l = l ∧ cleanE l = 0 := by
  have hc := cleanB_ascii l (fun c hc => by have := hp c hc; omega)
  have hs : sqz l = l := by unfold sqz; rw [sq_plain l [] hp, List.nil_append]; exact trim_plain l hp
  have := cleanB_ok l hc (by rw [hs]; exact h64) (by rw [hs]; exact h0)
  rw [hs] at this
  exact this
theorem clean_ok0 {l : List UInt8} (h : cleanE l = 0) : ∀ c ∈ cleanT l, 32 ≤ c.toNat := by
  obtain ⟨h1, h2, h3, h4⟩ := cleanE_0 h
  have ha : l.all okB = true := by
    unfold cleanB at h1
    simp only [Bool.and_eq_true] at h1
    exact h1.2
  intro c hc
  rw [h4] at hc
  have hm : c ∈ l.foldl sq [] := by
    unfold sqz trimE at hc
    split at hc
    · exact List.dropLast_subset _ hc
    · exact hc
  rcases sq_sub l [] c hm with h | h
  · cases h
  · have := List.all_eq_true.1 ha c h
    simp [okB, okC] at this
    exact this.1

end Go.Proofs.YtogjokofmfpmgaaGreatDoor
namespace Go.Proofs.YtogjokofmfpmgaaGreatDoor
open Go.RowKit

def telC (c : UInt8) : Bool := decide (c.toNat ≠ 32 ∧ c.toNat ≠ 45 ∧ c.toNat ≠ 46 ∧ c.toNat ≠ 47 ∧ c.toNat ≠ 40 ∧ c.toNat ≠ 41)
def telD (l : List UInt8) : List UInt8 := l.filter telC
def telR (l : List UInt8) : List UInt8 := if 0 < l.length ∧ bt l 0 = 43 then l.drop 1 else l
def TelP (l : List UInt8) : Prop := 3 ≤ (telR l).length ∧ (telR l).length ≤ 15 ∧ ∀ i, i < (telR l).length → 48 ≤ bt (telR l) i ∧ bt (telR l) i ≤ 57
open Classical in
noncomputable def telB (l : List UInt8) : Bool := decide (TelP l)
theorem telB_t {l : List UInt8} (h : TelP l) : telB l = true := by simp [telB, h]
theorem telB_f {l : List UInt8} (h : ¬ TelP l) : telB l = false := by simp [telB, h]
open Classical in
noncomputable def telT (l : List UInt8) : List UInt8 := if cleanE l = 0 ∧ TelP (telD (cleanT l)) then telD (cleanT l) else []
open Classical in
noncomputable def telE (l : List UInt8) : Int := if cleanE l = 0 then (if TelP (telD (cleanT l)) then 0 else 1) else cleanE l
theorem tel_e {l : List UInt8} (h : cleanE l ≠ 0) : telT l = [] ∧ telE l = cleanE l := by simp [telT, telE, h]
theorem tel_yes {l : List UInt8} (h : cleanE l = 0) (k : TelP (telD (cleanT l))) : telT l = telD (cleanT l) ∧ telE l = 0 := by simp [telT, telE, h, k]
theorem tel_no {l : List UInt8} (h : cleanE l = 0) (k : ¬ TelP (telD (cleanT l))) : telT l = [] ∧ telE l = 1 := by simp [telT, telE, h, k]
theorem telD_next (l : List UInt8) (k : Nat) (h : k < l.length) : telD (l.take (k + 1)) = telD (l.take k) ++ (if telC l[k] = true then [l[k]] else []) := by
  unfold telD
  rw [List.take_succ_eq_append_getElem h, List.filter_append]
  congr 1
  by_cases hc : telC l[k] = true <;> simp [hc]
theorem telD_skip (l : List UInt8) (k : Nat) (h : k < l.length) (c : telC l[k] = false) : telD (l.take (k + 1)) = telD (l.take k) := by
  rw [telD_next l k h, c]; simp
theorem telD_put (l : List UInt8) (k : Nat) (h : k < l.length) (c : telC l[k] = true) : telD (l.take (k + 1)) = telD (l.take k) ++ [l[k]] := by
  rw [telD_next l k h, c]; simp
theorem mem_bt_of {l : List UInt8} {P : Nat → Prop} (h : ∀ i, i < l.length → P (bt l i)) : ∀ c ∈ l, P c.toNat := by
  intro c hc
  obtain ⟨i, hi, e⟩ := mem_bt hc
  rw [← e]; exact h i hi
theorem tel_sign {l : List UInt8} (h : TelP l) : ∀ c ∈ l, c.toNat = 43 ∨ (48 ≤ c.toNat ∧ c.toNat ≤ 57) := by
  have hr := mem_bt_of (P := fun n => 48 ≤ n ∧ n ≤ 57) h.2.2
  intro c hc
  unfold telR at hr
  split at hr
  · next k =>
    cases l with
    | nil => cases hc
    | cons b t =>
      rcases List.mem_cons.1 hc with rfl | hc
      · exact .inl k.2
      · exact .inr (hr c hc)
  · exact .inr (hr c hc)
theorem tel_len {l : List UInt8} (h : TelP l) : 3 ≤ l.length ∧ l.length ≤ 16 := by
  have h1 := h.1
  have h2 := h.2.1
  unfold telR at h1 h2
  split at h1
  · next k => rw [if_pos k] at h2; rw [List.length_drop] at h1 h2; omega
  · next k => rw [if_neg k] at h2; omega
theorem telD_self {l : List UInt8} (h : TelP l) : telD l = l := by
  unfold telD
  rw [List.filter_eq_self]
  intro c hc
  have := tel_sign h c hc
  simp only [telC, decide_eq_true_eq]
  omega
/-- A number is its own form. -/
theorem tel_self {l : List UInt8} (h : TelP l) : telT l = l ∧ telE l = 0 := by
  have hl := tel_len h
  have hc := clean_plain (l := l) (fun c hc => by have := tel_sign h c hc; omega) (by omega) (by omega)
  have := tel_yes hc.2 (by rw [hc.1, telD_self h]; exact h)
  rwa [hc.1, telD_self h] at this
theorem tel_ok {l : List UInt8} (h : telE l = 0) : TelP (telT l) := by
  by_cases c : cleanE l = 0
  · by_cases k : TelP (telD (cleanT l))
    · rw [(tel_yes c k).1]; exact k
    · have := (tel_no c k).2; omega
  · have := (tel_e c).2; omega
end Go.Proofs.YtogjokofmfpmgaaGreatDoor
namespace Go.Proofs.YtogjokofmfpmgaaGreatDoor
open Go.Shelf
def lays101_ren : Go.Shelf.Ren := ⟨fun | 101 => 191 | 208 => 199 | 206 => 203 | n => n, fun | 9 => 9 | 4 => 4 | 3 => 3 | n => n, fun | n => n⟩
theorem lays101 : Go.Proofs.Lays.n101 Tryz.prog lays101_ren := {
  mixed := by kernel_rfl
  f101 := Tryz.func191.trans (congrArg some (by kernel_rfl))
  f206 := Tryz.func203.trans (congrArg some (by kernel_rfl))
  f208 := Tryz.func199.trans (congrArg some (by kernel_rfl))
  t3 := Tryz.underlying3
  a3 := Tryz.isAgg3
  z3 := Tryz.sizeOf3
  v3 := Tryz.zeroValue3
  t4 := Tryz.underlying4
  a4 := Tryz.isAgg4
  z4 := Tryz.sizeOf4
  v4 := Tryz.zeroValue4
  t9 := Tryz.underlying9
  a9 := Tryz.isAgg9
  z9 := Tryz.sizeOf9
  v9 := Tryz.zeroValue9 }
end Go.Proofs.YtogjokofmfpmgaaGreatDoor
namespace Go.Proofs.YtogjokofmfpmgaaGreatDoor
open Go.RowKit

theorem trim_calls (s : ByteArray) (w : World) : Calls Tryz.prog 191 #[.string s, .string ⟨#[43]⟩] w fun e w' => e = .returned (.string (bs (telR s.data.toList))) ∧ w = w' := by
  refine (Any.strings_TrimPrefix lays101 s ⟨#[43]⟩ w).mono ?_
  rintro e w' ⟨rfl, rfl⟩
  refine ⟨?_, rfl⟩
  congr 2
  show bs _ = bs _
  congr 1
  unfold Lib.trimPrefix telR
  generalize s.data.toList = l
  show (if Lib.hasPrefix l [43] then l.drop 1 else l) = _
  cases l with
  | nil => simp [Lib.hasPrefix]
  | cons b t =>
    by_cases hb : b = 43
    · subst hb
      rw [if_pos (by simp [Lib.hasPrefix]), if_pos ⟨by simp, by rw [bt_zero]; rfl⟩]
    · rw [if_neg (by simpa [Lib.hasPrefix] using fun e : 43 = b => hb e.symm), if_neg (fun h => hb (UInt8.toNat_inj.1 (by have := h.2; rw [bt_zero] at this; exact this)))]

def rowV (l : List UInt8) : List UInt8 × Bool → Prop := fun p => (TelP l ∧ p = (telR l, true)) ∨ (¬ TelP l ∧ p = ([], false))
structure RowE (l : List UInt8) (e : Ending) : Prop where
  o : ∃ p, rowV l p ∧ e = .returned (.tuple #[.string (bs p.1), .bool p.2])

set_option maxHeartbeats 1000000 in
theorem row_calls (s : ByteArray) (hs : s.size ≤ 1000000000) (w : World) : Calls Tryz.prog 177 #[.string s] w fun e w' => RowE s.data.toList e ∧ w = w' := by
  have C1 := hd (trim_calls s)
  obtain ⟨R, hR⟩ : ∃ R, telR s.data.toList = R := ⟨_, rfl⟩
  rw [hR] at C1
  have hz : (bs R).size = R.length := bs_size R
  have hle : R.length ≤ s.size := by
    have : s.data.toList.length = s.size := by simp
    rw [← hR, ← this]
    unfold telR
    split
    · rw [List.length_drop]; omega
    · exact Nat.le_refl _
  have HTel := hd (show TelP s.data.toList ↔ 3 ≤ R.length ∧ R.length ≤ 15 ∧ ∀ i, i < R.length → 48 ≤ bt R i ∧ bt R i ≤ 57 by unfold TelP; rw [hR])
  have HYES := hd (fun h : TelP s.data.toList => (⟨⟨_, .inl ⟨h, rfl⟩, by rw [hR]⟩⟩ : RowE s.data.toList (Ending.returned (.tuple #[.string (bs R), .bool true]))))
  have HNO := hd (fun h : ¬ TelP s.data.toList => (⟨⟨_, .inr ⟨h, rfl⟩, rfl⟩⟩ : RowE s.data.toList (Ending.returned (.tuple #[.string (bs []), .bool false]))))
  clear hR
  have HZ := hd hz
  clear hz
  by_cases c1 : (bs R).size < 3
  · have HX := hd (HNO.o (fun h => by have := (HTel.o.1 h).1; rw [HZ.o] at c1; omega))
    go_enter Tryz.func177, Tryz.ntmps177
    go_wp2_with fail
    refine (C1.o w).mono ?_
    rintro e w1 ⟨rfl, rfl⟩
    go_wp2_with fail
    go_ret2
    exact ⟨HX.o, rfl⟩
  by_cases c2 : 15 < (bs R).size
  · have HX := hd (HNO.o (fun h => by have := (HTel.o.1 h).2.1; rw [HZ.o] at c2; omega))
    go_enter Tryz.func177, Tryz.ntmps177
    go_wp2_with fail
    refine (C1.o w).mono ?_
    rintro e w1 ⟨rfl, rfl⟩
    go_wp2_with fail
    go_ret2
    exact ⟨HX.o, rfl⟩
  go_enter Tryz.func177, Tryz.ntmps177
  go_wp2_with fail
  refine (C1.o w).mono ?_
  rintro e w1 ⟨rfl, rfl⟩
  go_wp2_with fail
  go_loop [18, 5, 2, 3] (fun i _ _ _ => ∃ k : Nat, i = .int .i64 k ∧ k ≤ (bs R).size ∧ Hd (∀ j, j < k → 48 ≤ bt R j ∧ bt R j ≤ 57)) (fun i _ _ _ => (bs R).size - (intOf i).toNat)
  case atStart => exact ⟨0, rfl, Nat.zero_le _, fun j hj => absurd hj (Nat.not_lt_zero _)⟩
  case round =>
    obtain ⟨k, rfl, hk, hh⟩ := hrel
    have hki : (0 : Int) ≤ (k : Int) := by omega
    by_cases hlt : k < (bs R).size
    · have BK := hd (bt_self (bs R) k hlt)
      rw [bs_data] at BK
      by_cases hc : 48 ≤ (bs R)[k].toNat ∧ (bs R)[k].toNat ≤ 57
      · have HN : Hd (∀ j, j < k + 1 → 48 ≤ bt R j ∧ bt R j ≤ 57) := fun j hj => by
          by_cases e : j = k
          · subst e; rw [BK.o]; exact hc
          · exact hh.o j (by omega)
        obtain ⟨h1, h2⟩ := hc
        go_wp2
        go_round
        case rel => exact ⟨k + 1, by go_num, by omega, HN⟩
        case measure => simp [intOf]; omega
      · have HX := hd (HNO.o (fun h => hc (by rw [← BK.o]; exact (HTel.o.1 h).2.2 k (by rw [← HZ.o]; exact hlt))))
        by_cases h1 : (bs R)[k].toNat < 48
        · clear hc
          go_wp2
          go_ret2
          exact ⟨HX.o, rfl⟩
        · have h2 : 57 < (bs R)[k].toNat := by omega
          clear hc
          go_wp2
          go_ret2
          exact ⟨HX.o, rfl⟩
    · have HX := hd (HYES.o (HTel.o.2 ⟨by rw [← HZ.o]; omega, by rw [← HZ.o]; omega, fun j hj => hh.o j (by rw [← HZ.o] at hj; omega)⟩))
      go_wp2
      go_ret2
      exact ⟨HX.o, rfl⟩

theorem istel_calls (s : ByteArray) (hs : s.size ≤ 1000000000) (w : World) : Calls Tryz.prog 155 #[.string s] w fun e w' => e = .returned (.bool (telB s.data.toList)) ∧ w = w' := by
  have C1 := hd (row_calls s hs)
  go_enter Tryz.func155, Tryz.ntmps155
  go_wp2_with fail
  refine (C1.o w).mono ?_
  rintro e w1 ⟨⟨p, hp, rfl⟩, rfl⟩
  have HP := hd (show p.2 = telB s.data.toList by
    rcases hp with ⟨h, rfl⟩ | ⟨h, rfl⟩
    · exact (telB_t h).symm
    · exact (telB_f h).symm)
  clear hp
  go_wp2_with fail
  go_ret
  exact ⟨retB HP.o, rfl⟩

end Go.Proofs.YtogjokofmfpmgaaGreatDoor
namespace Go.Proofs.YtogjokofmfpmgaaGreatDoor
open Go.RowKit

theorem telC_f {c : UInt8} (h : c.toNat = 32 ∨ c.toNat = 45 ∨ c.toNat = 46 ∨ c.toNat = 47 ∨ c.toNat = 40 ∨ c.toNat = 41) : telC c = false := by
  simp only [telC, decide_eq_false_iff_not]; omega
theorem telC_t {c : UInt8} (h : ¬ (c.toNat = 32 ∨ c.toNat = 45 ∨ c.toNat = 46 ∨ c.toNat = 47 ∨ c.toNat = 40 ∨ c.toNat = 41)) : telC c = true := by
  simp only [telC, decide_eq_true_eq]; omega

set_option maxRecDepth 100000 in
set_option maxHeartbeats 4000000 in
theorem telcan_calls (s : ByteArray) (hs : s.size ≤ 1000000) (w : World) (ht : Tbl w) : Calls Tryz.prog 140 #[.string s] w fun e w' => e = .returned (.tuple #[.string (bs (telT s.data.toList)), .int .i64 (telE s.data.toList)]) ∧ Below w.heap.size w w' := by
  have C1 := hd (clean_calls s hs w ht)
  clear ht
  obtain ⟨i0, hi, hz0, hz1, hz2⟩ := info_parts u8Info
  obtain ⟨V, hV⟩ : ∃ V, telT s.data.toList = V := ⟨_, rfl⟩
  obtain ⟨F, hF⟩ : ∃ F, telE s.data.toList = F := ⟨_, rfl⟩
  rw [hV, hF]
  have HR := hd (⟨hV.symm, hF.symm⟩ : V = telT s.data.toList ∧ F = telE s.data.toList)
  clear hV hF
  have hl := cleanT_len s.data.toList
  have R1 := hd (fun h : cleanE s.data.toList ≠ 0 => tel_e h)
  have R2 := hd (fun (h : cleanE s.data.toList = 0) k => tel_yes h k)
  have R3 := hd (fun (h : cleanE s.data.toList = 0) k => tel_no h k)
  obtain ⟨T, hT⟩ : ∃ T, cleanT s.data.toList = T := ⟨_, rfl⟩
  obtain ⟨E, hE⟩ : ∃ E, cleanE s.data.toList = E := ⟨_, rfl⟩
  rw [hT, hE] at C1 R2 R3
  rw [hE] at R1
  rw [hT] at hl
  clear hT hE
  by_cases hE0 : E = 0
  · subst hE0
    have hz : (bs T).size = T.length := bs_size T
    have HZ := hd hz
    have hs64 : (bs T).size ≤ 64 := by omega
    clear hz
    go_enter Tryz.func140, Tryz.ntmps140
    go_wp2_with fail
    refine C1.o.mono ?_
    rintro e w1 ⟨rfl, hb1⟩
    have HB1 := hd hb1
    clear hb1
    go_wp2_with fail
    go_loopw [6, 18, 7] (fun out i _ wr => ∃ (k : Nat) (A : Option Addr) (c m : Nat) (O : List UInt8), i = .int .i64 k ∧ k ≤ (bs T).size ∧ out = .slice A m c ∧ m ≤ k ∧ Hd (telD (T.take k) = O) ∧ Hd (O.length = m) ∧ Hd (m = 0 → A = none ∧ c = 0) ∧ Row wr (From w.heap.size) 5 1 A m c (enc8 O) ∧ Below w.heap.size w wr) (fun _ i _ _ => (bs T).size - (intOf i).toNat)
    case atStart => exact ⟨0, none, 0, 0, [], rfl, Nat.zero_le _, rfl, Nat.le_refl _, rfl, rfl, fun _ => ⟨rfl, rfl⟩, Row.nil _ _ _ _, HB1.o⟩
    case round =>
      obtain ⟨k, A, c, m, O, rfl, hk, rfl, hm, HO, HM, H0, hr, hbe⟩ := hrel
      have hsz := hbe.size
      have hki : (0 : Int) ≤ (k : Int) := by omega
      by_cases hlt : k < (bs T).size
      · have hlT : k < T.length := by rw [← HZ.o]; exact hlt
        have ec : (bs T)[k] = T[k] := by show T.toArray[k]'(by simpa using hlT) = T[k]; exact List.getElem_toArray _
        have HC := hd ec
        by_cases hc : (bs T)[k].toNat = 32 ∨ (bs T)[k].toNat = 45 ∨ (bs T)[k].toNat = 46 ∨ (bs T)[k].toNat = 47 ∨ (bs T)[k].toNat = 40 ∨ (bs T)[k].toNat = 41
        · have HN := hd (show telD (T.take (k + 1)) = O by rw [telD_skip T k hlT (by rw [← ec]; exact telC_f hc)]; exact HO.o)
          clear ec
          rcases hc with hc | hc | hc | hc | hc | hc
          all_goals
            (first | (have n1 : (((bs T)[k].toNat : Int) == 32) = true := by simp; omega) | (have n1 : (((bs T)[k].toNat : Int) == 32) = false := by simp; omega)
             first | (have n2 : (((bs T)[k].toNat : Int) == 45) = true := by simp; omega) | (have n2 : (((bs T)[k].toNat : Int) == 45) = false := by simp; omega)
             first | (have n3 : (((bs T)[k].toNat : Int) == 46) = true := by simp; omega) | (have n3 : (((bs T)[k].toNat : Int) == 46) = false := by simp; omega)
             first | (have n4 : (((bs T)[k].toNat : Int) == 47) = true := by simp; omega) | (have n4 : (((bs T)[k].toNat : Int) == 47) = false := by simp; omega)
             first | (have n5 : (((bs T)[k].toNat : Int) == 40) = true := by simp; omega) | (have n5 : (((bs T)[k].toNat : Int) == 40) = false := by simp; omega)
             first | (have n6 : (((bs T)[k].toNat : Int) == 41) = true := by simp; omega) | (have n6 : (((bs T)[k].toNat : Int) == 41) = false := by simp; omega)
             clear hc
             go_wp2_with fail
             go_roundw
             case rel => exact ⟨k + 1, A, c, m, O, by go_num, by omega, rfl, by omega, HN, HM, H0, hr, hbe⟩
             case measure => simp [intOf]; omega)
        · have HN := hd (show telD (T.take (k + 1)) = O ++ [(bs T)[k]] by rw [telD_put T k hlT (by rw [← ec]; exact telC_t hc), HO.o, ec])
          clear ec
          have n1 : (((bs T)[k].toNat : Int) == 32) = false := by simp; omega
          have n2 : (((bs T)[k].toNat : Int) == 45) = false := by simp; omega
          have n3 : (((bs T)[k].toNat : Int) == 46) = false := by simp; omega
          have n4 : (((bs T)[k].toNat : Int) == 47) = false := by simp; omega
          have n5 : (((bs T)[k].toNat : Int) == 40) = false := by simp; omega
          have n6 : (((bs T)[k].toNat : Int) == 41) = false := by simp; omega
          clear hc
          go_wp2_with (at_builtin; go_loud (refine wpList_append_row rfl _ _ 27 rfl (Of A) 5 i0 (.int .u8 0) 1 1 Tryz.underlying27 hi hz0 hz1 hz2 rfl A m c (enc8 O) rfl (hr.own_.alloc _) ⟨_, 0, none⟩ 1 1 [.int .u8 ((bs T)[k].toNat : Int)] rfl rfl (cells_at (Blk.new_ _ _ (by simp) _ _) rfl) (by simp [Value.oneCell']) (by omega) (by unfold maxLen; omega) (by omega) ?_; intro A2 c2 w2 hown2 hchg2))
          go_roundw
          case rel =>
            refine ⟨k + 1, A2, c2, m + 1, O ++ [(bs T)[k]], by go_num, by omega, rfl, by omega, HN, hd (by rw [List.length_append, HM.o]; rfl), hd (fun h => by omega), ?_, ?_⟩
            · rw [enc8_snoc]
              refine hown2.mono fun q hq => ?_
              rcases hq with hq | hq
              · exact hr.of_sub q hq
              · simp at hq; show w.heap.size ≤ q; omega
            · exact hbe.trans ((((Chg.refl (From w.heap.size) wr).alloc _).trans hchg2 (fun q hq => .inl (hr.of_sub q hq))).below (fun _ h => h) hsz)
          case measure => simp [intOf]; omega
      · have hke : k = (bs T).size := by omega
        subst hke
        clear hk
        have hfold : T.take (bs T).size = T := List.take_of_length_le (by rw [HZ.o]; exact Nat.le_refl _)
        rw [hfold] at HO
        clear hfold
        have hv : ∃ s', s' = bs O ∧ (convert 27 9 (.slice A m c)).run Tryz.prog wr = .ok (.string s') wr := by
          refine ⟨_, rfl, ?_⟩
          by_cases hm0 : m = 0
          · obtain ⟨rfl, rfl⟩ := H0.o hm0
            subst hm0
            have : O = [] := List.eq_nil_of_length_eq_zero HM.o
            subst this
            exact run_convert_bytes_nil wr 27 5 Tryz.underlying27 Tryz.underlying5 0 0 9 Tryz.underlying9
          · obtain ⟨g, rfl, _, hg, hmc, hcm, hcell, _⟩ := hr.at_ (by omega)
            have hv := run_convert_bytes_back (P := Tryz.prog) wr 27 9 5 ⟨g, 0, none⟩ c O Tryz.underlying27 Tryz.underlying5 Tryz.underlying9 (fun j hj => by
              have := hcell j _ (enc8_get O j hj)
              rw [bt_list O j hj] at this
              have hp : (⟨g, 0, none⟩ : Addr).add j = ⟨g, j, none⟩ := by unfold Addr.add; split <;> simp_all
              rw [hp]; exact this)
            rw [HM.o] at hv
            exact hv
        obtain ⟨s', hs', hv⟩ := hv
        have hIS := istel_calls (bs O) (by rw [bs_size, HM.o]; omega)
        rw [bs_data] at hIS
        rw [← hs'] at hIS
        have HS := hd hs'
        clear hs'
        by_cases hA : TelP O
        · rw [telB_t hA] at hIS
          have HX := hd (R2.o trivial (by rw [HO.o]; exact hA))
          have HIS := hd hIS
          clear hIS hA
          go_wp2_with fail
          refine (HIS.o _).mono ?_
          rintro e w3 ⟨rfl, rfl⟩
          go_wp2_with fail
          go_ret2
          exact ⟨retTE (by rw [HS.o, HR.o.1, HX.o.1, HO.o]) (by rw [HR.o.2, HX.o.2]), hbe⟩
        · rw [telB_f hA] at hIS
          have HX := hd (R3.o trivial (by rw [HO.o]; exact hA))
          have HIS := hd hIS
          clear hIS hA
          go_wp2_with fail
          refine (HIS.o _).mono ?_
          rintro e w3 ⟨rfl, rfl⟩
          go_wp2_with fail
          go_ret2
          exact ⟨retTE (by rw [HR.o.1, HX.o.1]; rfl) (by rw [HR.o.2, HX.o.2]), hbe⟩
  · have n0 : (E != 0) = true := by simpa using hE0
    have H0 := hd (R1.o hE0)
    clear hE0
    go_enter Tryz.func140, Tryz.ntmps140
    go_wp2_with fail
    refine C1.o.mono ?_
    rintro e w1 ⟨rfl, hb1⟩
    go_wp2_with fail
    go_ret2
    exact ⟨retTE (by rw [HR.o.1, H0.o.1]; rfl) (by rw [HR.o.2, H0.o.2]), hb1⟩

end Go.Proofs.YtogjokofmfpmgaaGreatDoor
namespace Go.Proofs.YtogjokofmfpmgaaGreatDoor

def leap (y : Int) : Bool := decide (1 ≤ y) && decide (y ≤ 9999) && (y % 4 == 0) && (!(y % 100 == 0) || (y % 400 == 0))
def dm (y m : Int) : Int := if m = 4 ∨ m = 6 ∨ m = 9 ∨ m = 11 then 30 else if m = 2 then (if y = 0 ∨ leap y = true then 29 else 28) else 31
def mayB (y m d : Int) : Bool := decide (0 ≤ y ∧ y ≤ 9999 ∧ 1 ≤ m ∧ m ≤ 12 ∧ 1 ≤ d ∧ d ≤ dm y m)

theorem mayB_iff (y m d : Int) : mayB y m d = true ↔ 0 ≤ y ∧ y ≤ 9999 ∧ 1 ≤ m ∧ m ≤ 12 ∧ 1 ≤ d ∧ d ≤ dm y m := by simp [mayB]
theorem dm_bd (y m : Int) : 28 ≤ dm y m ∧ dm y m ≤ 31 := by
  unfold dm
  split
  · omega
  · split
    · split <;> omega
    · omega
end Go.Proofs.YtogjokofmfpmgaaGreatDoor
namespace Go.Proofs.YtogjokofmfpmgaaGreatDoor
open Go.Shelf
def laysM171_ren : Go.Shelf.Ren := ⟨fun | 171 => 196 | 243 => 202 | 246 => 207 | 283 => 211 | 284 => 212 | 285 => 213 | 286 => 214 | 129 => 172 | 317 => 216 | 318 => 217 | 319 => 218 | 320 => 219 | 337 => 220 | 338 => 221 | n => n, fun | 3 => 3 | 9 => 9 | 2 => 2 | 4 => 4 | 171 => 215 | 0 => 0 | 53 => 126 | 37 => 27 | 5 => 5 | 173 => 217 | 212 => 220 | 51 => 171 | 20 => 20 | 213 => 221 | 46 => 110 | 232 => 222 | 233 => 223 | n => n, fun | 17 => 3 | 18 => 4 | 19 => 5 | n => n⟩
theorem laysM171 : Go.Proofs.LaysM.n171 Tryz.prog laysM171_ren := {
  mixed := by kernel_rfl
  f129 := Tryz.func172.trans (congrArg some (by kernel_rfl))
  f171 := Tryz.func196.trans (congrArg some (by kernel_rfl))
  f243 := Tryz.func202.trans (congrArg some (by kernel_rfl))
  f246 := Tryz.func207.trans (congrArg some (by kernel_rfl))
  f283 := Tryz.func211.trans (congrArg some (by kernel_rfl))
  f284 := Tryz.func212.trans (congrArg some (by kernel_rfl))
  f285 := Tryz.func213.trans (congrArg some (by kernel_rfl))
  f286 := Tryz.func214.trans (congrArg some (by kernel_rfl))
  f317 := Tryz.func216.trans (congrArg some (by kernel_rfl))
  f318 := Tryz.func217.trans (congrArg some (by kernel_rfl))
  f319 := Tryz.func218.trans (congrArg some (by kernel_rfl))
  f320 := Tryz.func219.trans (congrArg some (by kernel_rfl))
  f337 := Tryz.func220.trans (congrArg some (by kernel_rfl))
  f338 := Tryz.func221.trans (congrArg some (by kernel_rfl))
  t0 := Tryz.underlying0
  a0 := Tryz.isAgg0
  z0 := Tryz.sizeOf0
  v0 := Tryz.zeroValue0
  t2 := Tryz.underlying2
  a2 := Tryz.isAgg2
  z2 := Tryz.sizeOf2
  v2 := Tryz.zeroValue2
  t3 := Tryz.underlying3
  a3 := Tryz.isAgg3
  z3 := Tryz.sizeOf3
  v3 := Tryz.zeroValue3
  t4 := Tryz.underlying4
  a4 := Tryz.isAgg4
  z4 := Tryz.sizeOf4
  v4 := Tryz.zeroValue4
  t5 := Tryz.underlying5
  a5 := Tryz.isAgg5
  z5 := Tryz.sizeOf5
  v5 := Tryz.zeroValue5
  t9 := Tryz.underlying9
  a9 := Tryz.isAgg9
  z9 := Tryz.sizeOf9
  v9 := Tryz.zeroValue9
  t20 := Tryz.underlying20
  a20 := Tryz.isAgg20
  z20 := Tryz.sizeOf20
  v20 := Tryz.zeroValue20
  t37 := Tryz.underlying27
  a37 := Tryz.isAgg27
  z37 := Tryz.sizeOf27
  v37 := Tryz.zeroValue27
  t46 := Tryz.underlying110
  a46 := Tryz.isAgg110
  z46 := Tryz.sizeOf110
  v46 := Tryz.zeroValue110
  t51 := Tryz.underlying171
  a51 := Tryz.isAgg171
  z51 := Tryz.sizeOf171
  v51 := Tryz.zeroValue171
  t53 := Tryz.underlying126
  a53 := Tryz.isAgg126
  z53 := Tryz.sizeOf126
  v53 := Tryz.zeroValue126
  t171 := Tryz.underlying215
  a171 := Tryz.isAgg215
  z171 := Tryz.sizeOf215
  v171 := Tryz.zeroValue215
  t173 := Tryz.underlying217
  a173 := Tryz.isAgg217
  z173 := Tryz.sizeOf217
  v173 := Tryz.zeroValue217
  t212 := Tryz.underlying220
  a212 := Tryz.isAgg220
  z212 := Tryz.sizeOf220
  v212 := Tryz.zeroValue220
  t213 := Tryz.underlying221
  a213 := Tryz.isAgg221
  z213 := Tryz.sizeOf221
  t232 := Tryz.underlying222
  a232 := Tryz.isAgg222
  z232 := Tryz.sizeOf222
  v232 := Tryz.zeroValue222
  t233 := Tryz.underlying223
  a233 := Tryz.isAgg223
  z233 := Tryz.sizeOf223
  v233 := Tryz.zeroValue223
  g17 := by kernel_rfl
  g18 := by kernel_rfl
  g19 := by kernel_rfl
  i0 := by kernel_rfl
  i2 := by kernel_rfl
  i3 := by kernel_rfl
  i4 := by kernel_rfl
  i5 := by kernel_rfl
  i9 := by kernel_rfl
  i20 := by kernel_rfl
  i37 := by kernel_rfl
  i46 := by kernel_rfl
  i51 := by kernel_rfl
  i53 := by kernel_rfl
  i171 := by kernel_rfl
  i173 := by kernel_rfl
  i212 := by kernel_rfl
  i232 := by kernel_rfl
  i233 := by kernel_rfl
  m17 := by kernel_rfl
  m18 := by kernel_rfl
  m19 := by kernel_rfl }
def lays171_ren : Go.Shelf.Ren := ⟨fun | 171 => 196 | 243 => 202 | 246 => 207 | 283 => 211 | 284 => 212 | 285 => 213 | 286 => 214 | 129 => 172 | 317 => 216 | 318 => 217 | 319 => 218 | 320 => 219 | 337 => 220 | 338 => 221 | n => n, fun | 3 => 3 | 9 => 9 | 2 => 2 | 4 => 4 | 171 => 215 | 0 => 0 | 53 => 126 | 37 => 27 | 5 => 5 | 173 => 217 | 212 => 220 | 51 => 171 | 20 => 20 | 213 => 221 | 46 => 110 | 232 => 222 | 233 => 223 | n => n, fun | 17 => 3 | 18 => 4 | 19 => 5 | n => n⟩
theorem lays171 : Go.Proofs.Lays.n171 Tryz.prog lays171_ren := {
  mixed := by kernel_rfl
  f129 := Tryz.func172.trans (congrArg some (by kernel_rfl))
  f171 := Tryz.func196.trans (congrArg some (by kernel_rfl))
  f243 := Tryz.func202.trans (congrArg some (by kernel_rfl))
  f246 := Tryz.func207.trans (congrArg some (by kernel_rfl))
  f283 := Tryz.func211.trans (congrArg some (by kernel_rfl))
  f284 := Tryz.func212.trans (congrArg some (by kernel_rfl))
  f285 := Tryz.func213.trans (congrArg some (by kernel_rfl))
  f286 := Tryz.func214.trans (congrArg some (by kernel_rfl))
  f317 := Tryz.func216.trans (congrArg some (by kernel_rfl))
  f318 := Tryz.func217.trans (congrArg some (by kernel_rfl))
  f319 := Tryz.func218.trans (congrArg some (by kernel_rfl))
  f320 := Tryz.func219.trans (congrArg some (by kernel_rfl))
  f337 := Tryz.func220.trans (congrArg some (by kernel_rfl))
  f338 := Tryz.func221.trans (congrArg some (by kernel_rfl))
  t0 := Tryz.underlying0
  a0 := Tryz.isAgg0
  z0 := Tryz.sizeOf0
  v0 := Tryz.zeroValue0
  t2 := Tryz.underlying2
  a2 := Tryz.isAgg2
  z2 := Tryz.sizeOf2
  v2 := Tryz.zeroValue2
  t3 := Tryz.underlying3
  a3 := Tryz.isAgg3
  z3 := Tryz.sizeOf3
  v3 := Tryz.zeroValue3
  t4 := Tryz.underlying4
  a4 := Tryz.isAgg4
  z4 := Tryz.sizeOf4
  v4 := Tryz.zeroValue4
  t5 := Tryz.underlying5
  a5 := Tryz.isAgg5
  z5 := Tryz.sizeOf5
  v5 := Tryz.zeroValue5
  t9 := Tryz.underlying9
  a9 := Tryz.isAgg9
  z9 := Tryz.sizeOf9
  v9 := Tryz.zeroValue9
  t20 := Tryz.underlying20
  a20 := Tryz.isAgg20
  z20 := Tryz.sizeOf20
  v20 := Tryz.zeroValue20
  t37 := Tryz.underlying27
  a37 := Tryz.isAgg27
  z37 := Tryz.sizeOf27
  v37 := Tryz.zeroValue27
  t46 := Tryz.underlying110
  a46 := Tryz.isAgg110
  z46 := Tryz.sizeOf110
  v46 := Tryz.zeroValue110
  t51 := Tryz.underlying171
  a51 := Tryz.isAgg171
  z51 := Tryz.sizeOf171
  v51 := Tryz.zeroValue171
  t53 := Tryz.underlying126
  a53 := Tryz.isAgg126
  z53 := Tryz.sizeOf126
  v53 := Tryz.zeroValue126
  t171 := Tryz.underlying215
  a171 := Tryz.isAgg215
  z171 := Tryz.sizeOf215
  v171 := Tryz.zeroValue215
  t173 := Tryz.underlying217
  a173 := Tryz.isAgg217
  z173 := Tryz.sizeOf217
  v173 := Tryz.zeroValue217
  t212 := Tryz.underlying220
  a212 := Tryz.isAgg220
  z212 := Tryz.sizeOf220
  v212 := Tryz.zeroValue220
  t213 := Tryz.underlying221
  a213 := Tryz.isAgg221
  z213 := Tryz.sizeOf221
  t232 := Tryz.underlying222
  a232 := Tryz.isAgg222
  z232 := Tryz.sizeOf222
  v232 := Tryz.zeroValue222
  t233 := Tryz.underlying223
  a233 := Tryz.isAgg223
  z233 := Tryz.sizeOf223
  v233 := Tryz.zeroValue223
  g17 := by kernel_rfl
  g18 := by kernel_rfl
  g19 := by kernel_rfl }
end Go.Proofs.YtogjokofmfpmgaaGreatDoor
