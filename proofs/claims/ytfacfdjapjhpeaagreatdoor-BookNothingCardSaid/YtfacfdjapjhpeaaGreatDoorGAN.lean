/-
  Books: write.
-/
import Derived.Test.YtfacfdjapjhpeaaGreatDoorGAM
import Derived.Test.YtfacfdjapjhpeaaGreatDoorColAp
import Derived.Test.YtfacfdjapjhpeaaGreatDoorGAA
import Derived.Test.YtfacfdjapjhpeaaGreatDoorGAD
import Derived.Test.YtfacfdjapjhpeaaGreatDoorGAI
import Derived.Test.YtfacfdjapjhpeaaGreatDoorProg
import Derived.Laws.ResultCell
set_option linter.unusedVariables false
set_option linter.unusedSimpArgs false
namespace Go.Proofs.YtfacfdjapjhpeaaGreatDoor
open Go.RowKit Go.Lib

/-- What write says; the token stands, the version not yet. -/
def writeW (Q : Qt) (c : Int) (cs : ML Cs) (cn : List UInt8) (k : Int) (ops : List OpV) (s : Cs) : Co :=
  if (chkG s (Q.bytes - bytesT cs) [] ops (s.ml.length : Nat) 0).2.2 ≠ 0 then (⟨k, (chkG s (Q.bytes - bytesT cs) [] ops (s.ml.length : Nat) 0).2.2, 0, 0, [], (chkG s (Q.bytes - bytesT cs) [] ops (s.ml.length : Nat) 0).1, false⟩, [], c, cs)
  else if c = maxTok then (rsE k 9, [], c, cs)
  else (rsT k (c + 1), [], c + 1, putM cs cn (applyAll s ops (c + 1)))
theorem few_of {ops : List OpV} (h : ∀ o ∈ ops, OpSm o) (hl : ops.length ≤ 8) : fewP ops = true := by
  unfold fewP
  simp only [Bool.and_eq_true, Bool.not_eq_true', decide_eq_false_iff_not]
  refine ⟨by omega, List.all_eq_true.2 fun o ho => ?_⟩
  have := h o ho
  unfold OpSm at this
  simp
  omega
theorem bytesM_le : ∀ {ml : ML Ce}, (∀ e ∈ ml, e.2.text.length ≤ 900) → bytesM ml ≤ 900 * (ml.length : Int)
  | [], _ => by simp [bytesM]
  | e :: ml, h => by
    have h1 := h e (by simp)
    have h2 := bytesM_le (ml := ml) (fun x hx => h x (by simp [hx]))
    rw [bytesM_cons, List.length_cons]
    omega
/-- Sizes of a collection that is right. -/
theorem CsOk.sizes {Q : Qt} {T : Int} {s : Cs} (h : CsOk Q T s) (hQ : QtOk Q) : s.ml.length ≤ 16 ∧ s.log.length ≤ 64 ∧ bytesM s.ml ≤ 14400 := by
  have h1 := h.ok.mllen
  have h2 := h.ok.loglen
  have h3 := h.most
  have h4 := h.cap
  have h5 := hQ.d2
  have h6 := hQ.l2
  have h7 := bytesM_le (fun e he => (h.ml e he).2.1)
  omega

/-- The block of a slice of n elements; none of an empty one, whatever its address. -/
def OfN (A : Option Addr) (n : Nat) : Nat → Prop := fun k => 0 < n ∧ Of A k
theorem OfN.none {n k : Nat} : ¬ OfN Option.none n k := fun h => Of.none h.2
theorem Rds.chgN {w w' : World} {S : Nat → Prop} {A : Option Addr} {n size : Nat} {xs : List Value} (h : Rds w A n size xs) (hc : Chg S w w') (hd : ∀ k, OfN A n k → ¬ S k) : Rds w' A n size xs := by
  by_cases hn : 0 < n
  · exact h.chg hc (fun k hk => hd k ⟨hn, hk⟩)
  · exact ⟨h.len, fun h => absurd h hn⟩
theorem Rds.lt {w : World} {A : Option Addr} {n size : Nat} {xs : List Value} (h : Rds w A n size xs) : ∀ z, OfN A n z → z < w.heap.size := by
  rintro z ⟨hn, hz⟩
  obtain ⟨g, o, rfl, hg, _⟩ := h.at_ hn
  rw [hz.some_]
  exact hg
/-- What is known behind a call that answers at block ab. -/
structure AnsR (w w' : World) (y : Lay) (b ab : Nat) (c : Cf) (ts : ML (ML Cs)) (nm : List UInt8) (r : Co) (A : Option Addr) (cp : Nat) : Prop where
  ex : ∃ y', BookR w' y' b c ⟨r.2.2.1, putM ts nm r.2.2.2⟩ ∧ y.Sub y' w.heap.size ∧ y'.lam ab = .no ∧ ∀ k, Of A k → y'.lam k = .no
  a : Blk w' ab 39 (rsEnc r.1 A r.2.1.length cp).toArray
  its : Rds w' A r.2.1.length 4 (itsEnc r.2.1)
  chg : Chg (fun k => y.lam k ≠ .no ∨ k = ab) w w'
theorem applyAll_take (s : Cs) (ops : List OpV) (T : Int) (k : Nat) (h : k < ops.length) : applyAll s (ops.take (k + 1)) T = ((applyAll s (ops.take k) T).step ops[k] T).2 := by
  unfold applyAll
  rw [List.take_succ_eq_append_getElem h, List.foldl_append]
  rfl
theorem putM_twice {V : Type} {l : ML V} (h : Rising l) (k : List UInt8) (u v : V) : putM (putM l k u) k v = putM l k v := by
  have h1 := putM_spec k u h
  have h2 := putM_spec k v h1.1
  have h3 := putM_spec k v h
  refine rising_ext h2.1 h3.1 fun x => ?_
  rw [h2.2.1, h3.2.1, h1.2.1]
  by_cases hx : x = k
  · rw [if_pos hx, if_pos hx]
  · rw [if_neg hx, if_neg hx, if_neg hx]
/-- Behind k writes. -/
structure WrK (w wr : World) (y : Lay) (lam : Nat → Lab) (b ab : Nat) (c : Cf) (T : Int) (ts : ML (ML Cs)) (nm : List UInt8) (n by_ : Int) (cs : ML Cs) (cn : List UInt8) (sk : Cs) (k : Int) : Prop where
  v : BkV wr { y with lam := lam } b c T ts nm n by_ (putM cs cn sk)
  sub : y.Sub { y with lam := lam } w.heap.size
  ok : CsOk c.q T sk
  a : Blk wr ab 39 (rsEnc (rsE k 0) none 0 0).toArray
  no : lam ab = .no
  chg : Chg (fun k => y.lam k ≠ .no) w wr

set_option maxRecDepth 100000 in
set_option maxHeartbeats 8000000 in
theorem bwrite_calls (w : World) (y : Lay) (b ab : Nat) (c : Cf) (ctr : Int) (ts : ML (ML Cs)) (nm cn : List UInt8) (cs : ML Cs) (s : Cs) (A : Option Addr) (no cp : Nat) (ops : List OpV) (k : Int)
    (h : BkV w y b c ctr ts nm (cs.length : Nat) (bytesT cs) cs) (hQ : QtOk c.q) (h0 : 0 ≤ ctr) (hm : ctr ≤ maxTok) (ht : TnOk c.q ctr cs) (hs : getM cs cn = some s)
    (hr : Rds w A no 5 (opsE ops)) (hno : no = ops.length) (hnc : no ≤ cp) (hof : ∀ q, OfN A no q → y.lam q = .no) (hop : ∀ o ∈ ops, OpSm o) (hl8 : ops.length ≤ 8)
    (ha : Blk w ab 39 (rsEnc (rsE k 0) none 0 0).toArray) (hab : y.lam ab = .no) (hAa : ∀ q, OfN A no q → q ≠ ab) :
    Calls Tryz.prog 84 #[.pointer (some ⟨b, 0, none⟩), .pointer (some ⟨y.tb nm, 0, none⟩), .pointer (some ⟨y.cb nm cn, 0, none⟩), .slice A no cp, .pointer (some ⟨ab, 0, none⟩)] w fun e w' => (∃ v, e = .returned v) ∧ AnsR w w' y b ab c ts nm (writeW c.q ctr cs cn k ops s) none 0 := by
  have hx := ht.get hs
  obtain ⟨z1, z2, z3⟩ := hx.sizes hQ
  have hb0 := bytesT_nn cs
  have HROOM := hd (fun W (hb : Below w.heap.size w W) => qroom_calls c.q (cs.length : Nat) (bytesT cs) (y.bb nm) W (h.bud.below hb h.bud.lt) hb0 ht.bytes hQ.b2)
  have hcol := h.col _ (getM_mem hs)
  have HCHK := hd (fun W (hb : Below w.heap.size w W) => ccheck_calls W _ (y.cb nm cn) s A no cp ops (c.q.bytes - bytesT cs) (hcol.below hb) (by omega) (by omega) (hr.below hb) hno hnc (few_of hop hl8))
  have t1 := h.tblk.at_ 1 rfl
  obtain ⟨x, hxx⟩ : ∃ x, chkG s (c.q.bytes - bytesT cs) [] ops (s.ml.length : Nat) 0 = x := ⟨_, rfl⟩
  have HW : Hd (writeW c.q ctr cs cn k ops s = if x.2.2 ≠ 0 then (⟨k, x.2.2, 0, 0, [], x.1, false⟩, [], ctr, cs) else if ctr = maxTok then (rsE k 9, [], ctr, cs) else (rsT k (ctr + 1), [], ctr + 1, putM cs cn (applyAll s ops (ctr + 1)))) := hd (by unfold writeW; rw [hxx])
  rw [hxx] at HCHK
  have H := hd h
  have HT := hd ht
  have HX := hd hx
  have HRD := hd hr
  have HA := hd ha
  have HCX := hd hxx
  have HHQ := hd hQ
  have HHS := hd hs
  have HOP := hd hop
  have HNO := hd hno
  obtain ⟨idx, gr, er⟩ := x
  simp only at HCHK HW
  have a1f := ha.frozen 1
  have a5f := ha.frozen 5
  have al := ha.lt
  clear h hcol hr ha hxx hx hQ hs hop ht hno
  go_enter Tryz.func84, Tryz.ntmps84
  go_wp2_with fail
  refine (HROOM.o w (Below.refl _ _)).mono ?_
  rintro e w1 ⟨rfl, m1, rfl⟩
  go_wp2_with fail
  refine (HCHK.o _ (bdrewN (Below.refl _ _) _)).mono ?_
  rintro e w2 ⟨rfl, hb2⟩
  have HB : Hd (Below w.heap.size w w2) := hd ((bdrewN (Below.refl w.heap.size w) m1).trans hb2)
  have HA2 := hd (HA.o.below HB.o al)
  have HV2 := hd (H.o.below HB.o)
  clear hb2 t1 HROOM HCHK
  have HFIN : Hd (∀ (W : World) (y' : Lay) (r : Co), r.2.1 = [] → BookR W y' b c ⟨r.2.2.1, putM ts nm r.2.2.2⟩ → y.Sub y' w.heap.size → y'.lam ab = .no → Blk W ab 39 (rsEnc r.1 none 0 0).toArray → Chg (fun k => y.lam k ≠ .no ∨ k = ab) w W → AnsR w W y b ab c ts nm r none 0) := hd (fun W y' r hr hB hS hn hA hC =>
    ⟨⟨y', hB, hS, hn, fun _ h => (Of.none h).elim⟩, by rw [hr]; exact hA, by rw [hr]; exact (Row.nil W (fun _ => True) 39 4).rds, hC⟩)
  by_cases he : er = 0
  · subst he
    have hf1 := HA2.o.frozen 1
    have a1 : w2.cell? ⟨ab, 1, none⟩ = some (.int .i64 0) := HA2.o.at_ 1 rfl
    have al2 := HA2.o.lt
    by_cases hct : ctr = maxTok
    · have HE : Hd (writeW c.q ctr cs cn k ops s = (rsE k 9, [], ctr, cs)) := hd (by rw [HW.o, if_neg (by decide), if_pos hct])
      have hv := HV2.o.blk
      rw [hct] at hv
      have D := hd (bdraw_no w2 b c y.mb hv)
      clear hct hv
      go_wp2_with fail
      refine D.o.mono ?_
      rintro e w3 ⟨rfl, rfl⟩
      go_wp2_with fail
      refine bodyPost_ret (results_none rfl _ _ _) rfl ?_
      refine ⟨⟨_, rfl⟩, ?_⟩
      rw [HE.o]
      have hc : Chg (One ab) w2 (w2.setCell ⟨ab, 1, none⟩ (.int .i64 9)) := (Chg.refl (One ab) w2).setCell (p := ⟨ab, 1, none⟩) (.inl rfl) _
      exact HFIN.o _ y _ rfl ((HV2.o.chg hc (fun k hk => by cases hk; exact hab)).shut rfl rfl) (Lay.Sub.refl _ _) hab (HA2.o.set_ 1 _) ((Chg.of_below _ HB.o).trans hc (fun k hk => .inl (.inr hk)))
    · have HE : Hd (writeW c.q ctr cs cn k ops s = (rsT k (ctr + 1), [], ctr + 1, putM cs cn (applyAll s ops (ctr + 1)))) := hd (by rw [HW.o, if_neg (by decide), if_neg hct])
      have D := hd (bdraw_yes w2 b c ctr y.mb HV2.o.blk h0 hm hct)
      have HC0 : Hd (ctr + 1 ≤ maxTok) := hd (by omega)
      clear hct
      go_wp2_with fail
      refine D.o.mono ?_
      rintro e w3 ⟨rfl, hw3⟩
      have HK0 : Hd (WrK w w3 y y.lam b ab c (ctr + 1) ts nm (cs.length : Nat) (bytesT cs) cs cn s k) := hd (by
        have hne : ab ≠ b := fun e => by have := H.o.lb; rw [← e, hab] at this; cases this
        refine ⟨?_, Lay.Sub.refl _ _, HX.o.up (by omega), ?_, hab, ?_⟩
        · rw [putM_self HT.o.rise HHS.o, ← hw3]; exact HV2.o.draw _
        · rw [← hw3]; exact HA2.o.far hne _
        · rw [← hw3]; exact (Chg.of_below _ HB.o).setCell (.inl (by rw [H.o.lb]; exact nofun)) _)
      clear hw3 D HA2 hf1 a1 al2
      go_wp2_with fail
      go_loopw [51, 16] (fun i _ wr => ∃ (j : Nat) (lam : Nat → Lab), i = .int .i64 j ∧ j ≤ no ∧ Hd (WrK w wr y lam b ab c (ctr + 1) ts nm (cs.length : Nat) (bytesT cs) cs cn (applyAll s (ops.take j) (ctr + 1)) k)) (fun i _ _ => no - (RowKit.intOf i).toNat)
      case atStart => exact ⟨0, y.lam, rfl, Nat.zero_le _, HK0⟩
      case round =>
        clear HK0
        obtain ⟨j, lam, rfl, hj, HK⟩ := hrel
        have hj0 : (0 : Int) ≤ (j : Int) := by omega
        by_cases hlt : j < no
        · have hlti : (j : Int) < (no : Int) := by omega
          have hjl : j < ops.length := by rw [← HNO.o]; exact hlt
          obtain ⟨o, ho⟩ : ∃ o, ops[j] = o := ⟨_, rfl⟩
          have HT1 : Hd (applyAll s (ops.take (j + 1)) (ctr + 1) = ((applyAll s (ops.take j) (ctr + 1)).step o (ctr + 1)).2) := hd (by rw [applyAll_take _ _ _ _ hjl, ho])
          have HOO : Hd (OpSm o) := hd (HOP.o o (by rw [← ho]; exact List.getElem_mem hjl))
          obtain ⟨sk, hsk⟩ : ∃ sk, applyAll s (ops.take j) (ctr + 1) = sk := ⟨_, rfl⟩
          rw [hsk] at HK HT1
          have hKo := HK.o
          obtain ⟨ga, oa, rfl, hga, hcl⟩ := HRD.o.at_ (by omega)
          have hgo : wr.heap[ga]? = w.heap[ga]? := hKo.chg.block ga hga (by rw [hof ga ⟨by omega, rfl⟩]; exact fun h => h rfl)
          have hcc : ∀ i v, i < 5 → (opEnc o)[i]? = some v → wr.cell? ⟨ga, oa + j * 5 + i, none⟩ = some v := fun i v hi hv => by rw [Nat.add_assoc]; exact (World.cell?_of_block (a := ⟨ga, oa + (j * 5 + i), none⟩) hgo).trans (hcl _ _ ((opsE_at ops j hjl i hi).trans (by rw [ho]; exact hv)))
          have hgl : ga < wr.heap.size := Nat.lt_of_lt_of_le hga hKo.chg.size
          obtain ⟨z4, z5, z6⟩ := hKo.ok.sizes HHQ.o
          have hp1 := putM_spec cn sk HT.o.rise
          have HMEM : Hd ((cn, sk) ∈ putM cs cn sk) := hd (getM_mem (by rw [hp1.2.1, if_pos rfl]))
          have HAP := hd (fun (W : World) (hb : Below wr.heap.size wr W) => apply_calls W _ (y.cb nm cn) sk o (ctr + 1) ((hKo.v.col _ HMEM.o).below hb) hKo.ok.ok (fun q hq => Nat.lt_of_lt_of_le (hKo.v.lt q (by rw [hq]; exact nofun)) hb.size) (by omega) (by omega) (by omega) (by have := HOO.o.2; omega))
          obtain ⟨od, ou, oc, ok, ov⟩ := o
          have q0 : wr.cell? ⟨ga, oa + j * 5, none⟩ = some (.bool od) := hcc 0 _ (by omega) rfl
          have q1 := hcc 1 _ (by omega) rfl
          have q2 := hcc 2 _ (by omega) rfl
          have q3 := hcc 3 _ (by omega) rfl
          have q4 := hcc 4 _ (by omega) rfl
          simp only [opEnc] at HAP
          clear hcl hcc hgo hKo hsk ho hp1
          go_wp2_with fail
          refine (HAP.o _ ((Below.refl _ wr).alloc (Nat.le_refl _) _)).mono ?_
          rintro e w5 ⟨rfl, hC5, hc5⟩
          have HK5 : Hd (WrK w w5 y (relab lam (wr.heap.size + 1) w5.heap.size (.cl nm cn)) b ab c (ctr + 1) ts nm (cs.length : Nat) (bytesT cs) cs cn (applyAll s (ops.take (j + 1)) (ctr + 1)) k) := hd (by
            rw [HT1.o]
            have hz : (wr.alloc (.cells #[.bool od, .string (bs ou), .string (bs oc), .int .i64 ok, .int .i64 ov] 60)).heap.size = wr.heap.size + 1 := by simp
            have hp1 := putM_spec cn sk HT.o.rise
            have hv := (HK.o.v.below ((Below.refl _ wr).alloc (Nat.le_refl _) (.cells #[.bool od, .string (bs ou), .string (bs oc), .int .i64 ok, .int .i64 ov] 60))).one (cn := cn) hp1.1 (by unfold hasM; rw [hp1.2.1, if_pos rfl]; rfl) hc5 hC5
            rw [putM_twice HT.o.rise, hz] at hv
            have hal := HK.o.a.lt
            refine ⟨hv, fun q hq => ?_, HK.o.ok.step (Int.le_refl _) (by omega) HOO.o, (HK.o.a.alloc _).chg hc5 (fun h => by have h : lam ab = .cl nm cn := h; rw [HK.o.no] at h; cases h), ?_, (HK.o.chg.alloc _).trans hc5 (fun q hq => ?_)⟩
            · have hs := HK.o.chg.size
              rcases relab_sub (B := w.heap.size) (by omega) hq with h1 | h1
              · exact HK.o.sub q h1
              · exact .inr h1
            · rw [relab_old (by omega)]; exact HK.o.no
            · exact HK.o.sub q (by have hq : lam q = .cl nm cn := hq; show lam q ≠ .no; rw [hq]; exact nofun))
          clear hC5 hc5
          go_wp2
          go_roundw
          case rel => exact ⟨j + 1, _, by go_num, by omega, HK5⟩
          case measure => simp [RowKit.intOf]; omega
        · obtain rfl : j = no := by omega
          have HTA : Hd (ops.take j = ops) := hd (List.take_of_length_le (by rw [← HNO.o]; exact Nat.le_refl _))
          rw [HTA.o] at HK
          obtain ⟨m, HF⟩ : ∃ m, Hd (Far s (applyAll s ops (ctr + 1)) ops (c.q.bytes - bytesT cs) m gr (ctr + 1)) := by
            obtain ⟨m, hf⟩ := far_all HX.o.ok (T := ctr + 1) (by have := HX.o.lat; omega) HCX.o
            exact ⟨m, hd hf⟩
          obtain ⟨sk, hsk⟩ : ∃ sk, applyAll s ops (ctr + 1) = sk := ⟨_, rfl⟩
          rw [hsk] at HK HF HE
          have hby : bytesT (putM cs cn sk) = bytesT cs + gr := by
            rw [bytesT_put _ _ HT.o.rise, HHS.o, HF.o.bytes]
            simp only
            omega
          have hgr : gr ≤ c.q.bytes - bytesT cs := by
            by_cases hz : ops = []
            · have := HCX.o
              rw [hz] at this
              have := chkG_done this
              have := HT.o.bytes
              omega
            · exact (HF.o.is hz).2
          have hnn := bytesT_nn (putM cs cn sk)
          have HMV := hd (qmove_calls c.q (cs.length : Nat) (bytesT cs) (y.bb nm) wr HK.o.v.bud gr HT.o.bytes hb0 hgr HHQ.o.b2 (by omega))
          have t1 : wr.cell? ⟨y.tb nm, 1, none⟩ = some (.pointer (some ⟨y.bb nm, 0, none⟩)) := HK.o.v.tblk.at_ 1 rfl
          have HBY := hd hby
          clear hby hgr hnn hsk
          go_wp2_with fail
          refine HMV.o.mono ?_
          rintro e w6 ⟨rfl, hb6, hc6⟩
          have HB6 := hd hb6
          have HC6 := hd hc6
          have hab6 : Blk w6 ab 39 (rsEnc (rsE k 0) none 0 0).toArray := HK.o.a.chg hc6 (fun h => by have h : ab = y.bb nm := h; have h2 := HK.o.v.lbu; rw [← h] at h2; have h2 : lam ab = .bu nm := h2; have h3 := HK.o.no; rw [h2] at h3; cases h3)
          have HA6 := hd hab6
          have a2 : w6.cell? ⟨ab, 2, none⟩ = some (.int .i64 0) := hab6.at_ 2 rfl
          have f2 := hab6.frozen 2
          have al6 := hab6.lt
          clear hb6 hc6 hab6 t1
          go_wp2_with fail
          go_end0
          refine ⟨⟨_, rfl⟩, ?_⟩
          rw [HE.o]
          have hv6 := HK.o.v.budget HC6.o HB6.o
          have hc : Chg (One ab) w6 (w6.setCell ⟨ab, 2, none⟩ (.int .i64 (ctr + 1))) := (Chg.refl (One ab) w6).setCell (p := ⟨ab, 2, none⟩) (.inl rfl) _
          refine HFIN.o _ { y with lam := lam } _ rfl ((hv6.chg hc (fun k hk => by cases hk; exact HK.o.no)).shut ?_ HBY.o.symm) HK.o.sub HK.o.no (HA6.o.set_ 2 _) (((HK.o.chg.mono (fun k hk => .inl hk)).trans HC6.o (fun k hk => ?_)).trans hc (fun k hk => .inl (.inr hk)))
          · rw [putM_there_len (has_of_get HHS.o)]
          · have hk : k = y.bb nm := hk
            have h2 := HK.o.v.lbu
            rw [← hk] at h2
            rcases HK.o.sub k (by show lam k ≠ .no; have h2 : lam k = .bu nm := h2; rw [h2]; exact nofun) with h3 | h3
            · exact .inl (.inl h3)
            · exact .inr h3
  · have e1 : (er != 0) = true := by simpa using he
    have HE : Hd (writeW c.q ctr cs cn k ops s = (⟨k, er, 0, 0, [], idx, false⟩, [], ctr, cs)) := hd (by rw [HW.o, if_pos he])
    have hf1 := HA2.o.frozen 1
    have a1 : w2.cell? ⟨ab, 1, none⟩ = some (.int .i64 0) := HA2.o.at_ 1 rfl
    have al2 := HA2.o.lt
    have hf5 := HA2.o.frozen 5
    have a5 : w2.cell? ⟨ab, 5, none⟩ = some (.int .i64 0) := HA2.o.at_ 5 rfl
    clear he
    go_wp2_with fail
    refine bodyPost_ret (results_none rfl _ _ _) rfl ?_
    refine ⟨⟨_, rfl⟩, ?_⟩
    rw [HE.o]
    have hc : Chg (One ab) w2 ((w2.setCell ⟨ab, 1, none⟩ (.int .i64 er)).setCell ⟨ab, 5, none⟩ (.int .i64 idx)) := ((Chg.refl (One ab) w2).setCell (p := ⟨ab, 1, none⟩) (.inl rfl) _).setCell (p := ⟨ab, 5, none⟩) (.inl rfl) _
    exact HFIN.o _ y _ rfl ((HV2.o.chg hc (fun k hk => by cases hk; exact hab)).shut rfl rfl) (Lay.Sub.refl _ _) hab ((HA2.o.set_ 1 _).set_ 5 _) ((Chg.of_below _ HB.o).trans hc (fun k hk => .inl (.inr hk)))

end Go.Proofs.YtfacfdjapjhpeaaGreatDoor
namespace Go.Proofs.YtfacfdjapjhpeaaGreatDoor
open Go.RowKit

def smallC (c : Nat) : Prop := lowC c ∨ (48 ≤ c ∧ c ≤ 57)
instance (c : Nat) : Decidable (smallC c) := by unfold smallC; infer_instance
theorem small_calls (c : Nat) (w : World) : Calls Tryz.prog 71 #[.int .u8 c] w fun e w' => e = .returned (.bool (decide (smallC c))) ∧ w = w' := by
  obtain ⟨v, hv⟩ : ∃ v, decide (smallC c) = v := ⟨_, rfl⟩
  rw [hv]
  have HV := hd hv
  clear hv
  by_cases h1 : (97 ≤ c ∧ c ≤ 122)
  · have HT := hd (show v = true by rw [← HV.o]; exact decide_eq_true (.inl h1))
    have a1 : decide ((97 : Int) ≤ (c : Int)) = true := by simp; omega
    have a2 : decide ((c : Int) ≤ 122) = true := by simp; omega
    clear h1
    go_enter Tryz.func71, Tryz.ntmps71
    go_wp2
    go_ret
    exact ⟨retB HT.o.symm, rfl⟩
  · by_cases h2 : (48 ≤ c ∧ c ≤ 57)
    · have HT := hd (show v = true by rw [← HV.o]; exact decide_eq_true (.inr h2))
      have a1 : decide ((97 : Int) ≤ (c : Int)) = false := by simp; omega
      have a3 : decide ((48 : Int) ≤ (c : Int)) = true := by simp; omega
      have a4 : decide ((c : Int) ≤ 57) = true := by simp; omega
      clear h1 h2
      go_enter Tryz.func71, Tryz.ntmps71
      go_wp2
      go_ret
      exact ⟨retB HT.o.symm, rfl⟩
    · have HT := hd (show v = false by rw [← HV.o]; exact decide_eq_false (fun h => h.elim h1 h2))
      by_cases b1 : 97 ≤ c
      · have a1 : decide ((97 : Int) ≤ (c : Int)) = true := by simp; omega
        have a2 : decide ((c : Int) ≤ 122) = false := by simp; omega
        have a3 : decide ((48 : Int) ≤ (c : Int)) = true := by simp; omega
        have a4 : decide ((c : Int) ≤ 57) = false := by simp; omega
        clear h1 h2 b1
        go_enter Tryz.func71, Tryz.ntmps71
        go_wp2
        go_ret
        exact ⟨retB HT.o.symm, rfl⟩
      · have a1 : decide ((97 : Int) ≤ (c : Int)) = false := by simp; omega
        by_cases b2 : 48 ≤ c
        · have a3 : decide ((48 : Int) ≤ (c : Int)) = true := by simp; omega
          have a4 : decide ((c : Int) ≤ 57) = false := by simp; omega
          clear h1 h2 b1 b2
          go_enter Tryz.func71, Tryz.ntmps71
          go_wp2
          go_ret
          exact ⟨retB HT.o.symm, rfl⟩
        · have a3 : decide ((48 : Int) ≤ (c : Int)) = false := by simp; omega
          clear h1 h2 b1 b2
          go_enter Tryz.func71, Tryz.ntmps71
          go_wp2
          go_ret
          exact ⟨retB HT.o.symm, rfl⟩

theorem head_at (s : ByteArray) (h : 0 < s.size) : (s.data.toList.headD 0).toNat = s[0].toNat := by
  have := bt_self s 0 h
  have hl : s.data.toList.length = s.size := by simp
  unfold bt at this
  cases hL : s.data.toList with
  | nil => rw [hL] at hl; simp at hl; omega
  | cons c t => rw [hL] at this; simpa using this
theorem last_at (s : ByteArray) (h : s.size - 1 < s.size) : (s.data.toList.getLastD 0).toNat = s[s.size - 1].toNat := by
  have := bt_self s (s.size - 1) h
  have hl : s.data.toList.length = s.size := by simp
  unfold bt at this
  rw [← this, List.getLastD_eq_getLast?, List.getLast?_eq_getElem?, hl, List.getD_eq_getElem?_getD]
theorem all_at (s : ByteArray) (P : Nat → Prop) : (∀ c ∈ s.data.toList, P c.toNat) ↔ ∀ k, k < s.size → P (bt s.data.toList k) := by
  have hl : s.data.toList.length = s.size := by simp
  constructor
  · intro h k hk
    have hk' : k < s.data.toList.length := by rw [hl]; exact hk
    unfold bt
    rw [List.getD_eq_getElem?_getD, List.getElem?_eq_getElem hk']
    exact h _ (List.getElem_mem hk')
  · intro h c hc
    obtain ⟨k, hk, rfl⟩ := List.getElem_of_mem hc
    have := h k (by rw [← hl]; exact hk)
    unfold bt at this
    rw [List.getD_eq_getElem?_getD, List.getElem?_eq_getElem hk] at this
    exact this

theorem nameP_iff (s : ByteArray) (h : 0 < s.size) (h' : s.size - 1 < s.size) : NameP s.data.toList ↔ s.size ≤ 16 ∧ lowC s[0].toNat ∧ s[s.size - 1].toNat ≠ 45 ∧ ∀ k, k < s.size → nameC (bt s.data.toList k) := by
  have hl : s.data.toList.length = s.size := by simp
  unfold NameP
  rw [hl, head_at s h, last_at s h', all_at s nameC]
  constructor
  · rintro ⟨_, h2, h3, h4, h5⟩; exact ⟨h2, h3, h4, h5⟩
  · rintro ⟨h2, h3, h4, h5⟩; exact ⟨h, h2, h3, h4, h5⟩
theorem nameP_short (s : ByteArray) (h : s.size < 1 ∨ 16 < s.size) : ¬ NameP s.data.toList := by
  have hl : s.data.toList.length = s.size := by simp
  unfold NameP
  rw [hl]
  rintro ⟨h1, h2, _⟩
  omega

set_option maxHeartbeats 2000000 in
theorem name_calls (s : ByteArray) (hs : s.size ≤ 1000000000) (w : World) : Calls Tryz.prog 42 #[.string s] w fun e w' => e = .returned (.bool (nameB s.data.toList)) ∧ w = w' := by
  obtain ⟨v, hv⟩ : ∃ v, nameB s.data.toList = v := ⟨_, rfl⟩
  rw [hv]
  have HF := hd (fun h => hv.symm.trans (decide_eq_false h) : ¬ NameP s.data.toList → v = false)
  have HT := hd (fun h => hv.symm.trans (decide_eq_true h) : NameP s.data.toList → v = true)
  have HSH := hd (nameP_short s)
  clear hv
  by_cases c1 : s.size < 1
  · have HV := hd (HF.o (HSH.o (.inl c1)))
    go_enter Tryz.func42, Tryz.ntmps42
    go_wp2
    go_ret
    exact ⟨retB HV.o.symm, rfl⟩
  by_cases c2 : 16 < s.size
  · have HV := hd (HF.o (HSH.o (.inr c2)))
    go_enter Tryz.func42, Tryz.ntmps42
    go_wp2
    go_ret
    exact ⟨retB HV.o.symm, rfl⟩
  have c3 : 0 < s.size := by omega
  have c4 : s.size - 1 < s.size := by omega
  have HI := hd (nameP_iff s c3 c4)
  clear HSH
  by_cases c5 : s[0].toNat < 97
  · have HV := hd (HF.o (fun h => by have := (HI.o.1 h).2.1.1; omega))
    go_enter Tryz.func42, Tryz.ntmps42
    go_wp2
    go_ret
    exact ⟨retB HV.o.symm, rfl⟩
  by_cases c6 : 122 < s[0].toNat
  · have HV := hd (HF.o (fun h => by have := (HI.o.1 h).2.1.2; omega))
    go_enter Tryz.func42, Tryz.ntmps42
    go_wp2
    go_ret
    exact ⟨retB HV.o.symm, rfl⟩
  by_cases c7 : s[s.size - 1].toNat = 45
  · have HV := hd (HF.o (fun h => (HI.o.1 h).2.2.1 c7))
    have n7 : ((s[s.size - 1].toNat : Int) == 45) = true := by simp; omega
    clear c7
    go_enter Tryz.func42, Tryz.ntmps42
    go_wp2
    go_ret
    exact ⟨retB HV.o.symm, rfl⟩
  have n7 : ((s[s.size - 1].toNat : Int) == 45) = false := by simp; omega
  have HLW := hd (show lowC s[0].toNat from ⟨by omega, by omega⟩)
  have H7 := hd c7
  clear c7
  go_enter Tryz.func42, Tryz.ntmps42
  go_wp2_with fail
  go_loop [32, 3] (fun i _ => ∃ k : Nat, i = .int .i64 k ∧ k ≤ s.size ∧ Hd (∀ j, j < k → nameC (bt s.data.toList j))) (fun i _ => s.size - (RowKit.intOf i).toNat)
  case atStart => exact ⟨0, rfl, Nat.zero_le _, fun j hj => absurd hj (Nat.not_lt_zero _)⟩
  case round =>
    obtain ⟨k, rfl, hk, hh⟩ := hrel
    by_cases hlt : k < s.size
    · have BK := hd (bt_self s k hlt)
      have hki : (k : Int) < (s.size : Int) := by omega
      have hk0 : (0 : Int) ≤ (k : Int) := by omega
      have C1 := fun W => small_calls s[k].toNat W
      by_cases hc : smallC s[k].toNat
      · have HN : Hd (∀ j, j < k + 1 → nameC (bt s.data.toList j)) := fun j hj => by
          by_cases e : j = k
          · subst e; rw [BK.o]; exact hc.elim .inl (fun h => .inr (.inl h))
          · exact hh.o j (by omega)
        rw [decide_eq_true hc] at C1
        have K1 := hd C1
        clear C1 hc
        go_wp2_with (go_at_call 71; refine (K1.o _).mono ?_; rintro e w' ⟨rfl, rfl⟩)
        go_round
        case rel => exact ⟨k + 1, by go_num, by omega, HN⟩
        case measure => simp [RowKit.intOf]; omega
      · rw [decide_eq_false hc] at C1
        have K1 := hd C1
        clear C1
        by_cases hm : s[k].toNat = 45
        · have HN : Hd (∀ j, j < k + 1 → nameC (bt s.data.toList j)) := fun j hj => by
            by_cases e : j = k
            · subst e; rw [BK.o]; exact .inr (.inr hm)
            · exact hh.o j (by omega)
          have nm : ((s[k].toNat : Int) != 45) = false := by simp; omega
          clear hc hm
          go_wp2_with (go_at_call 71; refine (K1.o _).mono ?_; rintro e w' ⟨rfl, rfl⟩)
          go_round
          case rel => exact ⟨k + 1, by go_num, by omega, HN⟩
          case measure => simp [RowKit.intOf]; omega
        · have HV := hd (HF.o (fun h => by
            have := (HI.o.1 h).2.2.2 k hlt
            rw [BK.o] at this
            rcases this with h | h | h
            · exact hc (.inl h)
            · exact hc (.inr h)
            · exact hm h))
          have nm : ((s[k].toNat : Int) != 45) = true := by simp; omega
          clear hc hm
          go_wp2_with (go_at_call 71; refine (K1.o _).mono ?_; rintro e w' ⟨rfl, rfl⟩)
          go_ret
          exact ⟨retB HV.o.symm, rfl⟩
    · obtain rfl : k = s.size := by omega
      have HV := hd (HT.o (HI.o.2 ⟨by omega, HLW.o, H7.o, hh.o⟩))
      go_wp2
      go_ret
      exact ⟨retB HV.o.symm, rfl⟩

theorem uidP_iff (s : ByteArray) : UidP s.data.toList ↔ 1 ≤ s.size ∧ s.size ≤ 24 ∧ ∀ k, k < s.size → uidC (bt s.data.toList k) := by
  have hl : s.data.toList.length = s.size := by simp
  unfold UidP
  rw [hl, all_at s uidC]
def ubC (c : Nat) : Bool := decide (c = 45 ∨ c = 46 ∨ c = 95 ∨ c = 64)

set_option maxHeartbeats 4000000 in
theorem uid_calls (s : ByteArray) (hs : s.size ≤ 1000000000) (w : World) : Calls Tryz.prog 104 #[.string s] w fun e w' => e = .returned (.bool (uidB s.data.toList)) ∧ w = w' := by
  obtain ⟨v, hv⟩ : ∃ v, uidB s.data.toList = v := ⟨_, rfl⟩
  rw [hv]
  have HF := hd (fun h => hv.symm.trans (decide_eq_false h) : ¬ UidP s.data.toList → v = false)
  have HT := hd (fun h => hv.symm.trans (decide_eq_true h) : UidP s.data.toList → v = true)
  have HI := hd (uidP_iff s)
  clear hv
  by_cases c1 : s.size < 1
  · have HV := hd (HF.o (fun h => by have := (HI.o.1 h).1; omega))
    go_enter Tryz.func104, Tryz.ntmps104
    go_wp2
    go_ret
    exact ⟨retB HV.o.symm, rfl⟩
  by_cases c2 : 24 < s.size
  · have HV := hd (HF.o (fun h => by have := (HI.o.1 h).2.1; omega))
    go_enter Tryz.func104, Tryz.ntmps104
    go_wp2
    go_ret
    exact ⟨retB HV.o.symm, rfl⟩
  go_enter Tryz.func104, Tryz.ntmps104
  go_wp2_with fail
  go_loop [15, 3, 4] (fun i _ _ => ∃ k : Nat, i = .int .i64 k ∧ k ≤ s.size ∧ Hd (∀ j, j < k → uidC (bt s.data.toList j))) (fun i _ _ => s.size - (RowKit.intOf i).toNat)
  case atStart => exact ⟨0, rfl, Nat.zero_le _, fun j hj => absurd hj (Nat.not_lt_zero _)⟩
  case round =>
    obtain ⟨k, rfl, hk, hh⟩ := hrel
    by_cases hlt : k < s.size
    · have BK := hd (bt_self s k hlt)
      have hki : (k : Int) < (s.size : Int) := by omega
      have hk0 : (0 : Int) ≤ (k : Int) := by omega
      have C1 := fun W => small_calls s[k].toNat W
      have HNX := hd (fun (hu : uidC s[k].toNat) => show ∀ j, j < k + 1 → uidC (bt s.data.toList j) from fun j hj => by
        by_cases e : j = k
        · subst e; rw [BK.o]; exact hu
        · exact hh.o j (by omega))
      have HBD := hd (fun (hu : ¬ uidC s[k].toNat) => HF.o (fun h => hu (by rw [← BK.o]; exact (HI.o.1 h).2.2 k hlt)))
      obtain ⟨c, hc⟩ : ∃ c, s[k].toNat = c := ⟨_, rfl⟩
      rw [hc] at C1 HNX HBD
      have hcv : (s[k].toNat : Int) = (c : Int) := by rw [hc]
      by_cases h1 : smallC c
      · have HN := hd (HNX.o (h1.elim .inl (fun h => .inr (.inr (.inl h)))))
        rw [decide_eq_true h1] at C1
        have K1 := hd C1
        clear C1 h1 hc
        go_wp2_with (go_at_call 71; refine (K1.o _).mono ?_; rintro e w' ⟨rfl, rfl⟩)
        go_round
        case rel => exact ⟨k + 1, by go_num, by omega, HN⟩
        case measure => simp [RowKit.intOf]; omega
      · rw [decide_eq_false h1] at C1
        have K1 := hd C1
        clear C1
        by_cases h2 : 65 ≤ c ∧ c ≤ 90
        · have HN := hd (HNX.o (.inr (.inl h2)))
          have a1 : decide ((c : Int) < 65) = false := by simp; omega
          have a2 : decide ((90 : Int) < (c : Int)) = false := by simp; omega
          clear h1 h2 hc
          go_wp2_with (go_at_call 71; refine (K1.o _).mono ?_; rintro e w' ⟨rfl, rfl⟩)
          go_round
          case rel => exact ⟨k + 1, by go_num, by omega, HN⟩
          case measure => simp [RowKit.intOf]; omega
        · have HXX : Hd (ubC c = true ↔ uidC c) := hd (by
            unfold ubC uidC
            rw [decide_eq_true_iff]
            constructor
            · rintro (h | h | h | h)
              · exact .inr (.inr (.inr (.inl h)))
              · exact .inr (.inr (.inr (.inr (.inl h))))
              · exact .inr (.inr (.inr (.inr (.inr (.inl h)))))
              · exact .inr (.inr (.inr (.inr (.inr (.inr h)))))
            · rintro (h | h | h | h | h | h | h)
              · exact absurd (.inl h) h1
              · exact absurd h h2
              · exact absurd (.inr h) h1
              · exact .inl h
              · exact .inr (.inl h)
              · exact .inr (.inr (.inl h))
              · exact .inr (.inr (.inr h)))
          have a12 : (decide ((c : Int) < 65) = true) ∨ (decide ((c : Int) < 65) = false ∧ decide ((90 : Int) < (c : Int)) = true) := by
            by_cases h : c < 65
            · exact .inl (by simp; omega)
            · exact .inr ⟨by simp; omega, by simp; omega⟩
          by_cases h3 : ubC c = true
          · have HN := hd (HNX.o (HXX.o.1 h3))
            unfold ubC at h3
            rw [decide_eq_true_iff] at h3
            clear h1 h2
            rcases a12 with a1 | ⟨a1, a2⟩ <;> rcases h3 with rfl | rfl | rfl | rfl
            all_goals
              clear hc
              go_wp2_with (go_at_call 71; refine (K1.o _).mono ?_; rintro e w' ⟨rfl, rfl⟩)
              go_round
              case rel => exact ⟨k + 1, by go_num, by omega, HN⟩
              case measure => simp [RowKit.intOf]; omega
          · have HV := hd (HBD.o (fun h => h3 (HXX.o.2 h)))
            have m45 : ((c : Int) != 45) = true := by simp; intro h; apply h3; unfold ubC; simp; omega
            have m46 : ((c : Int) != 46) = true := by simp; intro h; apply h3; unfold ubC; simp; omega
            have m95 : ((c : Int) != 95) = true := by simp; intro h; apply h3; unfold ubC; simp; omega
            have m64 : ((c : Int) != 64) = true := by simp; intro h; apply h3; unfold ubC; simp; omega
            clear h1 h2 h3 hc
            rcases a12 with a1 | ⟨a1, a2⟩
            all_goals
              go_wp2_with (go_at_call 71; refine (K1.o _).mono ?_; rintro e w' ⟨rfl, rfl⟩)
              go_ret
              exact ⟨retB HV.o.symm, rfl⟩
    · obtain rfl : k = s.size := by omega
      have HV := hd (HT.o (HI.o.2 ⟨by omega, by omega, hh.o⟩))
      go_wp2
      go_ret
      exact ⟨retB HV.o.symm, rfl⟩

end Go.Proofs.YtfacfdjapjhpeaaGreatDoor
namespace Go.Proofs.YtfacfdjapjhpeaaGreatDoor
open Go.RowKit

end Go.Proofs.YtfacfdjapjhpeaaGreatDoor
namespace Go.Proofs.YtfacfdjapjhpeaaGreatDoor
open Go.RowKit

/-- A request as a value: its ops lie at A. -/
def reqE (q : Rq) (A : Option Addr) (c : Nat) : List Value := [.int .i64 q.k, .string (bs q.tn), .string (bs q.col), .string (bs q.uid), .string (bs q.card), .int .i64 q.ck, .int .i64 q.cv, .slice A q.ops.length c, .int .i64 q.tok, .int .i64 q.most, .int .i64 q.ticks]
def reqV (q : Rq) (A : Option Addr) (c : Nat) : Value := .agg (reqE q A c).toArray
def hasE (k : Int) : List Value := [.bool (hT k), .bool (hC k), .bool (hU k), .bool (hCd k), .bool (hCn k), .bool (hO k), .bool (hTk k), .bool (hM k), .bool (hTi k)]
theorem kind_or {k : Int} (h : isK k = true) : k = 1 ∨ k = 2 ∨ k = 3 ∨ k = 4 ∨ k = 5 ∨ k = 6 ∨ k = 7 ∨ k = 8 ∨ k = 9 ∨ k = 10 ∨ k = 11 := by
  unfold isK at h
  have : 1 ≤ k ∧ k ≤ 11 := by simpa using h
  omega

set_option maxRecDepth 100000 in
set_option maxHeartbeats 4000000 in
theorem fields_calls (k : Int) (h : isK k = true) (w : World) : Calls Tryz.prog 67 #[.int .i64 k] w fun e w' => e = .returned (.agg (hasE k).toArray) ∧ Below w.heap.size w w' := by
  have HB := hd ((Below.refl w.heap.size w).alloc (Nat.le_refl _) (.cells #[.bool false, .bool false, .bool false, .bool false, .bool false, .bool false, .bool false, .bool false, .bool false] 138))
  rcases kind_or h with rfl | rfl | rfl | rfl | rfl | rfl | rfl | rfl | rfl | rfl | rfl
  all_goals
    clear h
    go_enter Tryz.func67, Tryz.ntmps67
    go_wp2
    (try simp only [Exit.inBlock, Exit.then])
    refine bodyPost_ret (results_cell_row rfl _ _ w.heap.size 138 _ _ _ rfl (Blk.new w 138 _) rfl rfl rfl) rfl ⟨rfl, ?_⟩
    exact (Below.refl _ w).alloc (Nat.le_refl _) _

theorem isk_calls (k : Int) (w : World) : Calls Tryz.prog 66 #[.int .i64 k] w fun e w' => e = .returned (.bool (isK k)) ∧ w = w' := by
  obtain ⟨v, hv⟩ : ∃ v, isK k = v := ⟨_, rfl⟩
  rw [hv]
  have HV := hd hv
  clear hv
  by_cases h1 : 1 ≤ k
  · by_cases h2 : k ≤ 11
    · have HT := hd (show v = true by rw [← HV.o]; unfold isK; simp; omega)
      have a1 : decide ((1 : Int) ≤ k) = true := by simpa using h1
      have a2 : decide (k ≤ 11) = true := by simpa using h2
      go_enter Tryz.func66, Tryz.ntmps66
      go_wp2
      go_ret
      exact ⟨ret_bool HT.o.symm, rfl⟩
    · have HT := hd (show v = false by rw [← HV.o]; unfold isK; simp; omega)
      have a1 : decide ((1 : Int) ≤ k) = true := by simpa using h1
      have a2 : decide (k ≤ 11) = false := by simpa using h2
      go_enter Tryz.func66, Tryz.ntmps66
      go_wp2
      go_ret
      exact ⟨ret_bool HT.o.symm, rfl⟩
  · have HT := hd (show v = false by rw [← HV.o]; unfold isK; simp; omega)
    have a1 : decide ((1 : Int) ≤ k) = false := by simpa using h1
    go_enter Tryz.func66, Tryz.ntmps66
    go_wp2
    go_ret
    exact ⟨ret_bool HT.o.symm, rfl⟩

theorem writes_or (k : Int) : (k = 2 ∧ writesK k = true) ∨ (k = 3 ∧ writesK k = true) ∨ (k = 4 ∧ writesK k = true) ∨ (k = 5 ∧ writesK k = true) ∨ (k = 7 ∧ writesK k = true) ∨ (((k == 2) = false ∧ (k == 3) = false ∧ (k == 4) = false ∧ (k == 5) = false ∧ (k == 7) = false) ∧ writesK k = false) := by
  by_cases h2 : k = 2
  · subst h2; exact .inl ⟨rfl, rfl⟩
  · by_cases h3 : k = 3
    · subst h3; exact .inr (.inl ⟨rfl, rfl⟩)
    · by_cases h4 : k = 4
      · subst h4; exact .inr (.inr (.inl ⟨rfl, rfl⟩))
      · by_cases h5 : k = 5
        · subst h5; exact .inr (.inr (.inr (.inl ⟨rfl, rfl⟩)))
        · by_cases h7 : k = 7
          · subst h7; exact .inr (.inr (.inr (.inr (.inl ⟨rfl, rfl⟩))))
          · refine .inr (.inr (.inr (.inr (.inr ⟨⟨by simpa using h2, by simpa using h3, by simpa using h4, by simpa using h5, by simpa using h7⟩, ?_⟩))))
            unfold writesK
            simp
            omega
theorem rwrites_calls (k : Int) (w : World) : Calls Tryz.prog 19 #[.int .i64 k] w fun e w' => e = .returned (.bool (writesK k)) ∧ w = w' := by
  obtain ⟨v, hv⟩ : ∃ v, writesK k = v := ⟨_, rfl⟩
  have h := writes_or k
  rw [hv] at h ⊢
  clear hv
  rcases h with ⟨rfl, rfl⟩ | ⟨rfl, rfl⟩ | ⟨rfl, rfl⟩ | ⟨rfl, rfl⟩ | ⟨rfl, rfl⟩ | ⟨⟨a2, a3, a4, a5, a7⟩, rfl⟩
  all_goals
    go_enter Tryz.func19, Tryz.ntmps19
    go_wp2
    go_ret
    exact ⟨rfl, rfl⟩

end Go.Proofs.YtfacfdjapjhpeaaGreatDoor
namespace Go.Proofs.YtfacfdjapjhpeaaGreatDoor
open Go.RowKit Go.Lib

theorem putM_lenN {V : Type} {l : ML V} {k : List UInt8} {v : V} (h : hasM l k = false) : (putM l k v).length = l.length + 1 := by
  have hp := place_le l k
  unfold putM
  rw [if_neg (by rw [h]; decide), List.length_append, List.length_take, List.length_cons, List.length_drop]
  omega
theorem ans_mk {w : World} {y : Lay} {b ab : Nat} {c : Cf} {ts : ML (ML Cs)} {nm : List UInt8} {W : World} {y' : Lay} {r : Co} (hr : r.2.1 = []) (hB : BookR W y' b c ⟨r.2.2.1, putM ts nm r.2.2.2⟩) (hS : y.Sub y' w.heap.size) (hn : y'.lam ab = .no) (hA : Blk W ab 39 (rsEnc r.1 none 0 0).toArray) (hC : Chg (fun k => y.lam k ≠ .no ∨ k = ab) w W) : AnsR w W y b ab c ts nm r none 0 :=
  ⟨⟨y', hB, hS, hn, fun _ h => (Of.none h).elim⟩, by rw [hr]; exact hA, by rw [hr]; exact (Row.nil W (fun _ => True) 39 4).rds, hC⟩
theorem chg_ab {w w1 : World} {y : Lay} {ab : Nat} (h : Chg (fun k => y.lam k ≠ .no) w w1) (i : Nat) (v : Value) : Chg (fun k => y.lam k ≠ .no ∨ k = ab) w (w1.setCell ⟨ab, i, none⟩ v) :=
  (h.mono (fun _ hk => .inl hk)).setCell (.inl (.inr rfl)) _
theorem one_ab (w1 : World) (ab i : Nat) (v : Value) : Chg (One ab) w1 (w1.setCell ⟨ab, i, none⟩ v) := (Chg.refl (One ab) w1).setCell (p := ⟨ab, i, none⟩) (.inl rfl) _

set_option maxRecDepth 100000 in
set_option maxHeartbeats 8000000 in
theorem bcreate_calls (w : World) (y : Lay) (b ab : Nat) (c : Cf) (ctr : Int) (ts : ML (ML Cs)) (nm : List UInt8) (cs : ML Cs) (q : Rq) (A : Option Addr) (cp : Nat)
    (h : BkV w y b c ctr ts nm (cs.length : Nat) (bytesT cs) cs) (hQ : QtOk c.q) (h0 : 0 ≤ ctr) (hm : ctr ≤ maxTok) (ht : TnOk c.q ctr cs) (ha : Blk w ab 39 (rsEnc (rsE q.k 0) none 0 0).toArray) (hab : y.lam ab = .no) :
    Calls Tryz.prog 47 #[.pointer (some ⟨b, 0, none⟩), .pointer (some ⟨y.tb nm, 0, none⟩), reqV q A cp, .pointer (some ⟨ab, 0, none⟩)] w fun e w' => (∃ v, e = .returned v) ∧ AnsR w w' y b ab c ts nm (createB c.q ctr cs q) none 0 := by
  obtain ⟨w0, hw0⟩ : ∃ w0, w0 = w.alloc (.cells (reqE q A cp).toArray 45) := ⟨_, rfl⟩
  have hB0 : Below w.heap.size w w0 := by rw [hw0]; exact (Below.refl _ w).alloc (Nat.le_refl _) _
  have hk0 : Blk w0 w.heap.size 45 (reqE q A cp).toArray := by rw [hw0]; exact Blk.new _ _ _
  have HW0 := hd hw0
  have hlen : cs.length ≤ 8 := by have := ht.len; have := hQ.c2; omega
  have H := hd (h.below hB0)
  have HA := hd (ha.below hB0 ha.lt)
  have HB0 := hd hB0
  have HK0 := hd hk0
  have HT := hd ht
  have HHQ := hd hQ
  have hal := ha.lt
  have hbl : Hd (b < w.heap.size) := hd h.blk.lt
  have HLT := hd h.lt
  have hbb : Hd (y.bb nm < w.heap.size) := hd h.bud.lt
  have ho : OmEntCp w0.drew (fun k => y.lam k = .tm nm) (y.ob nm) (ptrs (y.cb nm) cs) := H.o.tom.drew
  have GT := hd (fun (hh : hasM cs q.col = true) => (by
    cases hg : getM cs q.col with
    | none => unfold hasM at hh; rw [hg] at hh; cases hh
    | some s => exact cpget_some ho (by omega) q.col s hg : Calls Tryz.prog 50 #[.pointer (some ⟨y.ob nm, 0, none⟩), .string (bs q.col)] w0.drew fun e w' => e = .returned (.tuple #[.pointer (some ⟨y.cb nm q.col, 0, none⟩), .bool true]) ∧ Below w0.drew.heap.size w0.drew w'))
  have GF := hd (fun (hh : hasM cs q.col = false) => (cpget_none ho (by omega) q.col (get_of_no (by rw [hh]; decide)) : Calls Tryz.prog 50 #[.pointer (some ⟨y.ob nm, 0, none⟩), .string (bs q.col)] w0.drew fun e w' => e = .returned (.tuple #[.pointer none, .bool false]) ∧ Below w0.drew.heap.size w0.drew w'))
  clear ho
  have HE1 : Hd (hasM cs q.col = true → createB c.q ctr cs q = (rsE q.k 5, [], ctr, cs)) := hd (fun h => by unfold createB; rw [if_pos h])
  have HE2 : Hd (hasM cs q.col = false → c.q.cols ≤ (cs.length : Int) → createB c.q ctr cs q = (rsE q.k 7, [], ctr, cs)) := hd (fun h h2 => by unfold createB; rw [if_neg (by rw [h]; decide), if_pos h2])
  have HE3 : Hd (hasM cs q.col = false → ¬ c.q.cols ≤ (cs.length : Int) → ctr = maxTok → createB c.q ctr cs q = (rsE q.k 9, [], ctr, cs)) := hd (fun h h2 h3 => by unfold createB; rw [if_neg (by rw [h]; decide), if_neg h2, if_pos h3])
  have HE4 : Hd (hasM cs q.col = false → ¬ c.q.cols ≤ (cs.length : Int) → ctr ≠ maxTok → createB c.q ctr cs q = (rsT q.k (ctr + 1), [], ctr + 1, putM cs q.col (Cs.new (ctr + 1) c.q.cards c.q.log))) := hd (fun h h2 h3 => by unfold createB; rw [if_neg (by rw [h]; decide), if_neg h2, if_neg h3])
  have HHAS : Hd (hasM cs q.col = false → getM cs q.col = none) := hd (fun h => get_of_no (by rw [h]; decide))
  have HRES : Hd (∀ x, createB c.q ctr cs q = x → createB c.q ctr cs q = x) := hd (fun _ h => h)
  obtain ⟨R, hR⟩ : ∃ R, createB c.q ctr cs q = R := ⟨_, rfl⟩
  rw [hR] at HE1 HE2 HE3 HE4 ⊢
  obtain ⟨k, tn, col, uid, card, ck, cv, ops, tok, most, ticks⟩ := q
  simp only at HE1 HE2 HE3 HE4 HHAS GT GF
  unfold reqV
  have x2 : w0.cell? ⟨w.heap.size, 2, none⟩ = some (.string (bs col)) := hk0.at_ 2 rfl
  have t0 : w0.cell? ⟨y.tb nm, 0, none⟩ = some (.pointer (some ⟨y.ob nm, 0, none⟩)) := H.o.tblk.at_ 0 rfl
  simp only [reqE] at HW0 HK0 HA ⊢
  generalize ops.length = nops at *
  clear h hQ ht ha hw0 hB0 hk0 hR HRES
  have HJ := hd (fun (W : World) (hb : Below w0.drew.heap.size w0.drew W) => ((⟨((H.o.tblk.drew).below hb H.o.tblk.lt).at_ 0 rfl, ((HK0.o.drew).below hb HK0.o.lt).at_ 2 rfl⟩) : W.cell? ⟨y.tb nm, 0, none⟩ = some (.pointer (some ⟨y.ob nm, 0, none⟩)) ∧ W.cell? ⟨w.heap.size, 2, none⟩ = some (.string (bs col))))
  go_enter Tryz.func47, Tryz.ntmps47
  go_upto_region 1 with (fail)
  rw [← HW0.o]
  clear HW0
  have HB01 : Hd (∀ w1, Below w0.drew.heap.size w0.drew w1 → Below w.heap.size w w1) := hd (fun w1 hb => HB0.o.trans (show Below w.heap.size w0 w1 from ⟨hb.os, hb.tape, hb.output, hb.size, fun k hk => hb.block k (Nat.lt_of_lt_of_le hk HB0.o.size)⟩))
  have HV : Hd (∀ w1, Below w0.drew.heap.size w0.drew w1 → BkV w1 y b c ctr ts nm (cs.length : Nat) (bytesT cs) cs ∧ Blk w1 ab 39 (rsEnc (rsE k 0) none 0 0).toArray ∧ Blk w1 w.heap.size 45 _) := hd (fun w1 hb => ⟨(H.o.chg ((Chg.refl Non w0).drew) (fun _ h => h.elim)).below hb, (HA.o.drew).below hb HA.o.lt, (HK0.o.drew).below hb HK0.o.lt⟩)
  cases hh : hasM cs col with
  | true =>
    have G := hd (GT.o hh)
    have HE := hd (HE1.o hh)
    clear hh GT GF HE1 HE2 HE3 HE4
    go_region_held3 (fun w' => w'.cell? ⟨y.tb nm, 0, none⟩ = some (.pointer (some ⟨y.ob nm, 0, none⟩)) ∧ w'.cell? ⟨w.heap.size, 2, none⟩ = some (.string (bs col))) (first | go_keep | (with_reducible exact ⟨t0, x2⟩) | (with_reducible exact ⟨j0, j2⟩)) (first
      | (go_at_call 50; with_reducible refine G.o.mono ?_; rintro e w1 ⟨rfl, hb1⟩; have HB1 := hd hb1; have j0 := (HJ.o _ hb1).1; have j2 := (HJ.o _ hb1).2; clear hb1))
    have a1 : w1.cell? ⟨ab, 1, none⟩ = some (.int .i64 0) := (HV.o _ HB1.o).2.1.at_ 1 rfl
    have f1 := (HV.o _ HB1.o).2.1.frozen 1
    have al1 := (HV.o _ HB1.o).2.1.lt
    go_wp2_with fail
    refine bodyPost_ret (results_none rfl _ _ _) rfl ?_
    refine ⟨⟨_, rfl⟩, ?_⟩
    rw [HE.o]
    have hv := (HV.o _ HB1.o).1.chg (one_ab w1 ab 1 (.int .i64 5)) (fun k hk => by cases hk; exact hab)
    exact ans_mk rfl (hv.shut rfl rfl) (Lay.Sub.refl _ _) hab ((HV.o _ HB1.o).2.1.set_ 1 _) (chg_ab (Chg.of_below _ (HB01.o _ HB1.o)) 1 _)
  | false =>
    have G := hd (GF.o hh)
    have HE2 := hd (HE2.o hh)
    have HE3 := hd (HE3.o hh)
    have HE4 := hd (HE4.o hh)
    have HHH := hd hh
    clear hh GT GF HE1
    go_region_held3 (fun w' => w'.cell? ⟨y.tb nm, 0, none⟩ = some (.pointer (some ⟨y.ob nm, 0, none⟩)) ∧ w'.cell? ⟨w.heap.size, 2, none⟩ = some (.string (bs col))) (first | go_keep | (with_reducible exact ⟨t0, x2⟩) | (with_reducible exact ⟨j0, j2⟩)) (first
      | (go_at_call 50; with_reducible refine G.o.mono ?_; rintro e w1 ⟨rfl, hb1⟩; have HB1 := hd hb1; have j0 := (HJ.o _ hb1).1; have j2 := (HJ.o _ hb1).2; clear hb1))
    have HV1 := hd (HV.o _ HB1.o)
    have HB1w := hd (HB01.o _ HB1.o)
    have QC := hd (fun m => qcols_calls c.q (cs.length : Nat) (bytesT cs) (y.bb nm) (w1.drewN m) (HV1.o.1.bud.drewN m))
    have t1 : w1.cell? ⟨y.tb nm, 1, none⟩ = some (.pointer (some ⟨y.bb nm, 0, none⟩)) := HV1.o.1.tblk.at_ 1 rfl
    have b4 : w1.cell? ⟨b, 4, none⟩ = some (.int .i64 c.q.cols) := HV1.o.1.blk.at_ 4 rfl
    clear G HV HB01 HB1 HJ t0 x2 j0 j2
    go_wp2_with fail
    go_quiet (first | (go_at_call 74; exact q1 (QC.o _)) | (go_at_call 74; exact q2 (QC.o _)))
    obtain ⟨wn, hwn⟩ : ∃ wn, wn = w1.drewN nq := ⟨_, rfl⟩
    rw [← hwn]
    have HVn : Hd (BkV wn y b c ctr ts nm (cs.length : Nat) (bytesT cs) cs ∧ Blk wn ab 39 (rsEnc (rsE k 0) none 0 0).toArray ∧ Blk wn w.heap.size 45 _) := hd (by
      rw [hwn]
      exact ⟨HV1.o.1.chg ((Chg.refl Non w1).drewN _) (fun _ h => h.elim), HV1.o.2.1.drewN _, HV1.o.2.2.drewN _⟩)
    have HBn : Hd (Below w.heap.size w wn) := hd (by rw [hwn]; exact bdrewN HB1w.o _)
    clear hwn HV1 HB1w QC t1 b4
    have a1 : wn.cell? ⟨ab, 1, none⟩ = some (.int .i64 0) := HVn.o.2.1.at_ 1 rfl
    have f1 := HVn.o.2.1.frozen 1
    have al1 := HVn.o.2.1.lt
    by_cases hcl : c.q.cols ≤ (cs.length : Int)
    · have d1 : decide (c.q.cols ≤ (cs.length : Int)) = true := by simpa using hcl
      have HE := hd (HE2.o hcl)
      clear HE2 HE3 HE4
      go_wp2_with fail
      refine bodyPost_ret (results_none rfl _ _ _) rfl ?_
      refine ⟨⟨_, rfl⟩, ?_⟩
      rw [HE.o]
      have hv := HVn.o.1.chg (one_ab wn ab 1 (.int .i64 7)) (fun k hk => by cases hk; exact hab)
      exact ans_mk rfl (hv.shut rfl rfl) (Lay.Sub.refl _ _) hab (HVn.o.2.1.set_ 1 _) (chg_ab (Chg.of_below _ HBn.o) 1 _)
    · have d1 : decide (c.q.cols ≤ (cs.length : Int)) = false := by simpa using hcl
      have HE3 := hd (HE3.o (by omega))
      have HE4 := hd (HE4.o (by omega))
      have HCL := hd hcl
      clear HE2
      by_cases hct : ctr = maxTok
      · have HE := hd (HE3.o hct)
        have hv := HVn.o.1.blk
        rw [hct] at hv
        have D := hd (bdraw_no wn b c y.mb hv)
        clear hct hv HE3 HE4
        go_wp2_with fail
        refine D.o.mono ?_
        rintro e w3 ⟨rfl, rfl⟩
        go_wp2_with fail
        refine bodyPost_ret (results_none rfl _ _ _) rfl ?_
        refine ⟨⟨_, rfl⟩, ?_⟩
        rw [HE.o]
        have hv := HVn.o.1.chg (one_ab wn ab 1 (.int .i64 9)) (fun k hk => by cases hk; exact hab)
        exact ans_mk rfl (hv.shut rfl rfl) (Lay.Sub.refl _ _) hab (HVn.o.2.1.set_ 1 _) (chg_ab (Chg.of_below _ HBn.o) 1 _)
      · have HE := hd (HE4.o hct)
        have D := hd (bdraw_yes wn b c ctr y.mb HVn.o.1.blk h0 hm hct)
        have HC0 : Hd (ctr + 1 ≤ maxTok) := hd (by omega)
        clear hct HE3 HE4 a1 f1 al1
        go_wp2_with fail
        refine D.o.mono ?_
        rintro e w3 ⟨rfl, hw3⟩
        have HV3 : Hd (BkV w3 y b c (ctr + 1) ts nm (cs.length : Nat) (bytesT cs) cs ∧ Blk w3 ab 39 (rsEnc (rsE k 0) none 0 0).toArray ∧ Blk w3 w.heap.size 45 _ ∧ Chg (fun k => y.lam k ≠ .no) w w3) := hd (by
          have hne : ab ≠ b := fun e => by have := H.o.lb; rw [← e, hab] at this; cases this
          have hne2 : w.heap.size ≠ b := fun e => by have := HVn.o.1.lb; have h2 := HA.o; have h3 := H.o.lb; have := hbl.o; omega
          rw [← hw3]
          exact ⟨HVn.o.1.draw _, HVn.o.2.1.far hne _, HVn.o.2.2.far hne2 _, (Chg.of_below _ HBn.o).setCell (.inl (by rw [H.o.lb]; exact nofun)) _⟩)
        clear hw3 D HVn HBn
        have t1 : w3.cell? ⟨y.tb nm, 1, none⟩ = some (.pointer (some ⟨y.bb nm, 0, none⟩)) := HV3.o.1.tblk.at_ 1 rfl
        have OP := hd (qopen_calls c.q (cs.length : Nat) (bytesT cs) (y.bb nm) w3 HV3.o.1.bud (by omega) (by have := HCL.o; omega) HHQ.o.c2)
        go_wp2_with fail
        refine OP.o.mono ?_
        rintro e w4 ⟨rfl, hb4, hc4⟩
        have HV4 : Hd (BkV w4 y b c (ctr + 1) ts nm ((cs.length : Nat) + 1) (bytesT cs) cs ∧ Blk w4 ab 39 (rsEnc (rsE k 0) none 0 0).toArray ∧ Blk w4 w.heap.size 45 _ ∧ Chg (fun k => y.lam k ≠ .no) w w4) := hd (by
          have e1 : ∀ k, One (y.bb nm) k → y.lam k ≠ .no := fun k hk => by cases hk; rw [HV3.o.1.lbu]; exact nofun
          exact ⟨HV3.o.1.budget hc4 hb4, HV3.o.2.1.chg hc4 (fun hk => e1 _ hk hab), HV3.o.2.2.1.chg hc4 (fun hk => by have h1 : w.heap.size = y.bb nm := hk; have := hbb.o; omega), HV3.o.2.2.2.trans hc4 (fun k hk => .inl (e1 k hk))⟩)
        clear hb4 hc4 OP HV3 t1
        have t0 : w4.cell? ⟨y.tb nm, 0, none⟩ = some (.pointer (some ⟨y.ob nm, 0, none⟩)) := HV4.o.1.tblk.at_ 0 rfl
        have x2 : w4.cell? ⟨w.heap.size, 2, none⟩ = some (.string (bs col)) := HV4.o.2.2.1.at_ 2 rfl
        have b5 : w4.cell? ⟨b, 5, none⟩ = some (.int .i64 c.q.cards) := HV4.o.1.blk.at_ 5 rfl
        have b7 : w4.cell? ⟨b, 7, none⟩ = some (.int .i64 c.q.log) := HV4.o.1.blk.at_ 7 rfl
        have HHF : Hd (hasM cs col = false) := HHH
        have HC := hd (fun W => cnew_calls W (From W.heap.size) (ctr + 1) c.q.cards c.q.log (fun _ h => h))
        have HJ := hd (fun (W : World) (hb : Below w4.drew.heap.size w4.drew W) => ((⟨((HV4.o.1.tblk.drew).below hb HV4.o.1.tblk.lt).at_ 0 rfl, ((HV4.o.2.2.1.drew).below hb HV4.o.2.2.1.lt).at_ 2 rfl, ((HV4.o.1.blk.drew).below hb HV4.o.1.blk.lt).at_ 5 rfl, ((HV4.o.1.blk.drew).below hb HV4.o.1.blk.lt).at_ 7 rfl⟩) : W.cell? ⟨y.tb nm, 0, none⟩ = some (.pointer (some ⟨y.ob nm, 0, none⟩)) ∧ W.cell? ⟨w.heap.size, 2, none⟩ = some (.string (bs col)) ∧ W.cell? ⟨b, 5, none⟩ = some (.int .i64 c.q.cards) ∧ W.cell? ⟨b, 7, none⟩ = some (.int .i64 c.q.log)))
        have HP := hd (fun (W : World) (x : Nat) (hb : Below w4.drew.heap.size w4.drew W) (hC : ColR W (From w4.drew.heap.size) x (Cs.new (ctr + 1) c.q.cards c.q.log)) => (by
          have hv := (HV4.o.1.chg ((Chg.refl Non w4).drew) (fun _ h => h.elim)).made (cn := col) HT.o.rise HHF.o hb hC
          refine ⟨hv, omputEntCp_new W _ (y.ob nm) (ptrs ((y.col w4.drew.heap.size W.heap.size nm col x).cb nm) cs) col x hv.1.tom (by rw [ptrs_len]; omega) (fun q hq => hv.1.lt q (by have hq : (y.col w4.drew.heap.size W.heap.size nm col x).lam q = .tm nm := hq; rw [hq]; exact nofun)) (by rw [ptrs_has]; exact HHF.o)⟩ :
          (BkV W (y.col w4.drew.heap.size W.heap.size nm col x) b c (ctr + 1) ts nm ((cs.length : Nat) + 1) (bytesT cs) cs ∧ ColR W (fun k => (y.col w4.drew.heap.size W.heap.size nm col x).lam k = .cl nm col) x (Cs.new (ctr + 1) c.q.cards c.q.log)) ∧
            Calls Tryz.prog 77 #[.pointer (some ⟨y.ob nm, 0, none⟩), .string (bs col), .pointer (some ⟨x, 0, none⟩)] W fun e w' => e = .returned (.bool true) ∧ OmEntCp w' (Plus (fun k => (y.col w4.drew.heap.size W.heap.size nm col x).lam k = .tm nm) W.heap.size) (y.ob nm) (putM (ptrs ((y.col w4.drew.heap.size W.heap.size nm col x).cb nm) cs) col x) ∧ Chg (fun k => (y.col w4.drew.heap.size W.heap.size nm col x).lam k = .tm nm) W w'))
        have HNW : Hd (∀ hi L, relab y.lam w4.drew.heap.size hi L w.heap.size = .no) := hd (fun hi L => by
          rw [relab_old (show w.heap.size < w4.drew.heap.size from HV4.o.2.2.1.lt)]
          cases hl : y.lam w.heap.size with
          | no => rfl
          | _ => have := HLT.o w.heap.size (by rw [hl]; exact nofun); omega)
        have HJ2 := hd (fun (W w6 : World) (x : Nat) (hb : Below w4.drew.heap.size w4.drew W) (hv : BkV W (y.col w4.drew.heap.size W.heap.size nm col x) b c (ctr + 1) ts nm ((cs.length : Nat) + 1) (bytesT cs) cs) (hc : Chg (fun k => (y.col w4.drew.heap.size W.heap.size nm col x).lam k = .tm nm) W w6) => ((⟨(hv.tblk.chg hc (fun h => by rw [hv.tlt] at h; cases h)).at_ 0 rfl, (((HV4.o.2.2.1.drew).below hb HV4.o.2.2.1.lt).chg hc (fun h => by have h : relab y.lam w4.drew.heap.size _ _ w.heap.size = .tm nm := h; rw [HNW.o] at h; cases h)).at_ 2 rfl, (hv.blk.chg hc (fun h => by rw [hv.lb] at h; cases h)).at_ 5 rfl, (hv.blk.chg hc (fun h => by rw [hv.lb] at h; cases h)).at_ 7 rfl⟩) : w6.cell? ⟨y.tb nm, 0, none⟩ = some (.pointer (some ⟨y.ob nm, 0, none⟩)) ∧ w6.cell? ⟨w.heap.size, 2, none⟩ = some (.string (bs col)) ∧ w6.cell? ⟨b, 5, none⟩ = some (.int .i64 c.q.cards) ∧ w6.cell? ⟨b, 7, none⟩ = some (.int .i64 c.q.log)))
        go_wp2_with fail
        go_region_held3 (fun w' => w'.cell? ⟨y.tb nm, 0, none⟩ = some (.pointer (some ⟨y.ob nm, 0, none⟩)) ∧ w'.cell? ⟨w.heap.size, 2, none⟩ = some (.string (bs col)) ∧ w'.cell? ⟨b, 5, none⟩ = some (.int .i64 c.q.cards) ∧ w'.cell? ⟨b, 7, none⟩ = some (.int .i64 c.q.log)) (first | go_keep | (with_reducible exact ⟨t0, x2, b5, b7⟩) | (with_reducible exact ⟨j0, j2, j5, j7⟩)) (first
          | (go_at_call 78; with_reducible refine (HC.o _).mono ?_; rintro e w5 ⟨x, rfl, hx5, hC5, hb5⟩; have HP5 := hd (HP.o _ _ hb5 hC5); have j0 := (HJ.o _ hb5).1; have j2 := (HJ.o _ hb5).2.1; have j5 := (HJ.o _ hb5).2.2.1; have j7 := (HJ.o _ hb5).2.2.2; have HB5 := hd hb5; clear hx5 hC5 hb5)
          | (go_at_call 77; with_reducible refine HP5.o.2.mono ?_; rintro e w6 ⟨rfl, hO6, hc6⟩; have HO6 := hd hO6; have HC6 := hd hc6; have j := HJ2.o _ _ _ HB5.o HP5.o.1.1 hc6; have j0 := j.1; have j2 := j.2.1; have j5 := j.2.2.1; have j7 := j.2.2.2; clear j hO6 hc6))
        have HAB : Hd (∀ hi hi2 L L', w4.drew.heap.size ≤ hi → relab (relab y.lam w4.drew.heap.size hi L) hi hi2 L' ab = .no ∧ relab y.lam w4.drew.heap.size hi L ab = .no) := hd (fun hi hi2 L L' hh => by
          have h4 : ab < w4.drew.heap.size := HV4.o.2.1.lt
          rw [relab_old (by omega), relab_old h4]
          exact ⟨hab, hab⟩)
        have hA6 : Blk w6 ab 39 (rsEnc (rsE k 0) none 0 0).toArray := ((HV4.o.2.1.drew).below HB5.o HV4.o.2.1.lt).chg HC6.o (fun h => by
          have h : relab y.lam w4.drew.heap.size _ _ ab = .tm nm := h
          rw [(HAB.o _ 0 _ .no HB5.o.size).2] at h
          cases h)
        have HA6 := hd hA6
        have a2 : w6.cell? ⟨ab, 2, none⟩ = some (.int .i64 0) := hA6.at_ 2 rfl
        have f2 := hA6.frozen 2
        have al6 := hA6.lt
        clear hA6 t0 x2 b5 b7 j0 j2 j5 j7 HJ HJ2 HP HC
        go_wp2_with fail
        go_end0
        refine ⟨⟨_, rfl⟩, ?_⟩
        rw [HE.o]
        have hv5 := HP5.o.1.1
        have hO := HO6.o
        have hcx := HP5.o.1.2
        have hC6 := HC6.o
        have hs4 := HV4.o.2.2.2.size
        have hs5 := HB5.o.size
        have hd4 : w4.drew.heap.size = w4.heap.size := rfl
        have hle : w.heap.size ≤ w4.drew.heap.size := by omega
        have hsub0 := y.col_sub w5.heap.size nm col x hle
        have hn6 := (HAB.o w5.heap.size w6.heap.size (.cl nm col) (.tm nm) HB5.o.size).1
        have hn6 : ((y.col w4.drew.heap.size w5.heap.size nm col x).to w5.heap.size w6.heap.size (.tm nm)).lam ab = .no := hn6
        have hx : (y.col w4.drew.heap.size w5.heap.size nm col x).cb nm col = x := if_pos ⟨rfl, rfl⟩
        have ho2 : (y.col w4.drew.heap.size w5.heap.size nm col x).ob nm = y.ob nm := rfl
        rw [← ho2] at hO
        generalize y.col w4.drew.heap.size w5.heap.size nm col x = y2 at hv5 hO hcx hC6 hsub0 hx hn6
        subst hx
        have hv6 := hv5.more HT.o.rise hcx hC6 hO
        have hc5 : Chg (fun k => y.lam k ≠ .no) w w5 := (HV4.o.2.2.2.drew).then_below HB5.o
        have hc6 : Chg (fun k => y.lam k ≠ .no) w w6 := hc5.trans hC6 (fun k hk => hsub0 k (by have hk : y2.lam k = .tm nm := hk; rw [hk]; exact nofun))
        have hsub : y.Sub (y2.to w5.heap.size w6.heap.size (.tm nm)) w.heap.size := hsub0.trans (Lay.to_sub _ _ _ (by omega)) (Nat.le_refl _)
        refine ans_mk rfl ((hv6.chg (one_ab w6 ab 2 _) (fun k hk => by cases hk; exact hn6)).shut ?_ ?_) hsub hn6 (HA6.o.set_ 2 _) (chg_ab hc6 2 _)
        · rw [putM_lenN HHF.o]; rfl
        · rw [bytesT_put _ _ HT.o.rise, HHAS.o HHF.o]
          show bytesT cs = bytesT cs - 0 + bytesM []
          rw [bytesM_nil]; omega

end Go.Proofs.YtfacfdjapjhpeaaGreatDoor
