/-
  What Since tells is so: plainly.
-/
import Derived.Test.YtfacfdjapjhpeaaGreatDoorGAI
import Derived.Test.YtfacfdjapjhpeaaGreatDoorGAD
import Derived.Test.YtfacfdjapjhpeaaGreatDoorGAF
import Derived.Deep.QuietTactic
import Derived.Test.YtfacfdjapjhpeaaGreatDoorGAG
import Derived.BigQuiet
import Derived.Test.YtfacfdjapjhpeaaGreatDoorGAA
import Derived.Test.YtfacfdjapjhpeaaGreatDoorBytesOrd
import Derived.Test.YtfacfdjapjhpeaaGreatDoorProg
set_option linter.unusedVariables false
set_option linter.unusedSimpArgs false
namespace Go.Proofs.YtfacfdjapjhpeaaGreatDoor
open Go.RowKit Go.Lib

/-- The last token of a UID in the log. -/
def lastTok (l : List Ch) (u : List UInt8) : Option Int := (l.reverse.find? fun x => x.2 == u).map (·.1)
theorem lastTok_snoc (l : List Ch) (x : Ch) (u : List UInt8) : lastTok (l ++ [x]) u = if x.2 = u then some x.1 else lastTok l u := by
  unfold lastTok
  rw [List.reverse_append, List.reverse_singleton, List.singleton_append, List.find?_cons]
  by_cases h : x.2 = u
  · simp [h]
  · have : (x.2 == u) = false := by simpa using h
    rw [this, if_neg h]
theorem lastTok_drop {l : List Ch} {k : Nat} {u : List UInt8} {t : Int} (h : lastTok (l.drop k) u = some t) : lastTok l u = some t := by
  have e : l.reverse = (l.drop k).reverse ++ (l.take k).reverse := by rw [← List.reverse_append, List.take_append_drop]
  unfold lastTok at h ⊢
  rw [e, List.find?_append]
  obtain ⟨x, hx, hxt⟩ := Option.map_eq_some_iff.1 h
  rw [hx]
  simpa using hxt
/-- Who is there has the version of its last write. -/
def Cs.Ver (s : Cs) : Prop := ∀ u t, lastTok s.log u = some t → hasM s.ml u = true → verM s.ml u = t
theorem mls_get {s : Cs} (hr : Rising s.ml) (o : OpV) (t : Int) (u : List UInt8) : getM (s.mls o t) u = if u = o.uid then (if o.del = true then none else some ⟨t, o.card⟩) else getM s.ml u := by
  unfold Cs.mls
  cases o.del with
  | true => rw [if_pos rfl, (delM_spec o.uid hr).2.1 u]; simp
  | false => rw [if_neg (by simp), (putM_spec o.uid ⟨t, o.card⟩ hr).2.1 u]; simp
theorem Cs.step_ver {s : Cs} (h : s.Ver) (hok : s.Ok) (o : OpV) (t : Int) : (s.step o t).2.Ver := by
  unfold Cs.step
  cases hn : s.no o t with
  | true => exact h
  | false =>
    intro u t' hl hh
    have hl : lastTok (pushL s.cap s.log (t, o.uid)) u = some t' := hl
    have hg := mls_get hok.rise o t u
    have hh : hasM (s.mls o t) u = true := hh
    show verM (s.mls o t) u = t'
    unfold pushL at hl
    rw [lastTok_snoc] at hl
    by_cases he : o.uid = u
    · rw [if_pos he] at hl
      have hle : t = t' := Option.some.inj hl
      subst he
      rw [if_pos rfl] at hg
      unfold hasM at hh
      rw [hg] at hh
      cases hd : o.del with
      | true => rw [hd] at hh; simp at hh
      | false =>
        rw [hd, if_neg (by simp)] at hg
        unfold verM
        rw [hg]
        exact hle
    · rw [if_neg he] at hl
      rw [if_neg (fun e => he e.symm)] at hg
      have hl2 : lastTok s.log u = some t' := by
        split at hl
        · exact lastTok_drop hl
        · exact hl
      have e1 : hasM (s.mls o t) u = hasM s.ml u := by unfold hasM; rw [hg]
      have e2 : verM (s.mls o t) u = verM s.ml u := by unfold verM; rw [hg]
      rw [e2]
      exact h u t' hl2 (by rw [← e1]; exact hh)
structure Cs.Good (s : Cs) : Prop where
  ok : s.Ok
  ver : s.Ver
/-- What is told of a card. -/
structure Told (s : Cs) (tok : Int) (x : It) : Prop where
  gone : hasM s.ml x.uid = !x.gone
  there : hasM s.ml x.uid = true → verM s.ml x.uid = x.ver ∧ txtM s.ml x.uid = x.card
  none : hasM s.ml x.uid = false → x.card = []
  new : tok ≠ 0 → tok < x.ver
def Next (x y : It) : Prop := x.ver < y.ver ∨ (x.ver = y.ver ∧ compareBytes x.uid y.uid < 0)
structure Knows (s : Cs) (tok : Int) (l' : List It) (err : Int) : Prop where
  is : err = if tok = 0 ∨ s.bad tok = false then 0 else 8
  none : err ≠ 0 → l' = []
  told : ∀ x ∈ l', Told s tok x
  next : l'.Pairwise Next
  all : tok = 0 → l'.length = s.ml.length
end Go.Proofs.YtfacfdjapjhpeaaGreatDoor
namespace Go.Proofs.YtfacfdjapjhpeaaGreatDoor
open Go.RowKit Go.Lib

theorem place_there {ml : ML Ce} {k : List UInt8} (hr : Rising ml) (h : hasM ml k = true) : place ml k < ml.length := by
  unfold hasM at h
  rw [getM_place hr] at h
  cases hp : ml[place ml k]? with
  | none => rw [hp] at h; cases h
  | some x => exact (List.getElem?_eq_some_iff.1 hp).1
theorem delM_len_there {ml : ML Ce} {k : List UInt8} (hr : Rising ml) (h : hasM ml k = true) : (delM ml k).length + 1 = ml.length := by
  have hp := place_there hr h
  unfold delM
  rw [if_pos h, List.length_eraseIdx, if_pos hp]
  omega
theorem putM_len_new {ml : ML Ce} {k : List UInt8} {v : Ce} (h : hasM ml k = false) : (putM ml k v).length = ml.length + 1 := by
  have hp := place_le ml k
  unfold putM
  rw [if_neg (by simp [h]), List.length_append, List.length_take, List.length_cons, List.length_drop]
  omega

/-- The collection behind the first writes of a check, T their token. -/
structure Far (s s' : Cs) (pre : List OpV) (room m g T : Int) : Prop where
  ok : s'.Ok
  most : s'.most = s.most
  get : ∀ u, uidIn pre u = false → getM s'.ml u = getM s.ml u
  len : (s'.ml.length : Int) = m
  bytes : bytesM s'.ml = bytesM s.ml + g
  le : s'.latest ≤ T
  is : pre ≠ [] → s'.latest = T ∧ g ≤ room
theorem far_start {s : Cs} (h : s.Ok) (room : Int) {T : Int} (hT : s.latest ≤ T) : Far s s [] room (s.ml.length : Nat) 0 T :=
  ⟨h, rfl, fun _ _ => rfl, rfl, by omega, hT, fun h => absurd rfl h⟩
theorem chkO_ok {s : Cs} {room : Int} {pre : List OpV} {o : OpV} {m g : Int} {p : Int × Int} (h : chkO s room pre o m g = .inr p) :
    uidIn pre o.uid = false ∧ ¬ (o.del = true ∧ hasM s.ml o.uid = false) ∧ p.1 = (if hasM s.ml o.uid = true then m - 1 else m) + (if o.del = true then 0 else 1) ∧
    p.2 = (if hasM s.ml o.uid = true then g - ((txtM s.ml o.uid).length : Int) else g) + (if o.del = true then 0 else (o.card.length : Int)) ∧ p.1 ≤ s.most ∧ p.2 ≤ room := by
  unfold chkO at h
  by_cases c1 : uidIn pre o.uid = true
  · rw [if_pos c1] at h; cases h
  · rw [if_neg c1] at h
    by_cases c2 : holdsP o.ck o.cv (hasM s.ml o.uid) (verM s.ml o.uid) = false
    · rw [if_pos c2] at h; cases h
    · rw [if_neg c2] at h
      by_cases c3 : o.del = true ∧ hasM s.ml o.uid = false
      · rw [if_pos c3] at h; cases h
      · rw [if_neg c3] at h
        simp only at h
        by_cases c4 : s.most < (if hasM s.ml o.uid = true then m - 1 else m) + (if o.del = true then 0 else 1) ∨ room < (if hasM s.ml o.uid = true then g - ((txtM s.ml o.uid).length : Int) else g) + (if o.del = true then 0 else (o.card.length : Int))
        · rw [if_pos c4] at h; cases h
        · rw [if_neg c4] at h
          have h := (Sum.inr.inj h).symm
          subst h
          exact ⟨by simpa using c1, c3, rfl, rfl, by simp only; omega, by simp only; omega⟩
theorem chkO_err {s : Cs} {room : Int} {pre : List OpV} {o : OpV} {m g : Int} {e : Int} (h : chkO s room pre o m g = .inl e) : e ≠ 0 := by
  unfold chkO at h
  by_cases c1 : uidIn pre o.uid = true
  · rw [if_pos c1] at h; have h := Sum.inl.inj h; omega
  · rw [if_neg c1] at h
    by_cases c2 : holdsP o.ck o.cv (hasM s.ml o.uid) (verM s.ml o.uid) = false
    · rw [if_pos c2] at h; have h := Sum.inl.inj h; omega
    · rw [if_neg c2] at h
      by_cases c3 : o.del = true ∧ hasM s.ml o.uid = false
      · rw [if_pos c3] at h; have h := Sum.inl.inj h; omega
      · rw [if_neg c3] at h
        simp only at h
        by_cases c4 : s.most < (if hasM s.ml o.uid = true then m - 1 else m) + (if o.del = true then 0 else 1) ∨ room < (if hasM s.ml o.uid = true then g - ((txtM s.ml o.uid).length : Int) else g) + (if o.del = true then 0 else (o.card.length : Int))
        · rw [if_pos c4] at h; have h := Sum.inl.inj h; omega
        · rw [if_neg c4] at h; cases h
theorem far_step {s s' : Cs} {pre : List OpV} {room m g T : Int} (h : Far s s' pre room m g T) {o : OpV} {p : Int × Int} (hc : chkO s room pre o m g = .inr p) :
    (s'.step o T).1 = true ∧ Far s (s'.step o T).2 (pre ++ [o]) room p.1 p.2 T := by
  obtain ⟨h1, h2, h3, h4, h5, h6⟩ := chkO_ok hc
  have hg := h.get o.uid h1
  have hh : hasM s'.ml o.uid = hasM s.ml o.uid := by unfold hasM; rw [hg]
  have ht : txtM s'.ml o.uid = txtM s.ml o.uid := by unfold txtM; rw [hg]
  have hle := h.le
  have hlen := h.len
  have hmo := h.most
  have hno : s'.no o T = false := by
    unfold Cs.no
    rw [hh]
    have c1 : decide (T < s'.latest) = false := by simp; omega
    rw [c1]
    cases hd : o.del with
    | true =>
      cases hx : hasM s.ml o.uid with
      | true => rfl
      | false => exact absurd ⟨hd, hx⟩ h2
    | false =>
      cases hx : hasM s.ml o.uid with
      | true => rfl
      | false =>
        rw [hx, hd] at h3
        simp only [Bool.false_eq_true, if_false] at h3
        simp
        omega
  have e : s'.step o T = (true, s'.app o T) := by unfold Cs.step; rw [hno]; rfl
  rw [e]
  refine ⟨rfl, Cs.app_ok h.ok hno, h.most, fun u hu => ?_, ?_, ?_, Int.le_refl _, fun _ => ⟨rfl, h6⟩⟩
  · rw [uidIn_snoc, Bool.or_eq_false_iff] at hu
    have hne : o.uid ≠ u := by simpa using hu.2
    show getM (s'.mls o T) u = _
    rw [mls_get h.ok.rise, if_neg (fun e => hne e.symm)]
    exact h.get u hu.1
  · show ((s'.mls o T).length : Int) = p.1
    rw [h3]
    unfold Cs.mls
    cases hd : o.del with
    | true =>
      rw [if_pos rfl, if_pos rfl]
      have hx : hasM s.ml o.uid = true := by
        cases hx : hasM s.ml o.uid with
        | true => rfl
        | false => exact absurd ⟨hd, hx⟩ h2
      have := delM_len_there h.ok.rise (hh.trans hx)
      rw [if_pos hx]
      omega
    | false =>
      simp only [Bool.false_eq_true, if_false]
      cases hx : hasM s.ml o.uid with
      | true => rw [putM_there_len (hh.trans hx), if_pos rfl]; omega
      | false => rw [putM_len_new (hh.trans hx), if_neg (by simp)]; omega
  · show bytesM (s'.mls o T) = bytesM s.ml + p.2
    rw [h4]
    have hb := h.bytes
    unfold Cs.mls
    cases hd : o.del with
    | true =>
      rw [if_pos rfl, if_pos rfl, bytesM_del _ h.ok.rise, ht]
      have hx : hasM s.ml o.uid = true := by
        cases hx : hasM s.ml o.uid with
        | true => rfl
        | false => exact absurd ⟨hd, hx⟩ h2
      rw [if_pos hx]
      omega
    | false =>
      simp only [Bool.false_eq_true, if_false]
      rw [bytesM_put _ _ h.ok.rise, ht]
      simp only
      cases hx : hasM s.ml o.uid with
      | true => rw [if_pos rfl]; omega
      | false => rw [txt_none hx, if_neg (by simp)]; simp; omega
theorem chkG_done {s : Cs} {room : Int} {l : List OpV} {m g gr : Int} {i : Int} (h : chkG s room l [] m g = (i, gr, 0)) : gr = g := by
  injection h with _ h
  injection h with h _
  exact h.symm
end Go.Proofs.YtfacfdjapjhpeaaGreatDoor
namespace Go.Proofs.YtfacfdjapjhpeaaGreatDoor
open Go.RowKit

end Go.Proofs.YtfacfdjapjhpeaaGreatDoor
namespace Go.Proofs.YtfacfdjapjhpeaaGreatDoor
open Go.RowKit Go.Lib

def verIs (l : List It) (v : Int) : Bool := l.any fun x => x.ver == v
theorem verIs_snoc (l : List It) (x : It) (v : Int) : verIs (l ++ [x]) v = (verIs l v || (x.ver == v)) := by simp [verIs]
/-- May the list be cut at n? -/
def cutOk (l : List It) (n : Nat) : Bool := !verIs (l.drop n) (l.getD (n - 1) default).ver
def splitG (l : List It) : Nat → Nat → Nat
  | 0, _ => l.length
  | f + 1, n => if n < l.length then (if cutOk l n = true then n else splitG l f (n + 1)) else l.length
def splitV (l : List It) (v : Int) : Nat := splitG l (l.length - v.toNat) v.toNat
def splitP (l : List It) (most : Int) : Nat := splitV l (max most 1)
theorem splitV_end {l : List It} {v : Int} (h : ¬ v < l.length) (h1 : 0 ≤ v) : splitV l v = l.length := by
  unfold splitV
  rw [show l.length - v.toNat = 0 by omega]
  rfl
theorem splitV_step {l : List It} {n : Nat} (h : n < l.length) : splitV l n = if cutOk l n = true then n else splitV l ((n : Int) + 1) := by
  unfold splitV
  rw [show l.length - (n : Int).toNat = (l.length - (n + 1)) + 1 by omega, show ((n : Int)).toNat = n by omega, show ((n : Int) + 1).toNat = n + 1 by omega]
  simp only [splitG, if_pos h]
theorem splitG_le (l : List It) : ∀ f n, splitG l f n ≤ l.length
  | 0, _ => Nat.le_refl _
  | f + 1, n => by
    unfold splitG
    split
    · split
      · omega
      · exact splitG_le l f (n + 1)
    · exact Nat.le_refl _
theorem splitP_le (l : List It) (most : Int) : splitP l most ≤ l.length := splitG_le _ _ _

theorem Rds.drop {w : World} {A : Option Addr} {n : Nat} {l : List It} (h : Rds w A n 4 (itsEnc l)) (m : Nat) (hm : m < n) : ∃ g o, A = some ⟨g, o, none⟩ ∧ Rds w (some ⟨g, o + m * 4, none⟩) (n - m) 4 (itsEnc (l.drop m)) := by
  obtain ⟨g, o, hA, hg, hc⟩ := h.at_ (by omega)
  have hl := h.len
  refine ⟨g, o, hA, ⟨?_, fun _ => ⟨g, o + m * 4, rfl, hg, fun j u hu => ?_⟩⟩⟩
  · rw [itsEnc_len] at hl ⊢
    rw [List.length_drop]
    have : l.length = n := by omega
    omega
  · have e : itsEnc (l.drop m) = (itsEnc l).drop (m * 4) := (flat_drop itEnc 4 itEnc_len l m).symm
    rw [e, List.getElem?_drop] at hu
    have := hc _ _ hu
    rw [← Nat.add_assoc] at this
    exact this

theorem split1_calls (w : World) (x : It) (b : Nat) (v : Int) (hb : w.cell? ⟨b, 0, none⟩ = some (.int .i64 v)) (hl : b < w.heap.size) :
    Calls Tryz.prog 152 #[.agg (itEnc x).toArray, .pointer (some ⟨b, 0, none⟩)] w fun e w' => e = .returned (.bool (x.ver == v)) ∧ w.alloc (.cells (itEnc x).toArray 63) = w' := by
  obtain ⟨xu, xv, xg, xc⟩ := x
  simp only [itEnc]
  go_enter Tryz.func152, Tryz.ntmps152
  go_wp2
  go_ret
  exact ⟨rfl, rfl⟩

set_option maxRecDepth 100000 in
set_option maxHeartbeats 2000000 in
theorem ifI_calls (w : World) (A : Option Addr) (n c : Nat) (l : List It) (b : Nat) (v : Int) (hr : Rds w A n 4 (itsEnc l)) (hn : n = l.length) (hm : n ≤ 1000000) (hb : w.cell? ⟨b, 0, none⟩ = some (.int .i64 v)) (hl : b < w.heap.size) :
    Calls Tryz.prog 172 #[.slice A n c, .func (.func 152) #[] #[.pointer (some ⟨b, 0, none⟩)]] w fun e w' => ∃ i : Int, e = .returned (.int .i64 i) ∧ decide (0 ≤ i) = verIs l v ∧ Below w.heap.size w w' := by
  have HR := hd hr
  have HN := hd hn
  have HC := hd (fun wr (hbe : Below w.heap.size w wr) (x : It) => split1_calls wr x b v ((hbe.cell (p := ⟨b, 0, none⟩) hl).trans hb) (Nat.lt_of_lt_of_le hl hbe.size))
  clear hr hn hb
  go_enter Tryz.func172, Tryz.ntmps172
  go_wp2_with fail
  go_loopw [8, 5] (fun s8 s5 wr => ∃ k : Nat, s8 = .int .i64 k ∧ k ≤ n ∧ Hd (verIs (l.take k) v = false) ∧ Hd (Below w.heap.size w wr)) (fun s8 _ _ => n - (RowKit.intOf s8).toNat)
  case atStart => exact ⟨0, rfl, Nat.zero_le _, hd rfl, hd (Below.refl _ _)⟩
  case round =>
    obtain ⟨k, rfl, hk, HV, HB⟩ := hrel
    have hki : (0 : Int) ≤ (k : Int) := by omega
    by_cases hlt : k < n
    · have hlti : (k : Int) < (n : Int) := by omega
      have hkl : k < l.length := by rw [← HN.o]; exact hlt
      obtain ⟨g, o, rfl, hg, hc⟩ := HR.o.at_ (by omega)
      obtain ⟨x, hx⟩ : ∃ x, l[k]'hkl = x := ⟨_, rfl⟩
      have HT : Hd (l.take (k + 1) = l.take k ++ [x]) := hd (by rw [List.take_succ_eq_append_getElem hkl, hx])
      have HMEM : Hd (x ∈ l) := hd (by rw [← hx]; exact List.getElem_mem hkl)
      have hcell : ∀ j u, j < 4 → (itEnc x)[j]? = some u → wr.cell? ⟨g, o + (k * 4 + j), none⟩ = some u := fun j u hj hv => (HB.o.cell (p := ⟨g, o + (k * 4 + j), none⟩) hg).trans (hc _ _ ((flat_at itEnc 4 itEnc_len l k hkl j hj).trans (by rw [hx]; exact hv)))
      have hcall := hd (HC.o wr HB.o x)
      obtain ⟨xu, xv, xg, xc⟩ := x
      have k0 := hcell 0 _ (by omega) rfl
      have k1 := hcell 1 _ (by omega) rfl
      have k2 := hcell 2 _ (by omega) rfl
      have k3 := hcell 3 _ (by omega) rfl
      rw [← Nat.add_assoc] at k0 k1 k2 k3
      rw [Nat.add_zero] at k0
      simp only [itEnc] at hcall
      obtain ⟨bq, hbq⟩ : ∃ q : Bool, (xv == v) = q := ⟨_, rfl⟩
      rw [hbq] at hcall
      have HBQ := hd hbq
      clear hcell hc hx hkl hbq
      go_wp2_with fail
      refine hcall.o.mono ?_
      rintro e w1 ⟨rfl, rfl⟩
      have HB1 := hd (HB.o.alloc HB.o.size (.cells #[.string (bs xu), .int .i64 xv, .bool xg, .string (bs xc)] 63))
      cases bq with
      | true =>
        go_wp2
        go_ret
        refine ⟨(k : Int), rfl, ?_, HB1.o⟩
        rw [decide_eq_true hki]
        symm
        simp only [verIs, List.any_eq_true]
        exact ⟨_, HMEM.o, HBQ.o⟩
      | false =>
        have HV2 : Hd (verIs (l.take (k + 1)) v = false) := hd (by rw [HT.o, verIs_snoc, HV.o]; simpa using HBQ.o)
        go_wp2
        go_roundw
        case rel => exact ⟨k + 1, by go_num, by omega, HV2, HB1⟩
        case measure => simp [RowKit.intOf]; omega
    · obtain rfl : k = n := by omega
      have HE : Hd (l.take k = l) := hd (List.take_of_length_le (by rw [← HN.o]; exact Nat.le_refl _))
      go_wp2
      go_ret
      refine ⟨-1, rfl, ?_, HB.o⟩
      have := HV.o
      rw [HE.o] at this
      rw [this]
      rfl
theorem cfI_calls (w : World) (A : Option Addr) (n c : Nat) (l : List It) (b : Nat) (v : Int) (hr : Rds w A n 4 (itsEnc l)) (hn : n = l.length) (hm : n ≤ 1000000) (hb : w.cell? ⟨b, 0, none⟩ = some (.int .i64 v)) (hl : b < w.heap.size) :
    Calls Tryz.prog 151 #[.slice A n c, .func (.func 152) #[] #[.pointer (some ⟨b, 0, none⟩)]] w fun e w' => e = .returned (.bool (verIs l v)) ∧ Below w.heap.size w w' := by
  have hc := hd (ifI_calls w A n c l b v hr hn hm hb hl)
  clear hr hn hb
  go_enter Tryz.func151, Tryz.ntmps151
  go_wp2_with fail
  refine hc.o.mono ?_
  rintro e w1 ⟨i, rfl, hi, hb1⟩
  have HI := hd hi
  clear hi
  go_wp2
  go_ret
  exact ⟨ret_bool (by rw [← HI.o]), hb1⟩

set_option maxRecDepth 100000 in
set_option maxHeartbeats 2000000 in
theorem csplit_calls (w : World) (A : Option Addr) (n c : Nat) (l : List It) (most : Int) (hr : Rds w A n 4 (itsEnc l)) (hn : n = l.length) (hm : n ≤ 1000000) (hnc : n ≤ c) :
    Calls Tryz.prog 126 #[.slice A n c, .int .i64 most] w fun e w' => e = .returned (.int .i64 (splitP l most : Nat)) ∧ Below w.heap.size w w' := by
  have HR := hd hr
  have HN := hd hn
  obtain ⟨res, hres⟩ : ∃ r, splitP l most = r := ⟨_, rfl⟩
  have HP : Hd (splitV l (max most 1) = res) := hd hres
  rw [hres]
  clear hr hn hres
  go_enter Tryz.func126, Tryz.ntmps126
  go_wp2_with fail
  all_goals
    go_loopw [5] (fun s5 wr => ∃ v : Int, s5 = .int .i64 v ∧ 1 ≤ v ∧ Hd (splitV l v = res) ∧ Hd (Below w.heap.size w wr)) (fun s5 _ => n - (RowKit.intOf s5).toNat)
    case atStart => exact ⟨max most 1, rfl, by omega, HP, hd (Below.refl _ _)⟩
    case round =>
      obtain ⟨v, rfl, hv1, HS, HB⟩ := hrel
      by_cases hlt : v < n
      · obtain ⟨k, rfl⟩ : ∃ k : Nat, v = k := ⟨v.toNat, by omega⟩
        have hkn : k < n := by omega
        have hkl : k < l.length := by rw [← HN.o]; exact hkn
        obtain ⟨g, o, rfl, hg, hc⟩ := HR.o.at_ (by omega)
        obtain ⟨g', o', hA', hdr⟩ := HR.o.drop k hkn
        injection hA' with hA'
        injection hA' with e1 e2
        subst e1 e2
        obtain ⟨p, hp⟩ : ∃ p : Nat, k = p + 1 := ⟨k - 1, by omega⟩
        have hpl : p < l.length := by omega
        obtain ⟨x, hx⟩ : ∃ x, l[p]'hpl = x := ⟨_, rfl⟩
        have k1 : wr.cell? ⟨g, o + (p * 4 + 1), none⟩ = some (.int .i64 x.ver) := (HB.o.cell (p := ⟨g, o + (p * 4 + 1), none⟩) hg).trans (hc _ _ ((flat_at itEnc 4 itEnc_len l p hpl 1 (by omega)).trans (by rw [hx]; rfl)))
        rw [← Nat.add_assoc] at k1
        have hgd : l.getD (k - 1) default = x := by rw [hp, Nat.add_sub_cancel, List.getD_eq_getElem?_getD, List.getElem?_eq_getElem hpl, hx]; rfl
        have HCUT : Hd (cutOk l k = !verIs (l.drop k) x.ver) := hd (by unfold cutOk; rw [hgd])
        have HST : Hd ((if cutOk l k = true then k else splitV l ((k : Int) + 1)) = res) := hd (by rw [← splitV_step hkl]; exact HS.o)
        have hpi : (k : Int) - 1 = (p : Int) := by omega
        have hpn : (p : Int) < (n : Int) := by omega
        have hp0 : (0 : Int) ≤ (p : Int) := by omega
        have hck : ¬ c = k := by omega
        have hkc : (k : Int) ≤ (n : Int) := by omega
        have hdl : n - k = (l.drop k).length := by rw [List.length_drop, ← HN.o]
        have HDR := hd hdr
        have HDL := hd hdl
        obtain ⟨xv, hxv⟩ : ∃ q, x.ver = q := ⟨_, rfl⟩
        rw [hxv] at k1 HCUT
        have HCALL : Hd (Calls Tryz.prog 151 #[.slice (some ⟨g, o + k * 4, none⟩) (n - k) (c - k), .func (.func 152) #[] #[.pointer (some ⟨wr.heap.size, 0, none⟩)]] (wr.alloc (.cells #[.int .i64 xv] 2)) fun e w' => e = .returned (.bool (verIs (l.drop k) xv)) ∧ Below (wr.alloc (.cells #[.int .i64 xv] 2)).heap.size (wr.alloc (.cells #[.int .i64 xv] 2)) w') := hd (cfI_calls _ _ _ _ (l.drop k) wr.heap.size xv ((HDR.o.below HB.o).alloc _) HDL.o (by omega) ((Blk.new wr 2 _).at_ 0 rfl) (by simp))
        have HB1 := hd (HB.o.alloc HB.o.size (.cells #[.int .i64 xv] 2))
        obtain ⟨q, hq⟩ : ∃ q, verIs (l.drop k) xv = q := ⟨_, rfl⟩
        rw [hq] at HCALL HCUT
        clear hc hdr hx hgd hdl hxv hq hkl hpl
        subst hp
        cases q with
        | true =>
          have HST2 : Hd (splitV l (((p + 1 : Nat) : Int) + 1) = res) := hd (by have := HST.o; rw [HCUT.o] at this; simpa using this)
          go_wp2_with fail
          refine HCALL.o.mono ?_
          rintro e w1 ⟨rfl, hb1⟩
          have HB2 := hd (HB1.o.trans (hb1.mono HB1.o.size))
          clear hb1
          go_wp2
          go_roundw
          case rel => exact ⟨((p + 1 : Nat) : Int) + 1, by go_num, by omega, HST2, HB2⟩
          case measure => simp [RowKit.intOf]; omega
        | false =>
          have HST2 : Hd (p + 1 = res) := hd (by have := HST.o; rw [HCUT.o] at this; simpa using this)
          go_wp2_with fail
          refine HCALL.o.mono ?_
          rintro e w1 ⟨rfl, hb1⟩
          have HB2 := hd (HB1.o.trans (hb1.mono HB1.o.size))
          clear hb1
          go_wp2
          go_ret
          exact ⟨ret_int (by have := HST2.o; omega), HB2.o⟩
      · have hge : ¬ v < (l.length : Int) := by rw [← HN.o]; exact hlt
        have HE : Hd (n = res) := hd (by rw [← HS.o, splitV_end hge (by omega)]; exact HN.o)
        go_wp2
        go_ret
        exact ⟨ret_int (by have := HE.o; omega), HB.o⟩

end Go.Proofs.YtfacfdjapjhpeaaGreatDoor
namespace Go.Proofs.YtfacfdjapjhpeaaGreatDoor
open Go.RowKit Go.Lib

theorem results_tmp4 {fn : Func} {t u v x : Tmp} (h : fn.results = #[.tmp t, .tmp u, .tmp v, .tmp x]) (tmps : Array Value) (P : Program) (w : World) :
    (results fn tmps).run P w = .ok (.tuple #[tmps.getD t undef, tmps.getD u undef, tmps.getD v undef, tmps.getD x undef]) w := by
  simp [results, h]

theorem splitG_ge (l : List It) : ∀ f n, splitG l f n = l.length ∨ n ≤ splitG l f n
  | 0, _ => .inl rfl
  | f + 1, n => by
    unfold splitG
    split
    · split
      · exact .inr (Nat.le_refl _)
      · rcases splitG_ge l f (n + 1) with h | h
        · exact .inl h
        · exact .inr (by omega)
    · exact .inl rfl
theorem splitP_pos (l : List It) (most : Int) : splitP l most = l.length ∨ 1 ≤ splitP l most := by
  unfold splitP splitV
  rcases splitG_ge l (l.length - (max most 1).toNat) (max most 1).toNat with h | h
  · exact .inl h
  · exact .inr (by omega)
/-- What a page is. -/
def pageN (l : List It) (tok most : Int) : Nat := if tok = 0 then l.length else splitP l most
def pageP (l : List It) (tok most latest : Int) : List It × Int × Bool := if pageN l tok most = l.length then (l, latest, false) else (l.take (pageN l tok most), (l.getD (pageN l tok most - 1) default).ver, true)
def pageR (l : List It) (tok most latest err : Int) : List It × Int × Bool := if err = 0 then pageP l tok most latest else ([], 0, false)
theorem Rds.takeN {w : World} {A : Option Addr} {n : Nat} {l : List It} (h : Rds w A n 4 (itsEnc l)) (m : Nat) (hm : m ≤ n) : Rds w A (l.take m).length 4 (itsEnc (l.take m)) := by
  have hl := h.len
  rw [itsEnc_len'] at hl
  have : (l.take m).length = m := by rw [List.length_take]; omega
  rw [this]
  exact h.takeI m hm


end Go.Proofs.YtfacfdjapjhpeaaGreatDoor
namespace Go.Proofs.YtfacfdjapjhpeaaGreatDoor
open Go.RowKit

/-- An answer (its items stand beside it). -/
structure Rs where
  kind : Int
  err : Int
  token : Int
  version : Int
  card : List UInt8
  index : Int
  more : Bool
  deriving DecidableEq
def rsEnc (r : Rs) (A : Option Addr) (n c : Nat) : List Value := [.int .i64 r.kind, .int .i64 r.err, .int .i64 r.token, .int .i64 r.version, .string (bs r.card), .int .i64 r.index, .bool r.more, .slice A n c]

/-- A copy's state: its token, whether there is more, its cards. -/
structure St where
  token : Int
  more : Bool
  ml : ML It
end Go.Proofs.YtfacfdjapjhpeaaGreatDoor
namespace Go.Proofs.YtfacfdjapjhpeaaGreatDoor
open Go.RowKit Go.Lib

/-- What a tenant may keep; a configuration. -/
structure Qt where
  cols : Int
  cards : Int
  bytes : Int
  log : Int
structure Cf where
  conns : Int
  start : Int
  room : Int
  shards : Int
  q : Qt
def Qt.may (q : Qt) : Bool := (decide (1 ≤ q.cols) && decide (q.cols ≤ 8)) && (decide (1 ≤ q.cards) && decide (q.cards ≤ 16)) && (decide (1 ≤ q.bytes) && decide (q.bytes ≤ 1048576)) && (decide (1 ≤ q.log) && decide (q.log ≤ 64))
def Cf.mayA (c : Cf) : Bool := decide (1 ≤ c.conns) && decide (c.conns ≤ 12) && decide (0 ≤ c.start) && decide (20006 ≤ c.room) && decide (c.room ≤ 40000) && decide (1 ≤ c.shards) && decide (c.shards ≤ 16)
def Cf.may (c : Cf) : Bool := c.mayA && c.q.may
def Cf.err (c : Cf) : Int := if c.may = true then 0 else 12
/-- A book: its counter, its tenants' collections. -/
structure BkS where
  ctr : Int
  ts : ML (ML Cs)
abbrev An := Rs × List It × BkS
/-- What a tenant is answered: with the counter and its collections then. -/
abbrev Co := Rs × List It × Int × ML Cs
def maxTok : Int := 9223372036854775807
def tenB (ts : ML (ML Cs)) (nm : List UInt8) : ML Cs := (getM ts nm).getD []
def bytesT (cs : ML Cs) : Int := (cs.map fun e => bytesM e.2.ml).sum
def rsE (k e : Int) : Rs := ⟨k, e, 0, 0, [], 0, false⟩
def rsT (k t : Int) : Rs := ⟨k, 0, t, 0, [], 0, false⟩
/-- All writes, with one token. -/
def applyAll (s : Cs) (ops : List OpV) (t : Int) : Cs := ops.foldl (fun s o => (s.step o t).2) s
def opsQ (q : Rq) : List OpV := if q.k = 4 then [⟨false, q.uid, q.card, q.ck, q.cv⟩] else if q.k = 5 then [⟨true, q.uid, [], q.ck, q.cv⟩] else q.ops
def chkQ (Q : Qt) (cs : ML Cs) (q : Rq) (s : Cs) : Int × Int × Int := chkG s (Q.bytes - bytesT cs) [] (opsQ q) s.ml.length 0
def writeB (Q : Qt) (c : Int) (cs : ML Cs) (q : Rq) (s : Cs) : Co :=
  if (chkQ Q cs q s).2.2 ≠ 0 then (⟨q.k, (chkQ Q cs q s).2.2, 0, 0, [], (chkQ Q cs q s).1, false⟩, [], c, cs)
  else if c = maxTok then (rsE q.k 9, [], c, cs)
  else (⟨q.k, 0, c + 1, if q.k = 4 then c + 1 else 0, [], 0, false⟩, [], c + 1, putM cs q.col (applyAll s (opsQ q) (c + 1)))
open Classical in
noncomputable def sinceF (s : Cs) (tok : Int) : List It × Int := if h : ∃ p : List It × Int, SinceIs s tok p.1 p.2 then h.choose else ([], 0)
noncomputable def pageF (s : Cs) (tok most : Int) : List It × Int × Bool := pageR (sinceF s tok).1 tok most s.latest (sinceF s tok).2
noncomputable def withinB (Q : Qt) (c : Int) (cs : ML Cs) (q : Rq) (s : Cs) : Co :=
  if q.k = 3 then (if c = maxTok then (rsE q.k 9, [], c, cs) else (rsT q.k (c + 1), [], c + 1, delM cs q.col))
  else if q.k = 6 then (if hasM s.ml q.uid = true then (⟨q.k, 0, 0, verM s.ml q.uid, txtM s.ml q.uid, 0, false⟩, [], c, cs) else (rsE q.k 4, [], c, cs))
  else if q.k = 8 then (⟨q.k, (sinceF s q.tok).2, (pageF s q.tok q.most).2.1, 0, [], 0, (pageF s q.tok q.most).2.2⟩, (pageF s q.tok q.most).1, c, cs)
  else if q.k = 9 then (if s.latest ≤ q.tok then (rsE q.k 15, [], c, cs) else (rsT q.k s.latest, [], c, cs))
  else writeB Q c cs q s
def createB (Q : Qt) (c : Int) (cs : ML Cs) (q : Rq) : Co :=
  if hasM cs q.col = true then (rsE q.k 5, [], c, cs)
  else if Q.cols ≤ (cs.length : Int) then (rsE q.k 7, [], c, cs)
  else if c = maxTok then (rsE q.k 9, [], c, cs)
  else (rsT q.k (c + 1), [], c + 1, putM cs q.col (Cs.new (c + 1) Q.cards Q.log))
def listB (cs : ML Cs) : List It := cs.map fun e => ⟨e.1, e.2.latest, false, []⟩
noncomputable def errB (nm : List UInt8) (q : Rq) : Int := if nameB nm = false then 3 else if chk q ≠ 0 then chk q else if q.k = 1 ∨ q.k = 11 then 10 else 0
noncomputable def coreB (Q : Qt) (c : Int) (cs : ML Cs) (q : Rq) : Co :=
  if q.k = 2 then createB Q c cs q
  else if q.k = 10 then (rsE q.k 0, listB cs, c, cs)
  else match getM cs q.col with
    | none => (rsE q.k 4, [], c, cs)
    | some s => withinB Q c cs q s
def putB (st : BkS) (nm : List UInt8) (r : Co) : An := (r.1, r.2.1, ⟨r.2.2.1, putM st.ts nm r.2.2.2⟩)
noncomputable def doB (Q : Qt) (st : BkS) (nm : List UInt8) (q : Rq) : An :=
  if errB nm q ≠ 0 then (rsE q.k (errB nm q), [], st) else putB st nm (coreB Q st.ctr (tenB st.ts nm) q)

/-- What is always so of a collection, of a tenant, of a book. -/
structure CsOk (Q : Qt) (T : Int) (s : Cs) : Prop where
  ok : s.Ok
  tok : s.Tok
  good : s.Good
  most : s.most = Q.cards
  cap : s.cap = Q.log
  lat : s.latest ≤ T
  hor : s.horizon ≤ s.latest
  pos : 1 ≤ s.horizon
  log : ∀ x ∈ s.log, x.2.length ≤ 24
  ml : ∀ e ∈ s.ml, e.1.length ≤ 24 ∧ e.2.text.length ≤ 900 ∧ e.2.ver ≤ s.latest ∧ 1 ≤ e.2.ver
structure TnOk (Q : Qt) (T : Int) (cs : ML Cs) : Prop where
  rise : Rising cs
  len : (cs.length : Int) ≤ Q.cols
  bytes : bytesT cs ≤ Q.bytes
  each : ∀ e ∈ cs, CsOk Q T e.2 ∧ e.1.length ≤ 16
structure QtOk (Q : Qt) : Prop where
  c1 : 1 ≤ Q.cols
  c2 : Q.cols ≤ 8
  d1 : 1 ≤ Q.cards
  d2 : Q.cards ≤ 16
  b1 : 1 ≤ Q.bytes
  b2 : Q.bytes ≤ 1048576
  l1 : 1 ≤ Q.log
  l2 : Q.log ≤ 64
structure BkOk (Q : Qt) (T0 : Int) (st : BkS) : Prop where
  q : QtOk Q
  start : 0 ≤ T0
  low : T0 ≤ st.ctr
  high : st.ctr ≤ maxTok
  rise : Rising st.ts
  each : ∀ e ∈ st.ts, TnOk Q st.ctr e.2 ∧ e.1.length ≤ 16
theorem QtOk.of {Q : Qt} (h : Q.may = true) : QtOk Q := by
  simp [Qt.may] at h
  exact ⟨h.1.1.1.1, h.1.1.1.2, h.1.1.2.1, h.1.1.2.2, h.1.2.1, h.1.2.2, h.2.1, h.2.2⟩
theorem bytesT_cons (e : List UInt8 × Cs) (cs : ML Cs) : bytesT (e :: cs) = bytesM e.2.ml + bytesT cs := by simp [bytesT]
theorem bytesT_nn : ∀ cs : ML Cs, 0 ≤ bytesT cs
  | [] => by simp [bytesT]
  | e :: cs => by
    have := bytesT_nn cs
    have := bytesM_nn e.2.ml
    rw [bytesT_cons]
    omega
theorem bytesT_get : ∀ {cs : ML Cs} {k : List UInt8} {s : Cs}, getM cs k = some s → bytesM s.ml ≤ bytesT cs
  | [], k, s, h => by simp [getM] at h
  | e :: cs, k, s, h => by
    have h1 := bytesT_nn cs
    have h2 := bytesM_nn e.2.ml
    rw [bytesT_cons]
    by_cases he : e.1 = k
    · rw [getM_cons_eq he] at h
      injection h with h
      subst h
      omega
    · rw [getM_cons_ne he] at h
      have := bytesT_get h
      omega
theorem bytesT_put : ∀ {cs : ML Cs} (k : List UInt8) (s : Cs), Rising cs → bytesT (putM cs k s) = bytesT cs - (match getM cs k with | some s0 => bytesM s0.ml | none => 0) + bytesM s.ml
  | [], k, s, _ => by simp [putM, hasM, getM, place, bytesT]
  | e :: cs, k, s, hr => by
    by_cases h : compareBytes e.1 k < 0
    · rw [putM_cons_lt h, bytesT_cons, bytesT_cons, bytesT_put k s hr.tail, getM_cons_ne (cmp_ne h)]
      omega
    · by_cases he : e.1 = k
      · have e1 : putM (e :: cs) k s = (k, s) :: cs := by simp [putM, hasM_cons_eq he, place_cons_ge hr h]
        rw [e1, bytesT_cons, bytesT_cons, getM_cons_eq he]
        simp only
        omega
      · have hh := hasM_cons_gt hr h he
        have e1 : putM (e :: cs) k s = (k, s) :: e :: cs := by simp [putM, hh, place_cons_ge hr h]
        have hg : getM (e :: cs) k = none := by unfold hasM at hh; cases hg : getM (e :: cs) k with | none => rfl | some v => rw [hg] at hh; cases hh
        rw [e1, bytesT_cons, hg]
        simp only
        omega
theorem bytesT_del : ∀ {cs : ML Cs} (k : List UInt8), Rising cs → bytesT (delM cs k) = bytesT cs - (match getM cs k with | some s0 => bytesM s0.ml | none => 0)
  | [], k, _ => by simp [delM, hasM, getM, bytesT]
  | e :: cs, k, hr => by
    by_cases h : compareBytes e.1 k < 0
    · rw [delM_cons_lt h, bytesT_cons, bytesT_cons, bytesT_del k hr.tail, getM_cons_ne (cmp_ne h)]
      omega
    · by_cases he : e.1 = k
      · have e1 : delM (e :: cs) k = cs := by simp [delM, hasM_cons_eq he, place_cons_ge hr h]
        rw [e1, bytesT_cons, getM_cons_eq he]
        simp only
        omega
      · have hh := hasM_cons_gt hr h he
        have e1 : delM (e :: cs) k = e :: cs := by simp [delM, hh]
        have hg : getM (e :: cs) k = none := by unfold hasM at hh; cases hg : getM (e :: cs) k with | none => rfl | some v => rw [hg] at hh; cases hh
        rw [e1, hg]
        simp only
        omega
theorem tenB_mem {ts : ML (ML Cs)} {nm : List UInt8} : tenB ts nm = [] ∨ (nm, tenB ts nm) ∈ ts := by
  unfold tenB
  cases h : getM ts nm with
  | none => exact .inl rfl
  | some v => exact .inr (getM_mem h)
theorem TnOk.nil {Q : Qt} (h : QtOk Q) (T : Int) : TnOk Q T [] := ⟨List.Pairwise.nil, by have := h.c1; simp; omega, by have := h.b1; simp [bytesT]; omega, fun _ h => by cases h⟩
theorem BkOk.ten {Q : Qt} {T0 : Int} {st : BkS} (h : BkOk Q T0 st) (nm : List UInt8) : TnOk Q st.ctr (tenB st.ts nm) := by
  rcases tenB_mem (ts := st.ts) (nm := nm) with e | e
  · rw [e]; exact TnOk.nil h.q _
  · exact (h.each _ e).1
theorem CsOk.up {Q : Qt} {T T' : Int} {s : Cs} (h : CsOk Q T s) (hT : T ≤ T') : CsOk Q T' s := ⟨h.ok, h.tok, h.good, h.most, h.cap, Int.le_trans h.lat hT, h.hor, h.pos, h.log, h.ml⟩
theorem TnOk.up {Q : Qt} {T T' : Int} {cs : ML Cs} (h : TnOk Q T cs) (hT : T ≤ T') : TnOk Q T' cs := ⟨h.rise, h.len, h.bytes, fun e he => ⟨(h.each e he).1.up hT, (h.each e he).2⟩⟩
theorem TnOk.get {Q : Qt} {T : Int} {cs : ML Cs} (h : TnOk Q T cs) {k : List UInt8} {s : Cs} (hg : getM cs k = some s) : CsOk Q T s := (h.each _ (getM_mem hg)).1

theorem since_uniq {s : Cs} (hr : Rising s.ml) (ht : s.Tok) {tok : Int} {l1 l2 : List It} {e1 e2 : Int} (h1 : SinceIs s tok l1 e1) (h2 : SinceIs s tok l2 e2) : e1 = e2 ∧ l1 = l2 := by
  refine since_agree hr ht h1 ?_
  rcases h2 with ⟨a, b, c⟩ | ⟨a, b, c, d⟩ | ⟨a, b, c, d⟩
  · exact .inl ⟨a, b, c⟩
  · exact .inr (.inl ⟨a, b, c, d⟩)
  · exact .inr (.inr ⟨a, b, c, by rw [← outP_eq _ _ _ ht.falls]; exact d⟩)
theorem sinceF_is {s : Cs} (hr : Rising s.ml) (ht : s.Tok) {tok : Int} {l : List It} {e : Int} (h : SinceIs s tok l e) : sinceF s tok = (l, e) := by
  have hx : ∃ p : List It × Int, SinceIs s tok p.1 p.2 := ⟨(l, e), h⟩
  unfold sinceF
  rw [dif_pos hx]
  obtain ⟨h1, h2⟩ := since_uniq hr ht hx.choose_spec h
  exact Prod.ext h2 h1

end Go.Proofs.YtfacfdjapjhpeaaGreatDoor
namespace Go.Proofs.YtfacfdjapjhpeaaGreatDoor
open Go.RowKit

/-- Where each key's thing lies. -/
def ptrs {V : Type} (f : List UInt8 → Nat) (l : ML V) : ML Nat := l.map fun e => (e.1, f e.1)
section
variable {V : Type} (f g : List UInt8 → Nat)
theorem ptrs_len (l : ML V) : (ptrs f l).length = l.length := by simp [ptrs]
theorem ptrs_get (l : ML V) (k : List UInt8) : getM (ptrs f l) k = (getM l k).map fun _ => f k := by
  induction l with
  | nil => rfl
  | cons e l ih =>
    by_cases h : e.1 = k
    · have h' : (e.1, f e.1).1 = k := h
      show getM ((e.1, f e.1) :: ptrs f l) k = _
      rw [getM_cons_eq h', getM_cons_eq h]
      simp [h]
    · have h' : (e.1, f e.1).1 ≠ k := h
      show getM ((e.1, f e.1) :: ptrs f l) k = _
      rw [getM_cons_ne h', getM_cons_ne h]
      exact ih
theorem ptrs_has (l : ML V) (k : List UInt8) : hasM (ptrs f l) k = hasM l k := by
  unfold hasM
  rw [ptrs_get]
  cases getM l k <;> rfl
theorem ptrs_rise {l : ML V} (h : Rising l) : Rising (ptrs f l) := by
  unfold Rising ptrs at *
  rw [List.pairwise_map]
  exact h
theorem ptrs_put {l : ML V} (h : Rising l) (k : List UInt8) (v : V) (b : Nat) : putM (ptrs f l) k b = ptrs (fun x => if x = k then b else f x) (putM l k v) := by
  have h1 := putM_spec k b (ptrs_rise f h)
  have h2 := putM_spec k v h
  refine rising_ext h1.1 (ptrs_rise _ h2.1) fun x => ?_
  rw [h1.2.1, ptrs_get, ptrs_get, h2.2.1]
  by_cases hx : x = k
  · rw [if_pos hx, if_pos hx]; simp [hx]
  · rw [if_neg hx, if_neg hx]; simp [hx]
theorem ptrs_same {l : ML V} (h : Rising l) (k : List UInt8) (v : V) (hh : hasM l k = true) : ptrs f (putM l k v) = ptrs f l := by
  have h2 := putM_spec k v h
  refine rising_ext (ptrs_rise _ h2.1) (ptrs_rise _ h) fun x => ?_
  rw [ptrs_get, ptrs_get, h2.2.1]
  by_cases hx : x = k
  · subst hx
    rw [if_pos rfl]
    unfold hasM at hh
    cases hg : getM l x with
    | none => rw [hg] at hh; cases hh
    | some u => rfl
  · rw [if_neg hx]
theorem ptrs_del {l : ML V} (h : Rising l) (k : List UInt8) : delM (ptrs f l) k = ptrs f (delM l k) := by
  have h1 := delM_spec k (ptrs_rise f h)
  have h2 := delM_spec k h
  refine rising_ext h1.1 (ptrs_rise _ h2.1) fun x => ?_
  rw [h1.2.1, ptrs_get, ptrs_get, h2.2.1]
  by_cases hx : x = k
  · rw [if_pos hx, if_pos hx]; rfl
  · rw [if_neg hx, if_neg hx]
theorem ptrs_congr {l : ML V} (h : ∀ e ∈ l, f e.1 = g e.1) : ptrs f l = ptrs g l := by
  unfold ptrs
  exact List.map_congr_left fun e he => by rw [h e he]
end
theorem putM_self {V : Type} {l : ML V} (h : Rising l) {k : List UInt8} {v : V} (hg : getM l k = some v) : putM l k v = l := by
  have h2 := putM_spec k v h
  refine rising_ext h2.1 h fun x => ?_
  rw [h2.2.1]
  by_cases hx : x = k
  · subst hx; rw [if_pos rfl, hg]
  · rw [if_neg hx]
theorem has_of_get {V : Type} {l : ML V} {k : List UInt8} {v : V} (h : getM l k = some v) : hasM l k = true := by unfold hasM; rw [h]; rfl
theorem get_of_no {V : Type} {l : ML V} {k : List UInt8} (h : ¬ hasM l k = true) : getM l k = none := by
  unfold hasM at h
  cases hg : getM l k with
  | none => rfl
  | some v => rw [hg] at h; exact absurd rfl h

end Go.Proofs.YtfacfdjapjhpeaaGreatDoor
namespace Go.Proofs.YtfacfdjapjhpeaaGreatDoor
open Go.RowKit Go.Lib

def enEntTn (x : List UInt8 × Nat) : List Value := .string (bs x.1) :: ptE x.2
def meEntTn (l : ML Nat) : List Value := l.flatMap enEntTn
theorem enEntTn_len (x : List UInt8 × Nat) : (enEntTn x).length = 2 := rfl
theorem enEntTn_one (x : List UInt8 × Nat) : ∀ u ∈ enEntTn x, u.oneCell' = true := by
  intro u hu
  simp [enEntTn, ptE] at hu
  rcases hu with rfl | rfl <;> rfl
theorem meEntTn_one (l : ML Nat) : ∀ u ∈ meEntTn l, u.oneCell' = true := by
  intro u hu
  obtain ⟨x, _, h⟩ := List.mem_flatMap.1 hu
  exact enEntTn_one x u h
theorem meEntTn_at (l : ML Nat) (i : Nat) (h : i < l.length) (j : Nat) (hj : j < 2) : (meEntTn l)[i * 2 + j]? = (enEntTn l[i])[j]? := flat_at enEntTn 2 enEntTn_len l i h j hj

theorem find1EntTn_calls (w : World) (x : List UInt8 × Nat) (k : List UInt8) :
    Calls Tryz.prog 108 #[.agg (enEntTn x).toArray, .string (bs k)] w fun e w' => e = .returned (.int .i64 (compareBytes x.1 k)) ∧ w.alloc (.cells (enEntTn x).toArray 145) = w' := by
  obtain ⟨key, pv⟩ := x
  have hc := hd (scmp_calls (w.alloc (.cells (enEntTn (key, pv)).toArray 145)) key k)
  simp only [enEntTn, ptE] at hc ⊢
  go_enter Tryz.func108, Tryz.ntmps108
  go_wp2_with fail
  refine hc.o.mono ?_
  rintro e w1 ⟨rfl, rfl⟩
  go_wp2_with fail
  go_ret
  exact ⟨rfl, rfl⟩

set_option maxHeartbeats 1000000 in
theorem bsfEntTn_calls (w : World) (S : Nat → Prop) (A : Option Addr) (c : Nat) (l : ML Nat) (k : List UInt8) (hr : Row w S 145 2 A l.length c (meEntTn l)) (hs : Rising l) (hl : l.length ≤ 1000000) :
    Calls Tryz.prog 107 #[.slice A l.length c, .string (bs k), .func (.func 108) #[] #[]] w fun e w' => e = .returned (.tuple #[.int .i64 (place l k : Nat), .bool (hasM l k)]) ∧ Below w.heap.size w w' := by
  obtain ⟨n, hn⟩ : ∃ n, l.length = n := ⟨_, rfl⟩
  obtain ⟨p, hp⟩ : ∃ p, place l k = p := ⟨_, rfl⟩
  obtain ⟨q, hq⟩ : ∃ q, hasM l k = q := ⟨_, rfl⟩
  have hpn : p ≤ n := by rw [← hp, ← hn]; exact place_le l k
  have HQ : Hd (q = match l[p]? with | some x => decide (x.1 = k) | none => false) := hd (by
    rw [← hq, ← hp, hasM, getM_place hs]
    cases l[place l k]? with
    | none => rfl
    | some x => by_cases h : x.1 = k <;> simp [h])
  have HP := hd (fun t (ht : t < l.length) => hp ▸ place_lt (k := k) hs t ht)
  have hcell := hd (fun (t : Nat) (ht : t < n) => (show ∃ x : List UInt8 × Nat, l[t]? = some x ∧ (t < p ↔ compareBytes x.1 k < 0) ∧ ∀ j, j < 2 → (meEntTn l)[t * 2 + j]? = (enEntTn x)[j]? from
    ⟨l[t]'(by omega), by simp [hn, ht], HP.o t (by omega), fun j hj => meEntTn_at l t (by omega) j hj⟩))
  rw [hn] at hr hl ⊢
  rw [hp, hq]
  have hcap := hr.cap
  unfold maxLen at hcap
  clear hp hq hn HP
  go_enter Tryz.func107, Tryz.ntmps107
  go_wp2_with fail
  go_loopw [9, 10] (fun x y wr => ∃ lo hi : Nat, x = .int .i64 lo ∧ y = .int .i64 hi ∧ lo ≤ hi ∧ hi ≤ n ∧ lo ≤ p ∧ p ≤ hi ∧ Below w.heap.size w wr) (fun x y _ => (RowKit.intOf y - RowKit.intOf x).toNat)
  case atStart => exact ⟨0, n, rfl, rfl, by omega, by omega, by omega, hpn, Below.refl _ _⟩
  case round =>
    obtain ⟨lo, hi, rfl, rfl, h1, h2, h3, h4, hbe⟩ := hrel
    by_cases hlt : lo < hi
    · obtain ⟨m, hm⟩ : ∃ m, m = (lo + hi) / 2 := ⟨_, rfl⟩
      have hmi : ((lo : Int) + (hi : Int)) / 2 = (m : Int) := by omega
      have hm1 : lo ≤ m := by omega
      have hm2 : m < hi := by omega
      have hm3 : m < n := by omega
      obtain ⟨g, rfl, _, hg, _, _, hc, _⟩ := hr.at_ (by omega)
      obtain ⟨x, hx, hxp, hxc⟩ := hcell.o m hm3
      have hcc : ∀ j v, j < 2 → (enEntTn x)[j]? = some v → wr.cell? ⟨g, m * 2 + j, none⟩ = some v := fun j v hj hv => (hbe.cell (p := ⟨g, m * 2 + j, none⟩) hg).trans (hc _ _ ((hxc j hj).trans hv))
      obtain ⟨key, pv⟩ := x
      (have k0 := hcc 0 _ (by omega) rfl; have k1 := hcc 1 _ (by omega) rfl; rw [Nat.add_zero] at k0)
      have hf := hd (find1EntTn_calls wr (key, pv) k)
      simp only [enEntTn, ptE] at hf
      obtain ⟨z, hz⟩ : ∃ z, compareBytes key k = z := ⟨_, rfl⟩
      simp only at hxp
      rw [hz] at hxp hf
      have HXP := hd hxp
      clear hm hx hxc hcc hc hr hxp hz
      by_cases hzl : z < 0
      · go_wp2_with (go_at_call 108; refine hf.o.mono ?_; rintro e w1 ⟨rfl, rfl⟩)
        have hmp := HXP.o.2 hzl
        go_roundw
        case rel => exact ⟨m + 1, hi, by go_num, rfl, by omega, by omega, by omega, by omega, hbe.alloc hbe.size _⟩
        case measure => simp [RowKit.intOf]; omega
      · have hmp : p ≤ m := Nat.le_of_not_lt (fun h => hzl (HXP.o.1 h))
        go_wp2_with (go_at_call 108; refine hf.o.mono ?_; rintro e w1 ⟨rfl, rfl⟩)
        go_roundw
        case rel => exact ⟨lo, m, rfl, by go_num, by omega, by omega, by omega, by omega, hbe.alloc hbe.size _⟩
        case measure => simp [RowKit.intOf]; omega
    · obtain rfl : hi = lo := by omega
      obtain rfl : p = hi := by omega
      by_cases hpn' : p < n
      · obtain ⟨g, rfl, _, hg, _, _, hc, _⟩ := hr.at_ (by omega)
        obtain ⟨x, hx, hxp, hxc⟩ := hcell.o p hpn'
        have hcc : ∀ j v, j < 2 → (enEntTn x)[j]? = some v → wr.cell? ⟨g, p * 2 + j, none⟩ = some v := fun j v hj hv => (hbe.cell (p := ⟨g, p * 2 + j, none⟩) hg).trans (hc _ _ ((hxc j hj).trans hv))
        obtain ⟨key, pv⟩ := x
        obtain ⟨m, hm⟩ : ∃ m, m = p := ⟨_, rfl⟩
        have HQ2 : Hd (q = decide (compareBytes key k = 0)) := hd (by
          rw [HQ.o, hx]
          show decide (key = k) = _
          by_cases h : key = k
          · rw [h, cmp_self]; simp
          · have : compareBytes key k ≠ 0 := fun e => h (cmp_zero e)
            simp [h, this])
        rw [← hm] at hcc hpn'
        (have k0 := hcc 0 _ (by omega) rfl; have k1 := hcc 1 _ (by omega) rfl; rw [Nat.add_zero] at k0)
        have hf := hd (find1EntTn_calls wr (key, pv) k)
        simp only [enEntTn, ptE] at hf
        obtain ⟨z, hz⟩ : ∃ z, compareBytes key k = z := ⟨_, rfl⟩
        rw [hz] at hf HQ2
        subst hm
        clear hx hxp hxc hcc hc hr hz HQ hcell
        go_wp2_with (go_at_call 108; refine hf.o.mono ?_; rintro e w1 ⟨rfl, rfl⟩)
        all_goals
          go_ret2
          refine ⟨ret_val ?_, hbe.alloc hbe.size _⟩
          rw [HQ2.o]
          first | rfl | (congr 2; simp_all) | simp_all
      · have HQ2 : Hd (q = false) := hd (by
          have e : l[p]? = none := by
            by_cases h : p < l.length
            · exfalso
              have hn2 := hr.len
              rw [meEntTn, flat_length enEntTn 2 enEntTn_len] at hn2
              omega
            · simp; omega
          rw [HQ.o, e])
        clear HQ hcell hr
        go_wp2
        go_ret2
        exact ⟨ret_val (by rw [HQ2.o]; first | rfl | simp), hbe⟩

end Go.Proofs.YtfacfdjapjhpeaaGreatDoor
