/-
  A book in memory: each block has a label.
-/
import Derived.Test.YtfacfdjapjhpeaaGreatDoorGAJ
import Derived.Test.YtfacfdjapjhpeaaGreatDoorGAK
import Derived.Test.YtfacfdjapjhpeaaGreatDoorGAF
import Derived.BigQuiet
import Derived.Deep.QuietTactic
import Derived.BigRegion
import Derived.Deep.RegionWith
set_option linter.unusedVariables false
set_option linter.unusedSimpArgs false
namespace Go.Proofs.YtfacfdjapjhpeaaGreatDoor
open Go.RowKit Go.Lib

/-- What a block is for. -/
inductive Lab where
  | no
  | bk
  | bm
  | tn (nm : List UInt8)
  | bu (nm : List UInt8)
  | tm (nm : List UInt8)
  | cl (nm cn : List UInt8)
def quE (q : Qt) : List Value := [.int .i64 q.cols, .int .i64 q.cards, .int .i64 q.bytes, .int .i64 q.log]
def cfE (c : Cf) : List Value := [.int .i64 c.conns, .int .i64 c.start, .int .i64 c.room, .int .i64 c.shards, .int .i64 c.q.cols, .int .i64 c.q.cards, .int .i64 c.q.bytes, .int .i64 c.q.log]
def bkE (c : Cf) (ctr : Int) (mb : Nat) : Array Value := #[.int .i64 c.conns, .int .i64 c.start, .int .i64 c.room, .int .i64 c.shards, .int .i64 c.q.cols, .int .i64 c.q.cards, .int .i64 c.q.bytes, .int .i64 c.q.log, .int .i64 ctr, .pointer (some ⟨mb, 0, none⟩)]
def buE (q : Qt) (n by_ : Int) : Array Value := #[.int .i64 q.cols, .int .i64 q.cards, .int .i64 q.bytes, .int .i64 q.log, .int .i64 n, .int .i64 by_]

/-- A tenant. -/
structure TnR (w : World) (lam : Nat → Lab) (t bu o : Nat) (cb : List UInt8 → Nat) (Q : Qt) (nm : List UInt8) (cs : ML Cs) : Prop where
  blk : Blk w t 110 #[.pointer (some ⟨o, 0, none⟩), .pointer (some ⟨bu, 0, none⟩)]
  lt : lam t = .tn nm
  bud : Blk w bu 147 (buE Q (cs.length : Nat) (bytesT cs))
  lbu : lam bu = .bu nm
  om : OmEntCp w (fun k => lam k = .tm nm) o (ptrs cb cs)
  col : ∀ e ∈ cs, ColR w (fun k => lam k = .cl nm e.1) (cb e.1) e.2
/-- Where all lies. -/
structure Lay where
  lam : Nat → Lab
  tb : List UInt8 → Nat
  bb : List UInt8 → Nat
  ob : List UInt8 → Nat
  cb : List UInt8 → List UInt8 → Nat
  mb : Nat
structure BookR (w : World) (y : Lay) (b : Nat) (c : Cf) (st : BkS) : Prop where
  blk : Blk w b 98 (bkE c st.ctr y.mb)
  lb : y.lam b = .bk
  om : OmEntTn w (fun k => y.lam k = .bm) y.mb (ptrs y.tb st.ts)
  lt : ∀ k, y.lam k ≠ .no → k < w.heap.size
  ten : ∀ e ∈ st.ts, TnR w y.lam (y.tb e.1) (y.bb e.1) (y.ob e.1) (y.cb e.1) c.q e.1 e.2

theorem TnR.chg {w w' : World} {lam : Nat → Lab} {t bu o : Nat} {cb : List UInt8 → Nat} {Q : Qt} {nm : List UInt8} {cs : ML Cs} {T : Nat → Prop} (h : TnR w lam t bu o cb Q nm cs) (hc : Chg T w w')
    (h1 : ∀ k, T k → lam k ≠ .tn nm ∧ lam k ≠ .bu nm ∧ lam k ≠ .tm nm ∧ ∀ cn, lam k ≠ .cl nm cn) : TnR w' lam t bu o cb Q nm cs :=
  ⟨h.blk.chg hc (fun k => (h1 _ k).1 h.lt), h.lt, h.bud.chg hc (fun k => (h1 _ k).2.1 h.lbu), h.lbu, h.om.chg hc (fun k hk ht => (h1 k ht).2.2.1 hk), fun e he => (h.col e he).chg hc (fun k hk ht => (h1 k ht).2.2.2 _ hk)⟩
theorem BookR.chg {w w' : World} {y : Lay} {b : Nat} {c : Cf} {st : BkS} {T : Nat → Prop} (h : BookR w y b c st) (hc : Chg T w w') (h1 : ∀ k, T k → y.lam k = .no) : BookR w' y b c st :=
  ⟨h.blk.chg hc (fun k => by have := h1 _ k; rw [h.lb] at this; cases this), h.lb, h.om.chg hc (fun k hk ht => by have := h1 _ ht; rw [hk] at this; cases this), fun k hk => Nat.lt_of_lt_of_le (h.lt k hk) hc.size,
    fun e he => (h.ten e he).chg hc (fun k hk => by rw [h1 k hk]; exact ⟨nofun, nofun, nofun, fun _ => nofun⟩)⟩
theorem BookR.below {w w' : World} {y : Lay} {b : Nat} {c : Cf} {st : BkS} (h : BookR w y b c st) (hb : Below w.heap.size w w') : BookR w' y b c st := h.chg (Chg.of_below Non hb) (fun _ h => h.elim)
/-- New blocks get a label. -/
def relab (lam : Nat → Lab) (lo hi : Nat) (L : Lab) : Nat → Lab := fun k => if lo ≤ k ∧ k < hi then L else lam k
theorem relab_old {lam : Nat → Lab} {lo hi : Nat} {L : Lab} {k : Nat} (h : k < lo) : relab lam lo hi L k = lam k := by unfold relab; rw [if_neg (by omega)]
theorem relab_new {lam : Nat → Lab} {lo hi : Nat} {L : Lab} {k : Nat} (h : lo ≤ k) (h2 : k < hi) : relab lam lo hi L k = L := by unfold relab; rw [if_pos ⟨h, h2⟩]
theorem relab_or {lam : Nat → Lab} {lo hi : Nat} {L : Lab} (k : Nat) : relab lam lo hi L k = lam k ∨ (relab lam lo hi L k = L ∧ lo ≤ k ∧ k < hi) := by
  unfold relab
  split
  · rename_i h; exact .inr ⟨rfl, h⟩
  · exact .inl rfl

theorem TnR.lab {w : World} {lam lam' : Nat → Lab} {t bu o : Nat} {cb : List UInt8 → Nat} {Q : Qt} {nm : List UInt8} {cs : ML Cs} (h : TnR w lam t bu o cb Q nm cs) (hl : ∀ k, lam k ≠ .no → lam' k = lam k) : TnR w lam' t bu o cb Q nm cs := by
  have e : ∀ {k : Nat} {L : Lab}, lam k = L → L ≠ .no → lam' k = L := fun {k L} hk hn => (hl k (by rw [hk]; exact hn)).trans hk
  exact ⟨h.blk, e h.lt nofun, h.bud, e h.lbu nofun, h.om.mono (fun k hk => e hk nofun), fun x hx => (h.col x hx).mono (fun k hk => e hk nofun)⟩
theorem BookR.lab {w : World} {y : Lay} {b : Nat} {c : Cf} {st : BkS} (h : BookR w y b c st) {lam' : Nat → Lab} (hl : ∀ k, y.lam k ≠ .no → lam' k = y.lam k) (hlt : ∀ k, lam' k ≠ .no → k < w.heap.size) : BookR w { y with lam := lam' } b c st := by
  have e : ∀ {k : Nat} {L : Lab}, y.lam k = L → L ≠ .no → lam' k = L := fun {k L} hk hn => (hl k (by rw [hk]; exact hn)).trans hk
  exact ⟨h.blk, e h.lb nofun, h.om.mono (fun k hk => e hk nofun), hlt, fun x hx => (h.ten x hx).lab hl⟩

/-- A book, one of its tenants looked at. -/
structure BkV (w : World) (y : Lay) (b : Nat) (c : Cf) (ctr : Int) (ts : ML (ML Cs)) (nm : List UInt8) (n by_ : Int) (cs : ML Cs) : Prop where
  blk : Blk w b 98 (bkE c ctr y.mb)
  lb : y.lam b = .bk
  om : OmEntTn w (fun k => y.lam k = .bm) y.mb (ptrs y.tb ts)
  lt : ∀ k, y.lam k ≠ .no → k < w.heap.size
  oth : ∀ e ∈ ts, e.1 ≠ nm → TnR w y.lam (y.tb e.1) (y.bb e.1) (y.ob e.1) (y.cb e.1) c.q e.1 e.2
  rise : Rising ts
  has : hasM ts nm = true
  tblk : Blk w (y.tb nm) 110 #[.pointer (some ⟨y.ob nm, 0, none⟩), .pointer (some ⟨y.bb nm, 0, none⟩)]
  tlt : y.lam (y.tb nm) = .tn nm
  bud : Blk w (y.bb nm) 147 (buE c.q n by_)
  lbu : y.lam (y.bb nm) = .bu nm
  tom : OmEntCp w (fun k => y.lam k = .tm nm) (y.ob nm) (ptrs (y.cb nm) cs)
  col : ∀ e ∈ cs, ColR w (fun k => y.lam k = .cl nm e.1) (y.cb nm e.1) e.2

theorem BookR.open_ {w : World} {y : Lay} {b : Nat} {c : Cf} {st : BkS} (h : BookR w y b c st) (hr : Rising st.ts) {nm : List UInt8} {cs : ML Cs} (hg : getM st.ts nm = some cs) : BkV w y b c st.ctr st.ts nm (cs.length : Nat) (bytesT cs) cs := by
  have ht := h.ten _ (getM_mem hg)
  exact ⟨h.blk, h.lb, h.om, h.lt, fun e he _ => h.ten e he, hr, has_of_get hg, ht.blk, ht.lt, ht.bud, ht.lbu, ht.om, ht.col⟩
theorem BkV.shut {w : World} {y : Lay} {b : Nat} {c : Cf} {ctr : Int} {ts : ML (ML Cs)} {nm : List UInt8} {n by_ : Int} {cs : ML Cs} (h : BkV w y b c ctr ts nm n by_ cs) (hn : n = (cs.length : Nat)) (hb : by_ = bytesT cs) : BookR w y b c ⟨ctr, putM ts nm cs⟩ := by
  subst hn hb
  have hp := putM_spec nm cs h.rise
  refine ⟨h.blk, h.lb, ?_, h.lt, fun e he => ?_⟩
  · show OmEntTn w _ y.mb (ptrs y.tb (putM ts nm cs))
    rw [ptrs_same _ h.rise _ _ h.has]
    exact h.om
  · by_cases hx : e.1 = nm
    · have h1 := mem_getM hp.1 (show (e.1, e.2) ∈ putM ts nm cs from he)
      rw [hp.2.1, if_pos hx] at h1
      injection h1 with h1
      rw [← h1, hx]
      exact ⟨h.tblk, h.tlt, h.bud, h.lbu, h.tom, h.col⟩
    · rcases hp.2.2 e he with rfl | he
      · exact absurd rfl hx
      · exact h.oth e he hx
theorem BkV.chg {w w' : World} {y : Lay} {b : Nat} {c : Cf} {ctr : Int} {ts : ML (ML Cs)} {nm : List UInt8} {n by_ : Int} {cs : ML Cs} {T : Nat → Prop} (h : BkV w y b c ctr ts nm n by_ cs) (hc : Chg T w w') (h1 : ∀ k, T k → y.lam k = .no) : BkV w' y b c ctr ts nm n by_ cs :=
  ⟨h.blk.chg hc (fun k => by have := h1 _ k; rw [h.lb] at this; cases this), h.lb, h.om.chg hc (fun k hk ht => by have := h1 _ ht; rw [hk] at this; cases this), fun k hk => Nat.lt_of_lt_of_le (h.lt k hk) hc.size,
    fun e he hn => (h.oth e he hn).chg hc (fun k hk => by rw [h1 k hk]; exact ⟨nofun, nofun, nofun, fun _ => nofun⟩), h.rise, h.has, h.tblk.chg hc (fun k => by have := h1 _ k; rw [h.tlt] at this; cases this), h.tlt,
    h.bud.chg hc (fun k => by have := h1 _ k; rw [h.lbu] at this; cases this), h.lbu, h.tom.chg hc (fun k hk ht => by have := h1 _ ht; rw [hk] at this; cases this), fun e he => (h.col e he).chg hc (fun k hk ht => by have := h1 _ ht; rw [hk] at this; cases this)⟩
theorem BkV.below {w w' : World} {y : Lay} {b : Nat} {c : Cf} {ctr : Int} {ts : ML (ML Cs)} {nm : List UInt8} {n by_ : Int} {cs : ML Cs} (h : BkV w y b c ctr ts nm n by_ cs) (hb : Below w.heap.size w w') : BkV w' y b c ctr ts nm n by_ cs := h.chg (Chg.of_below Non hb) (fun _ h => h.elim)
section
variable {w w' : World} {y : Lay} {b : Nat} {c : Cf} {ctr : Int} {ts : ML (ML Cs)} {nm : List UInt8} {n by_ : Int} {cs : ML Cs}
/-- The counter is turned. -/
theorem BkV.draw (h : BkV w y b c ctr ts nm n by_ cs) (x : Int) : BkV (w.setCell ⟨b, 8, none⟩ (.int .i64 x)) y b c x ts nm n by_ cs := by
  have hc : Chg (fun k => y.lam k = .bk) w (w.setCell ⟨b, 8, none⟩ (.int .i64 x)) := (Chg.refl _ w).setCell (.inl h.lb) _
  refine ⟨h.blk.set_ 8 _, h.lb, h.om.chg hc (fun k hk ht => by rw [hk] at ht; cases ht), fun k hk => Nat.lt_of_lt_of_le (h.lt k hk) hc.size,
    fun e he hn => (h.oth e he hn).chg hc (fun k hk => by rw [hk]; exact ⟨nofun, nofun, nofun, fun _ => nofun⟩), h.rise, h.has, h.tblk.chg hc (fun k => by rw [h.tlt] at k; cases k), h.tlt,
    h.bud.chg hc (fun k => by rw [h.lbu] at k; cases k), h.lbu, h.tom.chg hc (fun k hk ht => by rw [hk] at ht; cases ht), fun e he => (h.col e he).chg hc (fun k hk ht => by rw [hk] at ht; cases ht)⟩
/-- The budget is turned. -/
theorem BkV.budget (h : BkV w y b c ctr ts nm n by_ cs) {n' by' : Int} (hc : Chg (One (y.bb nm)) w w') (hb : Blk w' (y.bb nm) 147 (buE c.q n' by')) : BkV w' y b c ctr ts nm n' by' cs := by
  have hl : ∀ k, One (y.bb nm) k → y.lam k = .bu nm := fun k hk => by cases hk; exact h.lbu
  refine ⟨h.blk.chg hc (fun k => by have := hl _ k; rw [h.lb] at this; cases this), h.lb, h.om.chg hc (fun k hk ht => by have := hl _ ht; rw [hk] at this; cases this), fun k hk => Nat.lt_of_lt_of_le (h.lt k hk) hc.size,
    fun e he hn => (h.oth e he hn).chg hc (fun k hk => by rw [hl k hk]; exact ⟨nofun, fun h => hn (by injection h with h; exact h.symm), nofun, fun _ => nofun⟩), h.rise, h.has, h.tblk.chg hc (fun k => by have := hl _ k; rw [h.tlt] at this; cases this), h.tlt,
    hb, h.lbu, h.tom.chg hc (fun k hk ht => by have := hl _ ht; rw [hk] at this; cases this), fun e he => (h.col e he).chg hc (fun k hk ht => by have := hl _ ht; rw [hk] at this; cases this)⟩
/-- What was made from lo on gets a label. -/
def Lay.to (y : Lay) (lo hi : Nat) (L : Lab) : Lay := { y with lam := relab y.lam lo hi L }
theorem BkV.keep (h : BkV w y b c ctr ts nm n by_ cs) {k : Nat} {L : Lab} (hk : y.lam k = L) (hn : L ≠ .no) (hi : Nat) (L' : Lab) : (y.to w.heap.size hi L').lam k = L := by
  show relab y.lam _ _ _ k = L
  rw [relab_old (h.lt k (by rw [hk]; exact hn)), hk]
/-- One collection is turned. -/
theorem BkV.one (h : BkV w y b c ctr ts nm n by_ cs) {cn : List UInt8} {s' : Cs} (hr : Rising cs) (hh : hasM cs cn = true) (hc : Chg (fun k => y.lam k = .cl nm cn) w w') (hC : ColR w' (Plus (fun k => y.lam k = .cl nm cn) w.heap.size) (y.cb nm cn) s') :
    BkV w' (y.to w.heap.size w'.heap.size (.cl nm cn)) b c ctr ts nm n by_ (putM cs cn s') := by
  have hp := putM_spec cn s' hr
  have e : ∀ {k : Nat} {L : Lab}, y.lam k = L → L ≠ .no → (y.to w.heap.size w'.heap.size (.cl nm cn)).lam k = L := fun hk hn => h.keep hk hn _ _
  refine ⟨h.blk.chg hc (fun k => by rw [h.lb] at k; cases k), e h.lb nofun, (h.om.chg hc (fun k hk ht => by rw [hk] at ht; cases ht)).mono (fun k hk => e hk nofun), fun k hk => ?_,
    fun x hx hn => ((h.oth x hx hn).chg hc (fun k hk => by rw [hk]; exact ⟨nofun, nofun, nofun, fun _ h => hn (by injection h with h; exact h.symm)⟩)).lab (fun k hk => h.keep rfl hk _ _), h.rise, h.has, h.tblk.chg hc (fun k => by rw [h.tlt] at k; cases k), e h.tlt nofun,
    h.bud.chg hc (fun k => by rw [h.lbu] at k; cases k), e h.lbu nofun, ?_, fun x hx => ?_⟩
  · rcases relab_or (lam := y.lam) (lo := w.heap.size) (hi := w'.heap.size) (L := .cl nm cn) k with h1 | ⟨_, _, h1⟩
    · exact Nat.lt_of_lt_of_le (h.lt k (by rw [← h1]; exact hk)) hc.size
    · exact h1
  · show OmEntCp w' _ (y.ob nm) (ptrs (y.cb nm) (putM cs cn s'))
    rw [ptrs_same _ hr _ _ hh]
    exact (h.tom.chg hc (fun k hk ht => by rw [hk] at ht; cases ht)).mono (fun k hk => e hk nofun)
  · by_cases hxc : x.1 = cn
    · have h1 := mem_getM hp.1 (show (x.1, x.2) ∈ putM cs cn s' from hx)
      rw [hp.2.1, if_pos hxc] at h1
      injection h1 with h1
      rw [← h1, hxc]
      refine hC.shrink.mono (fun k hk => ?_)
      rcases hk.1 with h2 | h2
      · exact e h2 nofun
      · exact relab_new h2 hk.2
    · rcases hp.2.2 x hx with rfl | hx
      · exact absurd rfl hxc
      · exact ((h.col x hx).chg hc (fun k hk ht => by rw [hk] at ht; injection ht with _ ht; exact hxc ht)).mono (fun k hk => e hk nofun)
/-- One collection less. -/
theorem BkV.less (h : BkV w y b c ctr ts nm n by_ cs) {cn : List UInt8} (hr : Rising cs) (hc : Chg (fun k => y.lam k = .tm nm) w w') (hO : OmEntCp w' (Plus (fun k => y.lam k = .tm nm) w.heap.size) (y.ob nm) (delM (ptrs (y.cb nm) cs) cn)) :
    BkV w' (y.to w.heap.size w'.heap.size (.tm nm)) b c ctr ts nm n by_ (delM cs cn) := by
  have hp := delM_spec cn hr
  have e : ∀ {k : Nat} {L : Lab}, y.lam k = L → L ≠ .no → (y.to w.heap.size w'.heap.size (.tm nm)).lam k = L := fun hk hn => h.keep hk hn _ _
  refine ⟨h.blk.chg hc (fun k => by rw [h.lb] at k; cases k), e h.lb nofun, (h.om.chg hc (fun k hk ht => by rw [hk] at ht; cases ht)).mono (fun k hk => e hk nofun), fun k hk => ?_,
    fun x hx hn => ((h.oth x hx hn).chg hc (fun k hk => by rw [hk]; exact ⟨nofun, nofun, fun h => hn (by injection h with h; exact h.symm), fun _ => nofun⟩)).lab (fun k hk => h.keep rfl hk _ _), h.rise, h.has, h.tblk.chg hc (fun k => by rw [h.tlt] at k; cases k), e h.tlt nofun,
    h.bud.chg hc (fun k => by rw [h.lbu] at k; cases k), e h.lbu nofun, ?_, fun x hx => ?_⟩
  · rcases relab_or (lam := y.lam) (lo := w.heap.size) (hi := w'.heap.size) (L := .tm nm) k with h1 | ⟨_, _, h1⟩
    · exact Nat.lt_of_lt_of_le (h.lt k (by rw [← h1]; exact hk)) hc.size
    · exact h1
  · show OmEntCp w' _ (y.ob nm) (ptrs (y.cb nm) (delM cs cn))
    rw [← ptrs_del _ hr]
    refine hO.shrink.mono (fun k hk => ?_)
    rcases hk.1 with h2 | h2
    · exact e h2 nofun
    · exact relab_new h2 hk.2
  · exact ((h.col x (hp.2.2 x hx)).chg hc (fun k hk ht => by rw [hk] at ht; cases ht)).mono (fun k hk => e hk nofun)
/-- A collection was made; it is not yet among the tenant's. -/
def Lay.col (y : Lay) (lo hi : Nat) (nm cn : List UInt8) (x : Nat) : Lay := { y with lam := relab y.lam lo hi (.cl nm cn), cb := fun a d => if a = nm ∧ d = cn then x else y.cb a d }
theorem BkV.made (h : BkV w y b c ctr ts nm n by_ cs) {cn : List UInt8} {x : Nat} {s : Cs} (hr : Rising cs) (hh : hasM cs cn = false) (hc : Below w.heap.size w w') (hC : ColR w' (From w.heap.size) x s) :
    BkV w' (y.col w.heap.size w'.heap.size nm cn x) b c ctr ts nm n by_ cs ∧ ColR w' (fun k => (y.col w.heap.size w'.heap.size nm cn x).lam k = .cl nm cn) x s := by
  have e : ∀ {k : Nat} {L : Lab}, y.lam k = L → L ≠ .no → relab y.lam w.heap.size w'.heap.size (.cl nm cn) k = L := fun {k L} hk hn => by rw [relab_old (h.lt k (by rw [hk]; exact hn)), hk]
  have hb := h.below hc
  have hcb : ∀ a d, a ≠ nm → (y.col w.heap.size w'.heap.size nm cn x).cb a d = y.cb a d := fun a d ha => if_neg (fun h => ha h.1)
  have hcn : ∀ e ∈ cs, e.1 ≠ cn := fun e he hx => by
    have := mem_getM hr (show (e.1, e.2) ∈ cs from he)
    rw [hx] at this
    rw [has_of_get this] at hh
    cases hh
  have hcd : ∀ e ∈ cs, (y.col w.heap.size w'.heap.size nm cn x).cb nm e.1 = y.cb nm e.1 := fun e he => if_neg (fun h => hcn e he h.2)
  refine ⟨⟨hb.blk, e h.lb nofun, hb.om.mono (fun k hk => e hk nofun), fun k hk => ?_, fun z hz hn => ?_, h.rise, h.has, hb.tblk, e h.tlt nofun, hb.bud, e h.lbu nofun, ?_, fun z hz => ?_⟩, ?_⟩
  · rcases relab_or (lam := y.lam) (lo := w.heap.size) (hi := w'.heap.size) (L := .cl nm cn) k with h1 | ⟨_, _, h1⟩
    · exact Nat.lt_of_lt_of_le (h.lt k (by rw [← h1]; exact hk)) hc.size
    · exact h1
  · have e1 : (y.col w.heap.size w'.heap.size nm cn x).cb z.1 = y.cb z.1 := funext fun d => hcb _ _ hn
    show TnR w' _ (y.tb z.1) (y.bb z.1) (y.ob z.1) ((y.col w.heap.size w'.heap.size nm cn x).cb z.1) c.q z.1 z.2
    rw [e1]
    exact (hb.oth z hz hn).lab (fun k hk => e rfl hk)
  · show OmEntCp w' _ (y.ob nm) (ptrs ((y.col w.heap.size w'.heap.size nm cn x).cb nm) cs)
    rw [ptrs_congr _ (y.cb nm) hcd]
    exact hb.tom.mono (fun k hk => e hk nofun)
  · rw [hcd z hz]
    exact (hb.col z hz).mono (fun k hk => e hk nofun)
  · refine hC.shrink.mono (fun k hk => ?_)
    exact relab_new hk.1 hk.2
theorem BkV.more (h : BkV w y b c ctr ts nm n by_ cs) {cn : List UInt8} {s : Cs} (hr : Rising cs) (hx : ColR w (fun k => y.lam k = .cl nm cn) (y.cb nm cn) s) (hc : Chg (fun k => y.lam k = .tm nm) w w') (hO : OmEntCp w' (Plus (fun k => y.lam k = .tm nm) w.heap.size) (y.ob nm) (putM (ptrs (y.cb nm) cs) cn (y.cb nm cn))) :
    BkV w' (y.to w.heap.size w'.heap.size (.tm nm)) b c ctr ts nm n by_ (putM cs cn s) := by
  have hp := putM_spec cn s hr
  have e : ∀ {k : Nat} {L : Lab}, y.lam k = L → L ≠ .no → (y.to w.heap.size w'.heap.size (.tm nm)).lam k = L := fun hk hn => h.keep hk hn _ _
  refine ⟨h.blk.chg hc (fun k => by rw [h.lb] at k; cases k), e h.lb nofun, (h.om.chg hc (fun k hk ht => by rw [hk] at ht; cases ht)).mono (fun k hk => e hk nofun), fun k hk => ?_,
    fun x hx hn => ((h.oth x hx hn).chg hc (fun k hk => by rw [hk]; exact ⟨nofun, nofun, fun h => hn (by injection h with h; exact h.symm), fun _ => nofun⟩)).lab (fun k hk => h.keep rfl hk _ _), h.rise, h.has, h.tblk.chg hc (fun k => by rw [h.tlt] at k; cases k), e h.tlt nofun,
    h.bud.chg hc (fun k => by rw [h.lbu] at k; cases k), e h.lbu nofun, ?_, fun z hz => ?_⟩
  · rcases relab_or (lam := y.lam) (lo := w.heap.size) (hi := w'.heap.size) (L := .tm nm) k with h1 | ⟨_, _, h1⟩
    · exact Nat.lt_of_lt_of_le (h.lt k (by rw [← h1]; exact hk)) hc.size
    · exact h1
  · show OmEntCp w' _ (y.ob nm) (ptrs (y.cb nm) (putM cs cn s))
    rw [ptrs_put _ hr cn s (y.cb nm cn)] at hO
    rw [ptrs_congr (y.cb nm) (fun z => if z = cn then y.cb nm cn else y.cb nm z) (fun z _ => by show _ = if _ then _ else _; split; rename_i hz; rw [hz]; rfl)]
    refine hO.shrink.mono (fun k hk => ?_)
    rcases hk.1 with h2 | h2
    · exact e h2 nofun
    · exact relab_new h2 hk.2
  · have hcz : ∀ {z : List UInt8 × Cs}, ColR w (fun k => y.lam k = .cl nm z.1) (y.cb nm z.1) z.2 → ColR w' (fun k => (y.to w.heap.size w'.heap.size (.tm nm)).lam k = .cl nm z.1) (y.cb nm z.1) z.2 := fun hz => (hz.chg hc (fun k hk ht => by rw [hk] at ht; cases ht)).mono (fun k hk => e hk nofun)
    rcases hp.2.2 z hz with rfl | hz
    · exact hcz (z := (cn, s)) hx
    · exact hcz (h.col z hz)

end

/-- Blocks that get a meaning are new. -/
def Lay.Sub (y y' : Lay) (B : Nat) : Prop := ∀ k, y'.lam k ≠ .no → y.lam k ≠ .no ∨ B ≤ k
theorem Lay.Sub.refl (y : Lay) (B : Nat) : y.Sub y B := fun _ h => .inl h
theorem Lay.Sub.trans {y y' y'' : Lay} {B B' : Nat} (h : y.Sub y' B) (h' : y'.Sub y'' B') (hB : B ≤ B') : y.Sub y'' B := fun k hk => by
  rcases h' k hk with h1 | h1
  · exact h k h1
  · exact .inr (by omega)
theorem relab_sub {lam : Nat → Lab} {lo hi : Nat} {L : Lab} {B : Nat} (hB : B ≤ lo) {k : Nat} (h : relab lam lo hi L k ≠ .no) : lam k ≠ .no ∨ B ≤ k := by
  rcases relab_or (lam := lam) (lo := lo) (hi := hi) (L := L) k with h1 | ⟨_, h1, _⟩
  · exact .inl (by rw [← h1]; exact h)
  · exact .inr (by omega)
theorem Lay.to_sub (y : Lay) {lo B : Nat} (hi : Nat) (L : Lab) (hB : B ≤ lo) : y.Sub (y.to lo hi L) B := fun _ hk => relab_sub hB hk
theorem Lay.col_sub (y : Lay) {lo B : Nat} (hi : Nat) (nm cn : List UInt8) (x : Nat) (hB : B ≤ lo) : y.Sub (y.col lo hi nm cn x) B := fun _ hk => relab_sub hB hk

/-- A tenant was made. -/
def Lay.ten (y : Lay) (lo hi : Nat) (nm : List UInt8) (t bu o : Nat) : Lay :=
  { lam := fun k => if lo ≤ k ∧ k < hi then .bm else if k = t then .tn nm else if k = bu then .bu nm else if k = o then .tm nm else y.lam k, tb := fun a => if a = nm then t else y.tb a, bb := fun a => if a = nm then bu else y.bb a, ob := fun a => if a = nm then o else y.ob a, cb := y.cb, mb := y.mb }
theorem BookR.tenant {w w1 w2 : World} {y : Lay} {b : Nat} {c : Cf} {st : BkS} {nm : List UInt8} {t bu o : Nat} (h : BookR w y b c st) (hr : Rising st.ts) (hg : hasM st.ts nm = false) (hb : Below w.heap.size w w1)
    (ht : Blk w1 t 110 #[.pointer (some ⟨o, 0, none⟩), .pointer (some ⟨bu, 0, none⟩)]) (hbu : Blk w1 bu 147 (buE c.q 0 0)) (hO : OmEntCp w1 (One o) o []) (gt : w.heap.size ≤ t) (gbu : w.heap.size ≤ bu) (go : w.heap.size ≤ o)
    (n1 : t ≠ bu) (n2 : t ≠ o) (n3 : bu ≠ o) (hc : Chg (fun k => y.lam k = .bm) w1 w2) (hM : OmEntTn w2 (Plus (fun k => y.lam k = .bm) w1.heap.size) y.mb (putM (ptrs y.tb st.ts) nm t)) :
    BookR w2 (y.ten w1.heap.size w2.heap.size nm t bu o) b c ⟨st.ctr, putM st.ts nm []⟩ ∧ y.Sub (y.ten w1.heap.size w2.heap.size nm t bu o) w.heap.size := by
  have h1 := h.below hb
  have hs := hb.size
  have hs2 := hc.size
  have lt := ht.lt
  have lbu := hbu.lt
  have lo := hO.lt
  have e : ∀ {k : Nat} {L : Lab}, y.lam k = L → L ≠ .no → (y.ten w1.heap.size w2.heap.size nm t bu o).lam k = L := fun {k L} hk hn => by
    have hkl := h.lt k (by rw [hk]; exact hn)
    show (if _ then _ else _) = L
    rw [if_neg (by omega), if_neg (by omega), if_neg (by omega), if_neg (by omega), hk]
  have et : (y.ten w1.heap.size w2.heap.size nm t bu o).lam t = .tn nm := by show (if _ then _ else _) = _; rw [if_neg (by omega), if_pos rfl]
  have eb : (y.ten w1.heap.size w2.heap.size nm t bu o).lam bu = .bu nm := by show (if _ then _ else _) = _; rw [if_neg (by omega), if_neg (by omega), if_pos rfl]
  have eo : (y.ten w1.heap.size w2.heap.size nm t bu o).lam o = .tm nm := by show (if _ then _ else _) = _; rw [if_neg (by omega), if_neg (by omega), if_neg (by omega), if_pos rfl]
  have nn : ∀ {k : Nat}, w.heap.size ≤ k → y.lam k = .no := fun {k} hk => by
    cases hl : y.lam k with
    | no => rfl
    | _ => have := h.lt k (by rw [hl]; exact nofun); omega
  have hp := putM_spec nm ([] : ML Cs) hr
  refine ⟨⟨h1.blk.chg hc (fun k => by rw [h.lb] at k; cases k), e h.lb nofun, ?_, fun k hk => ?_, fun x hx => ?_⟩, fun k hk => ?_⟩
  · show OmEntTn w2 _ y.mb (ptrs (fun a => if a = nm then t else y.tb a) (putM st.ts nm []))
    rw [← ptrs_put y.tb hr nm [] t]
    refine hM.shrink.mono (fun k hk => ?_)
    rcases hk.1 with h2 | h2
    · exact e h2 nofun
    · show (if _ then _ else _) = _
      exact if_pos ⟨h2, hk.2⟩
  · by_cases k1 : w1.heap.size ≤ k ∧ k < w2.heap.size
    · exact k1.2
    · have hk : (if w1.heap.size ≤ k ∧ k < w2.heap.size then Lab.bm else if k = t then .tn nm else if k = bu then .bu nm else if k = o then .tm nm else y.lam k) ≠ .no := hk
      rw [if_neg k1] at hk
      by_cases k2 : k = t
      · omega
      · rw [if_neg k2] at hk
        by_cases k3 : k = bu
        · omega
        · rw [if_neg k3] at hk
          by_cases k4 : k = o
          · omega
          · rw [if_neg k4] at hk
            have := h.lt k hk
            omega
  · rcases hp.2.2 x hx with rfl | hx'
    · show TnR w2 _ (if nm = nm then t else _) (if nm = nm then bu else _) (if nm = nm then o else _) (y.cb nm) c.q nm []
      rw [if_pos rfl, if_pos rfl, if_pos rfl]
      refine ⟨ht.chg hc (fun k => by rw [nn gt] at k; cases k), et, hbu.chg hc (fun k => by rw [nn gbu] at k; cases k), eb, (hO.chg hc (fun k hk => by cases hk; rw [nn go]; exact nofun)).mono (fun k hk => by cases hk; exact eo), fun _ h => by cases h⟩
    · have hn : x.1 ≠ nm := fun hx2 => by
        have := has_of_get (mem_getM hr (show (x.1, x.2) ∈ st.ts from hx'))
        rw [hx2, hg] at this
        cases this
      show TnR w2 _ (if x.1 = nm then t else _) (if x.1 = nm then bu else _) (if x.1 = nm then o else _) (y.cb x.1) c.q x.1 x.2
      rw [if_neg hn, if_neg hn, if_neg hn]
      exact ((h1.ten x hx').chg hc (fun k hk => by rw [hk]; exact ⟨nofun, nofun, nofun, fun _ => nofun⟩)).lab (fun k hk => e rfl hk)
  · by_cases k1 : w.heap.size ≤ k
    · exact .inr k1
    · refine .inl ?_
      have hk : (if w1.heap.size ≤ k ∧ k < w2.heap.size then Lab.bm else if k = t then .tn nm else if k = bu then .bu nm else if k = o then .tm nm else y.lam k) ≠ .no := hk
      rw [if_neg (by omega), if_neg (by omega), if_neg (by omega), if_neg (by omega)] at hk
      exact hk

end Go.Proofs.YtfacfdjapjhpeaaGreatDoor
namespace Go.Proofs.YtfacfdjapjhpeaaGreatDoor
open Go.RowKit Go.Lib

def inP (n m : Int) : Bool := decide (1 ≤ n) && decide (n ≤ m)
theorem qin_calls (n m : Int) (w : World) : Calls Tryz.prog 65 #[.int .i64 n, .int .i64 m] w fun e w' => e = .returned (.bool (inP n m)) ∧ w = w' := by
  have HI := hd (show inP n m = (decide (1 ≤ n) && decide (n ≤ m)) from rfl)
  by_cases h1 : 1 ≤ n
  · have a1 : decide (1 ≤ n) = true := by simpa using h1
    go_enter Tryz.func65, Tryz.ntmps65
    go_wp2
    go_ret
    exact ⟨ret_bool (by rw [HI.o, a1]; rfl), rfl⟩
  · have a1 : decide (1 ≤ n) = false := by simpa using h1
    go_enter Tryz.func65, Tryz.ntmps65
    go_wp2
    go_ret
    exact ⟨ret_bool (by rw [HI.o, a1]; rfl), rfl⟩

def Qt.err (Q : Qt) : Int := if Q.may = true then 0 else 12
theorem qcheck_calls (Q : Qt) (w : World) : Calls Tryz.prog 40 #[.agg (quE Q).toArray] w fun e w' => e = .returned (.int .i64 Q.err) ∧ Below w.heap.size w w' := by
  have hb := hd ((Below.refl w.heap.size w).alloc (Nat.le_refl _) (.cells (quE Q).toArray 23))
  have C := hd (fun n m W => qin_calls n m W)
  have HV : Hd (Q.may = (((inP Q.cols 8 && inP Q.cards 16) && inP Q.bytes 1048576) && inP Q.log 64)) := hd rfl
  obtain ⟨r, hr⟩ : ∃ r, Q.err = r := ⟨_, rfl⟩
  have HR : Hd (r = if Q.may = true then 0 else 12) := hd hr.symm
  rw [hr]
  clear hr
  generalize Q.may = v at *
  obtain ⟨q1, q2, q3, q4⟩ := Q
  simp only [quE] at *
  cases e1 : inP q1 8 with
  | false =>
    have HR : Hd (r = 12) := hd (by rw [HR.o, HV.o, e1]; rfl)
    go_enter Tryz.func40, Tryz.ntmps40
    go_wp2_with (go_at_call 65; refine (C.o _ _ _).mono ?_; rintro e w' ⟨rfl, rfl⟩)
    go_ret
    exact ⟨ret_int HR.o.symm, hb.o⟩
  | true =>
  cases e2 : inP q2 16 with
  | false =>
    have HR : Hd (r = 12) := hd (by rw [HR.o, HV.o, e1, e2]; rfl)
    go_enter Tryz.func40, Tryz.ntmps40
    go_wp2_with (go_at_call 65; refine (C.o _ _ _).mono ?_; rintro e w' ⟨rfl, rfl⟩)
    go_ret
    exact ⟨ret_int HR.o.symm, hb.o⟩
  | true =>
  cases e3 : inP q3 1048576 with
  | false =>
    have HR : Hd (r = 12) := hd (by rw [HR.o, HV.o, e1, e2, e3]; rfl)
    go_enter Tryz.func40, Tryz.ntmps40
    go_wp2_with (go_at_call 65; refine (C.o _ _ _).mono ?_; rintro e w' ⟨rfl, rfl⟩)
    go_ret
    exact ⟨ret_int HR.o.symm, hb.o⟩
  | true =>
  cases e4 : inP q4 64 with
  | false =>
    have HR : Hd (r = 12) := hd (by rw [HR.o, HV.o, e1, e2, e3, e4]; rfl)
    go_enter Tryz.func40, Tryz.ntmps40
    go_wp2_with (go_at_call 65; refine (C.o _ _ _).mono ?_; rintro e w' ⟨rfl, rfl⟩)
    go_ret
    exact ⟨ret_int HR.o.symm, hb.o⟩
  | true =>
    have HR : Hd (r = 0) := hd (by rw [HR.o, HV.o, e1, e2, e3, e4]; rfl)
    go_enter Tryz.func40, Tryz.ntmps40
    go_wp2_with (go_at_call 65; refine (C.o _ _ _).mono ?_; rintro e w' ⟨rfl, rfl⟩)
    go_ret
    exact ⟨ret_int HR.o.symm, hb.o⟩

theorem qnew_calls (Q : Qt) (h : Q.may = true) (w : World) : Calls Tryz.prog 44 #[.agg (quE Q).toArray] w fun e w' => ∃ b, e = .returned (.tuple #[.pointer (some ⟨b, 0, none⟩), .int .i64 0]) ∧ w.heap.size ≤ b ∧ Blk w' b 147 (buE Q 0 0) ∧ Below w.heap.size w w' := by
  have C := hd (qcheck_calls Q (w.alloc (.cells (quE Q).toArray 23)))
  have he : Q.err = 0 := if_pos h
  rw [he] at C
  clear h he
  obtain ⟨q1, q2, q3, q4⟩ := Q
  simp only [quE, buE] at *
  go_enter Tryz.func44, Tryz.ntmps44
  go_wp2_with fail
  refine C.o.mono ?_
  rintro e w1 ⟨rfl, hbe⟩
  have hk := (Blk.new w 23 #[.int .i64 q1, .int .i64 q2, .int .i64 q3, .int .i64 q4]).below hbe (by simp)
  have a0 := hk.at_ 0 rfl
  have a1 := hk.at_ 1 rfl
  have a2 := hk.at_ 2 rfl
  have a3 := hk.at_ 3 rfl
  have HB : Hd (Below w.heap.size w w1) := hd (((Below.refl _ w).alloc (Nat.le_refl _) _).trans (hbe.mono (by simp)))
  have hs : Hd (w.heap.size < w1.heap.size) := hd hk.lt
  clear hk hbe C
  go_wp2
  go_ret2
  exact ⟨w1.heap.size, rfl, Nat.le_of_lt hs.o, Blk.new _ _ _, HB.o.alloc HB.o.size _⟩

section
variable (Q : Qt) (n by_ : Int) (b : Nat) (w : World) (h : Blk w b 147 (buE Q n by_))
include h
theorem qcols_calls : Calls Tryz.prog 74 #[.pointer (some ⟨b, 0, none⟩)] w fun e w' => e = .returned (.int .i64 n) ∧ w = w' := by
  have h4 := h.at_ 4 rfl
  clear h
  go_enter Tryz.func74, Tryz.ntmps74
  go_wp2
  go_ret
  exact ⟨rfl, rfl⟩
theorem qbytes_calls : Calls Tryz.prog 55 #[.pointer (some ⟨b, 0, none⟩)] w fun e w' => e = .returned (.int .i64 by_) ∧ w = w' := by
  have h5 := h.at_ 5 rfl
  clear h
  go_enter Tryz.func55, Tryz.ntmps55
  go_wp2
  go_ret
  exact ⟨rfl, rfl⟩
theorem qroom_calls (h0 : 0 ≤ by_) (h1 : by_ ≤ Q.bytes) (h2 : Q.bytes ≤ 1048576) : Calls Tryz.prog 121 #[.pointer (some ⟨b, 0, none⟩)] w fun e w' => e = .returned (.int .i64 (Q.bytes - by_)) ∧ ∃ m, w' = w.drewN m := by
  have h5 : w.cell? ⟨b, 5, none⟩ = some (.int .i64 by_) := h.at_ 5 rfl
  have hq : w.cell? ⟨b, 2, none⟩ = some (.int .i64 Q.bytes) := h.at_ 2 rfl
  generalize Q.bytes = q at *
  clear h
  go_enter Tryz.func121, Tryz.ntmps121
  go_wp2_with fail
  go_quiet (fail)
  go_wp2
  go_ret
  exact ⟨rfl, _, rfl⟩
theorem qopen_calls (h0 : 0 ≤ n) (h1 : n < Q.cols) (h2 : Q.cols ≤ 8) : Calls Tryz.prog 76 #[.pointer (some ⟨b, 0, none⟩)] w fun e w' => e = .returned (.bool true) ∧ Blk w' b 147 (buE Q (n + 1) by_) ∧ Chg (One b) w w' := by
  have h4 : w.cell? ⟨b, 4, none⟩ = some (.int .i64 n) := h.at_ 4 rfl
  have hq : w.cell? ⟨b, 0, none⟩ = some (.int .i64 Q.cols) := h.at_ 0 rfl
  have hf := h.frozen 4
  have H := hd h
  have HQ : Hd ((buE Q n by_).setIfInBounds 4 (.int .i64 (n + 1)) = buE Q (n + 1) by_) := hd rfl
  generalize Q.cols = q at *
  clear h
  go_enter Tryz.func76, Tryz.ntmps76
  go_wp2_with fail
  go_quiet (fail)
  go_wp2
  go_ret
  refine ⟨rfl, ?_, ?_⟩
  · rw [← HQ.o]; exact (H.o.drewN _).set_ 4 _
  · exact ((Chg.refl (One b) w).drewN _).setCell (p := ⟨b, 4, none⟩) (.inl rfl) _
theorem qclose_calls (x : Int) (h0 : 1 ≤ n) (h1 : n ≤ 8) (h2 : 0 ≤ x) (h3 : x ≤ by_) (h4 : by_ ≤ 1048576) : Calls Tryz.prog 82 #[.pointer (some ⟨b, 0, none⟩), .int .i64 x] w fun e w' => (∃ v, e = .returned v) ∧ Blk w' b 147 (buE Q (n - 1) (by_ - x)) ∧ Chg (One b) w w' := by
  have k4 : w.cell? ⟨b, 4, none⟩ = some (.int .i64 n) := h.at_ 4 rfl
  have k5 : w.cell? ⟨b, 5, none⟩ = some (.int .i64 by_) := h.at_ 5 rfl
  have hf := h.frozen 4
  have hf5 := h.frozen 5
  have H := hd h
  clear h
  go_enter Tryz.func82, Tryz.ntmps82
  go_wp2_with fail
  go_region
  all_goals
    go_wp2
    all_goals
      go_end0
      refine ⟨⟨_, rfl⟩, ?_, ?_⟩
      · have e1 : max (n - 1) 0 = n - 1 := by omega
        have e2 : min (max x 0) by_ = x := by omega
        rw [e1, e2]
        exact ((H.o.set_ 4 (.int .i64 (n - 1))).set_ 5 (.int .i64 (by_ - x))).drew
      · exact (((Chg.refl (One b) w).setCell (p := ⟨b, 4, none⟩) (.inl rfl) _).setCell (p := ⟨b, 5, none⟩) (.inl rfl) _).drew
theorem qmove_calls (g : Int) (hq1 : by_ ≤ Q.bytes) (h0 : 0 ≤ by_) (h1 : g ≤ Q.bytes - by_) (h2 : Q.bytes ≤ 1048576) (h3 : 0 ≤ by_ + g) : Calls Tryz.prog 123 #[.pointer (some ⟨b, 0, none⟩), .int .i64 g] w fun e w' => e = .returned (.bool true) ∧ Blk w' b 147 (buE Q n (by_ + g)) ∧ Chg (One b) w w' := by
  have k5 : w.cell? ⟨b, 5, none⟩ = some (.int .i64 by_) := h.at_ 5 rfl
  have hq : w.cell? ⟨b, 2, none⟩ = some (.int .i64 Q.bytes) := h.at_ 2 rfl
  have hf := h.frozen 5
  have H := hd h
  have HQ : Hd ((buE Q n by_).setIfInBounds 5 (.int .i64 (by_ + g)) = buE Q n (by_ + g)) := hd rfl
  generalize Q.bytes = q at *
  have hwr : IntKind.i64.wrap (q - by_) = q - by_ := by rw [IntKind.wrap_i64]; omega
  have hd1 : decide (q - by_ < g) = false := by simp; omega
  clear h
  go_enter Tryz.func123, Tryz.ntmps123
  go_wp2_with fail
  go_quiet (fail)
  go_wp2
  all_goals
    go_ret
    refine ⟨rfl, ?_, ?_⟩
    · have e1 : max (by_ + g) 0 = by_ + g := by omega
      rw [e1]
      exact (H.o.drewN _).set_ 5 _
    · exact ((Chg.refl (One b) w).drewN _).setCell (p := ⟨b, 5, none⟩) (.inl rfl) _
end

end Go.Proofs.YtfacfdjapjhpeaaGreatDoor
namespace Go.Proofs.YtfacfdjapjhpeaaGreatDoor
open Go.RowKit Go.Lib

theorem omgetEntTn_none (w : World) (S : Nat → Prop) (b : Nat) (l : ML Nat) (k : List UInt8) (h : OmEntTn w S b l) (hl : l.length ≤ 1000000) (hg : getM l k = none) :
    Calls Tryz.prog 43 #[.pointer (some ⟨b, 0, none⟩), .string (bs k)] w fun e w' => e = .returned (.tuple #[.pointer none, .bool false]) ∧ Below w.heap.size w w' := by
  have hq : hasM l k = false := by simp [hasM, hg]
  have hc := hd (findEntTn_calls w S b l k h hl)
  rw [hq] at hc
  generalize place l k = p at *
  clear h hg hq
  go_enter Tryz.func43, Tryz.ntmps43
  go_wp2_with fail
  refine hc.o.mono ?_
  rintro e w1 ⟨rfl, hbe⟩
  go_wp2_with fail
  go_ret2
  exact ⟨rfl, hbe⟩

theorem omgetEntTn_some (w : World) (S : Nat → Prop) (b : Nat) (l : ML Nat) (k : List UInt8) (v : Nat) (h : OmEntTn w S b l) (hl : l.length ≤ 1000000) (hg : getM l k = some v) :
    Calls Tryz.prog 43 #[.pointer (some ⟨b, 0, none⟩), .string (bs k)] w fun e w' => e = .returned (.tuple #[.pointer (some ⟨v, 0, none⟩), .bool true]) ∧ Below w.heap.size w w' := by
  have hq : hasM l k = true := by simp [hasM, hg]
  have hc := hd (findEntTn_calls w S b l k h hl)
  rw [hq] at hc
  obtain ⟨hp, hpk, hgp⟩ := hasM_at h.rise hq
  rw [hg] at hgp
  injection hgp with hgp
  obtain ⟨p, hpp⟩ : ∃ p, place l k = p := ⟨_, rfl⟩
  have hget : ∀ j, j < 2 → (meEntTn l)[p * 2 + j]? = (enEntTn (k, v))[j]? := by
    intro j hj
    subst hpp
    rw [meEntTn_at l (place l k) hp j hj]
    congr 2
    exact Prod.ext hpk hgp.symm
  rw [hpp] at hc hp
  have H := hd h
  obtain ⟨n, hn⟩ : ∃ n, l.length = n := ⟨_, rfl⟩
  have HN := hd hn
  rw [hn] at hp hl
  clear h hg hq hgp hpk hpp hn
  go_enter Tryz.func43, Tryz.ntmps43
  go_wp2_with fail
  refine hc.o.mono ?_
  rintro e w1 ⟨rfl, hbe⟩
  obtain ⟨A, c, hb, hr, hS, _⟩ := H.o.below hbe
  rw [HN.o] at hb hr
  have hb0 := hb.at_ 0 rfl
  have hcap := hr.cap
  unfold maxLen at hcap
  have HBE := hd hbe
  obtain ⟨g, rfl, _, hgw, _, _, hcl, _⟩ := hr.at_ (by omega)
  have k1 : w1.cell? ⟨g, p * 2 + 1, none⟩ = some (.pointer (some ⟨v, 0, none⟩)) := hcl _ _ ((hget 1 (by omega)).trans rfl)
  have hi0 : (0 : Int) ≤ (p : Int) := by omega
  have hi1 : (p : Int) < (n : Int) := by omega
  clear hc hbe hcl hget hr hb
  go_wp2
  go_ret2
  exact ⟨rfl, HBE.o⟩

set_option maxRecDepth 100000 in
set_option maxHeartbeats 2000000 in
/-- Put, of a new key. -/
theorem omputEntTn_new (w : World) (S : Nat → Prop) (b : Nat) (l : ML Nat) (k : List UInt8) (v : Nat) (h : OmEntTn w S b l) (hl : l.length ≤ 1000000) (hSw : ∀ q, S q → q < w.heap.size) (hq : hasM l k = false) :
    Calls Tryz.prog 46 #[.pointer (some ⟨b, 0, none⟩), .string (bs k), .pointer (some ⟨v, 0, none⟩)] w fun e w' => e = .returned (.bool true) ∧ OmEntTn w' (Plus S w.heap.size) b (putM l k v) ∧ Chg S w w' := by
  have hc := hd (findEntTn_calls w S b l k h hl)
  rw [hq] at hc
  have hsp := hd (putM_spec k v h.rise).1
  have e : putM l k v = l.take (place l k) ++ (k, v) :: l.drop (place l k) := by simp [putM, hq]
  rw [e] at hsp ⊢
  have hpl := place_le l k
  obtain ⟨p, hpp⟩ : ∃ p, place l k = p := ⟨_, rfl⟩
  rw [hpp] at hc hsp hpl ⊢
  have H := hd h
  obtain ⟨n, hn⟩ : ∃ n, l.length = n := ⟨_, rfl⟩
  have HN := hd hn
  rw [hn] at hpl hl
  clear h hq hpp hn e
  have hone := hd (enEntTn_one (k, v))
  go_enter Tryz.func46, Tryz.ntmps46
  go_wp2_with fail
  refine hc.o.mono ?_
  rintro e w1 ⟨rfl, hbe⟩
  obtain ⟨A, c, hb, hr, hS, _⟩ := H.o.below hbe
  rw [HN.o] at hb hr
  have hb0 := hb.at_ 0 rfl
  have hcap := hr.cap
  unfold maxLen at hcap
  have HBE := hd hbe
  have hne := hr.ne_blk hb (by decide)
  have hfar : Hd (¬ Of A b) := hd (fun hk => by
    cases A with
    | none => exact Of.none hk
    | some a => exact hne a rfl hk.some_.symm)
  have hnew : Hd (¬ Of A w1.heap.size) := hd (fun hk => by
    cases A with
    | none => exact Of.none hk
    | some a =>
      have h1 := hr.lt rfl
      have h2 := hk.some_
      omega)
  have HB := hd hb
  have HRW := hd hr
  clear hc hbe hr hb hne
  have hen : Hd ((enEntTn (k, v)).toArray = #[.string (bs k), .pointer (some ⟨v, 0, none⟩)]) := hd rfl
  have hbw := HB.o.lt
  clear hSw
  go_wp2_with fail
  refine (insEntTn_calls _ (Of A) A n c p (meEntTn l) (enEntTn (k, v)) _ (HRW.o.own_.alloc _) rfl (meEntTn_one l) (by rw [hen.o]; exact Blk.new_ _ _ rfl _ _) hone.o hl hpl hnew.o).mono ?_
  rintro e w2 ⟨A2, c2, rfl, hr2, hc2⟩
  have hb2 : Blk w2 b 135 #[.slice A n c] := (HB.o.alloc _).chg hc2 hfar.o
  have hf2 := hb2.frozen 0
  have hg2 := hb2.at_ 0 rfl
  have HB2 := hd hb2
  have HR2 := hd hr2
  have HC2 := hd hc2
  clear hb2 hr2 hc2
  all_goals
    go_wp2_with fail
    go_ret
    have hlen : (l.take p ++ (k, v) :: l.drop p).length = n + 1 := by
      simp only [List.length_append, List.length_cons, List.length_take, List.length_drop, HN.o]
      omega
    refine ⟨rfl, ⟨A2, c2, ?_, ?_, .inl hS, hsp.o⟩, ?_⟩
    · rw [hlen]
      exact HB2.o.set_ 0 _
    · rw [hlen, meEntTn_ins]
      have hsz := HBE.o.size
      refine (HR2.o.mono fun q hq => ?_).far (HR2.o.ne_blk HB2.o (by decide)) _
      rcases hq with hq | hq
      · exact .inl (HRW.o.of_sub q hq)
      · simp at hq
        exact .inr (by omega)
    · refine Chg.setCell (Chg.trans ?_ HC2.o (fun q hq => .inl (HRW.o.of_sub q hq))) (.inl hS) _
      repeat (first | exact Chg.of_below S HBE.o | refine Chg.drew ?_ | refine Chg.alloc ?_ _)

end Go.Proofs.YtfacfdjapjhpeaaGreatDoor
namespace Go.Proofs.YtfacfdjapjhpeaaGreatDoor
open Go.RowKit Go.Lib

theorem omgetEntCp_none (w : World) (S : Nat → Prop) (b : Nat) (l : ML Nat) (k : List UInt8) (h : OmEntCp w S b l) (hl : l.length ≤ 1000000) (hg : getM l k = none) :
    Calls Tryz.prog 50 #[.pointer (some ⟨b, 0, none⟩), .string (bs k)] w fun e w' => e = .returned (.tuple #[.pointer none, .bool false]) ∧ Below w.heap.size w w' := by
  have hq : hasM l k = false := by simp [hasM, hg]
  have hc := hd (findEntCp_calls w S b l k h hl)
  rw [hq] at hc
  generalize place l k = p at *
  clear h hg hq
  go_enter Tryz.func50, Tryz.ntmps50
  go_wp2_with fail
  refine hc.o.mono ?_
  rintro e w1 ⟨rfl, hbe⟩
  go_wp2_with fail
  go_ret2
  exact ⟨rfl, hbe⟩

theorem omgetEntCp_some (w : World) (S : Nat → Prop) (b : Nat) (l : ML Nat) (k : List UInt8) (v : Nat) (h : OmEntCp w S b l) (hl : l.length ≤ 1000000) (hg : getM l k = some v) :
    Calls Tryz.prog 50 #[.pointer (some ⟨b, 0, none⟩), .string (bs k)] w fun e w' => e = .returned (.tuple #[.pointer (some ⟨v, 0, none⟩), .bool true]) ∧ Below w.heap.size w w' := by
  have hq : hasM l k = true := by simp [hasM, hg]
  have hc := hd (findEntCp_calls w S b l k h hl)
  rw [hq] at hc
  obtain ⟨hp, hpk, hgp⟩ := hasM_at h.rise hq
  rw [hg] at hgp
  injection hgp with hgp
  obtain ⟨p, hpp⟩ : ∃ p, place l k = p := ⟨_, rfl⟩
  have hget : ∀ j, j < 2 → (meEntCp l)[p * 2 + j]? = (enEntCp (k, v))[j]? := by
    intro j hj
    subst hpp
    rw [meEntCp_at l (place l k) hp j hj]
    congr 2
    exact Prod.ext hpk hgp.symm
  rw [hpp] at hc hp
  have H := hd h
  obtain ⟨n, hn⟩ : ∃ n, l.length = n := ⟨_, rfl⟩
  have HN := hd hn
  rw [hn] at hp hl
  clear h hg hq hgp hpk hpp hn
  go_enter Tryz.func50, Tryz.ntmps50
  go_wp2_with fail
  refine hc.o.mono ?_
  rintro e w1 ⟨rfl, hbe⟩
  obtain ⟨A, c, hb, hr, hS, _⟩ := H.o.below hbe
  rw [HN.o] at hb hr
  have hb0 := hb.at_ 0 rfl
  have hcap := hr.cap
  unfold maxLen at hcap
  have HBE := hd hbe
  obtain ⟨g, rfl, _, hgw, _, _, hcl, _⟩ := hr.at_ (by omega)
  have k1 : w1.cell? ⟨g, p * 2 + 1, none⟩ = some (.pointer (some ⟨v, 0, none⟩)) := hcl _ _ ((hget 1 (by omega)).trans rfl)
  have hi0 : (0 : Int) ≤ (p : Int) := by omega
  have hi1 : (p : Int) < (n : Int) := by omega
  clear hc hbe hcl hget hr hb
  go_wp2
  go_ret2
  exact ⟨rfl, HBE.o⟩

set_option maxRecDepth 100000 in
set_option maxHeartbeats 2000000 in
/-- Put, of a new key. -/
theorem omputEntCp_new (w : World) (S : Nat → Prop) (b : Nat) (l : ML Nat) (k : List UInt8) (v : Nat) (h : OmEntCp w S b l) (hl : l.length ≤ 1000000) (hSw : ∀ q, S q → q < w.heap.size) (hq : hasM l k = false) :
    Calls Tryz.prog 77 #[.pointer (some ⟨b, 0, none⟩), .string (bs k), .pointer (some ⟨v, 0, none⟩)] w fun e w' => e = .returned (.bool true) ∧ OmEntCp w' (Plus S w.heap.size) b (putM l k v) ∧ Chg S w w' := by
  have hc := hd (findEntCp_calls w S b l k h hl)
  rw [hq] at hc
  have hsp := hd (putM_spec k v h.rise).1
  have e : putM l k v = l.take (place l k) ++ (k, v) :: l.drop (place l k) := by simp [putM, hq]
  rw [e] at hsp ⊢
  have hpl := place_le l k
  obtain ⟨p, hpp⟩ : ∃ p, place l k = p := ⟨_, rfl⟩
  rw [hpp] at hc hsp hpl ⊢
  have H := hd h
  obtain ⟨n, hn⟩ : ∃ n, l.length = n := ⟨_, rfl⟩
  have HN := hd hn
  rw [hn] at hpl hl
  clear h hq hpp hn e
  have hone := hd (enEntCp_one (k, v))
  go_enter Tryz.func77, Tryz.ntmps77
  go_wp2_with fail
  refine hc.o.mono ?_
  rintro e w1 ⟨rfl, hbe⟩
  obtain ⟨A, c, hb, hr, hS, _⟩ := H.o.below hbe
  rw [HN.o] at hb hr
  have hb0 := hb.at_ 0 rfl
  have hcap := hr.cap
  unfold maxLen at hcap
  have HBE := hd hbe
  have hne := hr.ne_blk hb (by decide)
  have hfar : Hd (¬ Of A b) := hd (fun hk => by
    cases A with
    | none => exact Of.none hk
    | some a => exact hne a rfl hk.some_.symm)
  have hnew : Hd (¬ Of A w1.heap.size) := hd (fun hk => by
    cases A with
    | none => exact Of.none hk
    | some a =>
      have h1 := hr.lt rfl
      have h2 := hk.some_
      omega)
  have HB := hd hb
  have HRW := hd hr
  clear hc hbe hr hb hne
  have hen : Hd ((enEntCp (k, v)).toArray = #[.string (bs k), .pointer (some ⟨v, 0, none⟩)]) := hd rfl
  have hbw := HB.o.lt
  clear hSw
  go_wp2_with fail
  refine (insEntCp_calls _ (Of A) A n c p (meEntCp l) (enEntCp (k, v)) _ (HRW.o.own_.alloc _) rfl (meEntCp_one l) (by rw [hen.o]; exact Blk.new_ _ _ rfl _ _) hone.o hl hpl hnew.o).mono ?_
  rintro e w2 ⟨A2, c2, rfl, hr2, hc2⟩
  have hb2 : Blk w2 b 150 #[.slice A n c] := (HB.o.alloc _).chg hc2 hfar.o
  have hf2 := hb2.frozen 0
  have hg2 := hb2.at_ 0 rfl
  have HB2 := hd hb2
  have HR2 := hd hr2
  have HC2 := hd hc2
  clear hb2 hr2 hc2
  all_goals
    go_wp2_with fail
    go_ret
    have hlen : (l.take p ++ (k, v) :: l.drop p).length = n + 1 := by
      simp only [List.length_append, List.length_cons, List.length_take, List.length_drop, HN.o]
      omega
    refine ⟨rfl, ⟨A2, c2, ?_, ?_, .inl hS, hsp.o⟩, ?_⟩
    · rw [hlen]
      exact HB2.o.set_ 0 _
    · rw [hlen, meEntCp_ins]
      have hsz := HBE.o.size
      refine (HR2.o.mono fun q hq => ?_).far (HR2.o.ne_blk HB2.o (by decide)) _
      rcases hq with hq | hq
      · exact .inl (HRW.o.of_sub q hq)
      · simp at hq
        exact .inr (by omega)
    · refine Chg.setCell (Chg.trans ?_ HC2.o (fun q hq => .inl (HRW.o.of_sub q hq))) (.inl hS) _
      repeat (first | exact Chg.of_below S HBE.o | refine Chg.drew ?_ | refine Chg.alloc ?_ _)

end Go.Proofs.YtfacfdjapjhpeaaGreatDoor
namespace Go.Proofs.YtfacfdjapjhpeaaGreatDoor
open Go.RowKit Go.Lib

theorem far_go {s : Cs} {room T : Int} : ∀ (r pre : List OpV) (s' : Cs) (m g i gr : Int), Far s s' pre room m g T → chkG s room pre r m g = (i, gr, 0) → ∃ m', Far s (applyAll s' r T) (pre ++ r) room m' gr T
  | [], pre, s', m, g, i, gr, h, hc => by
    rw [chkG_done hc, List.append_nil]
    exact ⟨m, h⟩
  | o :: r, pre, s', m, g, i, gr, h, hc => by
    rw [chkG] at hc
    cases ho : chkO s room pre o m g with
    | inl e =>
      exfalso
      rw [ho] at hc
      have he : e = 0 := by injection hc with _ h; injection h
      exact chkO_err ho he
    | inr p =>
      rw [ho] at hc
      have h2 := (far_step h ho).2
      obtain ⟨m', h3⟩ := far_go r (pre ++ [o]) _ _ _ _ _ h2 hc
      rw [List.append_assoc] at h3
      exact ⟨m', h3⟩
theorem far_all {s : Cs} (hs : s.Ok) {room T : Int} (hT : s.latest ≤ T) {ops : List OpV} {i gr : Int} (h : chkG s room [] ops (s.ml.length : Nat) 0 = (i, gr, 0)) : ∃ m, Far s (applyAll s ops T) ops room m gr T :=
  far_go ops [] s _ _ _ _ (far_start hs room hT) h

/-- Sizes of writes that are checked. -/
def OpSm (o : OpV) : Prop := o.uid.length ≤ 24 ∧ o.card.length ≤ 900
theorem CsOk.step {Q : Qt} {T T' : Int} {s : Cs} (h : CsOk Q T s) (hT : T ≤ T') (h1 : 1 ≤ T') {o : OpV} (ho : OpSm o) : CsOk Q T' (s.step o T').2 := by
  have hg : (s.step o T').2.Good := ⟨Cs.step_ok h.good.ok o T', Cs.step_ver h.good.ver h.good.ok o T'⟩
  have hk := Cs.step_ok h.ok o T'
  have ht := Cs.step_tok h.tok o T'
  cases hn : s.no o T' with
  | true =>
    have e : (s.step o T').2 = s := by unfold Cs.step; rw [if_pos hn]
    rw [e]
    exact h.up hT
  | false =>
    have e : (s.step o T').2 = s.app o T' := by unfold Cs.step; rw [if_neg (by rw [hn]; decide)]
    rw [e] at hg hk ht ⊢
    have hlat := h.lat
    refine ⟨hk, ht, hg, h.most, h.cap, Int.le_refl _, ?_, ?_, ?_, ?_⟩
    · show s.hor ≤ T'
      have := h.hor
      unfold Cs.hor
      split
      · cases hl : s.log with
        | nil => simp; omega
        | cons x l =>
          have := h.tok.le x (by rw [hl]; simp)
          simp
          omega
      · omega
    · have := h.pos
      show 1 ≤ s.hor
      unfold Cs.hor
      split <;> omega
    · intro x hx
      rcases pushL_sub (show x ∈ pushL s.cap s.log (T', o.uid) from hx) with hx | rfl
      · exact h.log x hx
      · exact ho.1
    · intro e he
      have he : e ∈ s.mls o T' := he
      show e.1.length ≤ 24 ∧ e.2.text.length ≤ 900 ∧ e.2.ver ≤ T' ∧ 1 ≤ e.2.ver
      have hold : e ∈ s.ml → e.1.length ≤ 24 ∧ e.2.text.length ≤ 900 ∧ e.2.ver ≤ T' ∧ 1 ≤ e.2.ver := fun he => by
        have := h.ml e he
        omega
      unfold Cs.mls at he
      split at he
      · exact hold ((delM_spec o.uid h.ok.rise).2.2 e he)
      · rcases (putM_spec o.uid ⟨T', o.card⟩ h.ok.rise).2.2 e he with rfl | he
        · exact ⟨ho.1, ho.2, Int.le_refl _, h1⟩
        · exact hold he
theorem CsOk.all {Q : Qt} {T : Int} : ∀ (ops : List OpV) {s : Cs}, CsOk Q T s → 1 ≤ T → (∀ o ∈ ops, OpSm o) → CsOk Q T (applyAll s ops T)
  | [], _, h, _, _ => h
  | o :: r, s, h, h1, ho => CsOk.all r (s := (s.step o T).2) (h.step (Int.le_refl _) h1 (ho o (by simp))) h1 (fun o' h' => ho o' (by simp [h']))
theorem CsOk.new {Q : Qt} (hq : QtOk Q) {t : Int} (h1 : 1 ≤ t) : CsOk Q t (Cs.new t Q.cards Q.log) := by
  have := hq.d1
  have := hq.l1
  exact ⟨Cs.new_ok _ _ _, Cs.new_tok _ _ _, ⟨Cs.new_ok _ _ _, fun u t h => by simp [Cs.new, lastTok] at h⟩, by show max Q.cards 1 = _; omega, by show max Q.log 1 = _; omega, Int.le_refl _, Int.le_refl _, h1, (fun _ h => by cases h), (fun _ h => by cases h)⟩

/-- What a request that may be is like. -/
theorem chk_ops {q : Rq} (h : chk q = 0) : (∀ o ∈ q.ops, OpSm o) ∧ q.ops.length ≤ 8 := by
  obtain ⟨h1, h2, h3, h4, h5⟩ := chk_0 h
  unfold strayB at h2
  simp only [Bool.or_eq_false_iff] at h2
  unfold namedB at h3
  simp only [Bool.and_eq_true] at h3
  unfold formedB at h4
  simp only [Bool.and_eq_true] at h4
  refine ⟨fun o ho => ⟨?_, ?_⟩, ?_⟩
  · exact uid_len (List.all_eq_true.1 h3.2 o ho)
  · have ha := List.all_eq_true.1 h4.2 o ho
    simp only [Bool.and_eq_true, Bool.or_eq_true] at ha
    rcases ha.1 with hd | hc
    · have hs := List.any_eq_false.1 h2.2 o ho
      simp [hd] at hs
      simp [hs]
    · exact is_len hc
  · unfold outB at h5
    simp only [Bool.or_eq_false_iff] at h5
    have hx := h5.1.1.1.1
    cases hO : hO q.k with
    | true => simp [hO] at hx; omega
    | false =>
      have hy := h2.1.1.1.1.2
      simp [hO] at hy
      rw [hy]; simp
theorem chk_opsQ {q : Rq} (h : chk q = 0) : (∀ o ∈ opsQ q, OpSm o) ∧ (opsQ q).length ≤ 8 ∧ (q.k = 4 ∨ q.k = 5 ∨ q.k = 7 → opsQ q ≠ []) := by
  obtain ⟨h1, h2, h3, h4, h5⟩ := chk_0 h
  obtain ⟨ho, hl⟩ := chk_ops h
  unfold namedB at h3
  simp only [Bool.and_eq_true] at h3
  unfold formedB at h4
  simp only [Bool.and_eq_true] at h4
  unfold opsQ
  by_cases c4 : q.k = 4
  · rw [if_pos c4]
    have a := h3.1.2
    have b := h4.1.1
    have e1 : hU q.k = true := by rw [c4]; decide
    have e2 : hCd q.k = true := by rw [c4]; decide
    rw [e1] at a
    rw [e2] at b
    exact ⟨fun o ho => by rw [List.mem_singleton] at ho; subst ho; exact ⟨uid_len (by simpa using a), is_len (by simpa using b)⟩, by simp, fun _ => by simp⟩
  · rw [if_neg c4]
    by_cases c5 : q.k = 5
    · rw [if_pos c5]
      have a := h3.1.2
      have e1 : hU q.k = true := by rw [c5]; decide
      rw [e1] at a
      exact ⟨fun o ho => by rw [List.mem_singleton] at ho; subst ho; exact ⟨uid_len (by simpa using a), by simp⟩, by simp, fun _ => by simp⟩
    · rw [if_neg c5]
      refine ⟨ho, hl, fun hk => ?_⟩
      have c7 : q.k = 7 := by omega
      unfold outB at h5
      simp only [Bool.or_eq_false_iff] at h5
      have hx := h5.1.1.1.1
      have e : hO q.k = true := by rw [c7]; decide
      rw [e] at hx
      simp at hx
      intro he
      rw [he] at hx
      simp at hx
theorem err_0 {nm : List UInt8} {q : Rq} (h : errB nm q = 0) : nameB nm = true ∧ chk q = 0 ∧ q.k ≠ 1 ∧ q.k ≠ 11 := by
  unfold errB at h
  cases h1 : nameB nm with
  | false => rw [if_pos h1] at h; omega
  | true =>
    rw [if_neg (by rw [h1]; decide)] at h
    by_cases h2 : chk q = 0
    · rw [if_neg (fun h => h h2)] at h
      by_cases h3 : q.k = 1 ∨ q.k = 11
      · rw [if_pos h3] at h; omega
      · exact ⟨rfl, h2, by omega, by omega⟩
    · rw [if_pos h2] at h; exact absurd h h2
theorem chk_col {q : Rq} (h : chk q = 0) (hk : 2 ≤ q.k ∧ q.k ≤ 9) : nameB q.col = true := by
  obtain ⟨h1, h2, h3, h4, h5⟩ := chk_0 h
  unfold namedB at h3
  simp only [Bool.and_eq_true] at h3
  have a := h3.1.1.2
  have e : hC q.k = true := by unfold hC; simp; omega
  rw [e] at a
  simpa using a

/-- What is answered, and what becomes of the tenant. -/
structure CoOk (Q : Qt) (c : Int) (r : Co) : Prop where
  le : c ≤ r.2.2.1
  max : r.2.2.1 ≤ maxTok
  ten : TnOk Q r.2.2.1 r.2.2.2
theorem CoOk.same {Q : Qt} {c : Int} {cs : ML Cs} (ht : TnOk Q c cs) (hm : c ≤ maxTok) (a : Rs) (l : List It) : CoOk Q c (a, l, c, cs) := ⟨Int.le_refl _, hm, ht⟩
section
variable {Q : Qt} {c : Int} {cs : ML Cs} {q : Rq} {s : Cs}
theorem write_ok (hQ : QtOk Q) (h0 : 0 ≤ c) (hm : c ≤ maxTok) (ht : TnOk Q c cs) (hq : chk q = 0) (hcn : nameB q.col = true) (hs : getM cs q.col = some s) : CoOk Q c (writeB Q c cs q s) := by
  have hx := ht.get hs
  unfold writeB
  by_cases c1 : (chkQ Q cs q s).2.2 ≠ 0
  · rw [if_pos c1]; exact .same ht hm _ _
  · rw [if_neg c1]
    by_cases c2 : c = maxTok
    · rw [if_pos c2]; exact .same ht hm _ _
    · rw [if_neg c2]
      have hc : chkG s (Q.bytes - bytesT cs) [] (opsQ q) (s.ml.length : Nat) 0 = ((chkQ Q cs q s).1, (chkQ Q cs q s).2.1, 0) := by
        have : (chkQ Q cs q s).2.2 = 0 := by omega
        exact Prod.ext rfl (Prod.ext rfl this)
      have hl := hx.lat
      obtain ⟨m, hf⟩ := far_all hx.ok (T := c + 1) (by omega) hc
      obtain ⟨ho, _, _⟩ := chk_opsQ hq
      have hx' : CsOk Q (c + 1) (applyAll s (opsQ q) (c + 1)) := CsOk.all _ (hx.up (by omega)) (by omega) ho
      have hp := putM_spec q.col (applyAll s (opsQ q) (c + 1)) ht.rise
      refine ⟨by show c ≤ c + 1; omega, by show c + 1 ≤ maxTok; omega, hp.1, ?_, ?_, fun e he => ?_⟩
      · have := ht.len
        show ((putM cs q.col _).length : Int) ≤ _
        rw [putM_there_len (has_of_get hs)]
        exact this
      · show bytesT (putM cs q.col _) ≤ _
        rw [bytesT_put _ _ ht.rise, hs, hf.bytes]
        simp only
        have hb := ht.bytes
        by_cases hz : opsQ q = []
        · rw [hz] at hc
          have := chkG_done hc
          omega
        · have := (hf.is hz).2
          omega
      · rcases hp.2.2 e he with rfl | he
        · exact ⟨hx', name_len hcn⟩
        · exact ⟨(ht.each e he).1.up (by show c ≤ c + 1; omega), (ht.each e he).2⟩
theorem create_ok (hQ : QtOk Q) (h0 : 0 ≤ c) (hm : c ≤ maxTok) (ht : TnOk Q c cs) (hcn : nameB q.col = true) : CoOk Q c (createB Q c cs q) := by
  unfold createB
  by_cases c1 : hasM cs q.col = true
  · rw [if_pos c1]; exact .same ht hm _ _
  · rw [if_neg c1]
    by_cases c2 : Q.cols ≤ (cs.length : Int)
    · rw [if_pos c2]; exact .same ht hm _ _
    · rw [if_neg c2]
      by_cases c3 : c = maxTok
      · rw [if_pos c3]; exact .same ht hm _ _
      · rw [if_neg c3]
        have hg := get_of_no c1
        have hp := putM_spec q.col (Cs.new (c + 1) Q.cards Q.log) ht.rise
        refine ⟨by show c ≤ c + 1; omega, by show c + 1 ≤ maxTok; omega, hp.1, ?_, ?_, fun e he => ?_⟩
        · have := putM_len cs q.col (Cs.new (c + 1) Q.cards Q.log)
          show ((putM cs q.col (Cs.new (c + 1) Q.cards Q.log)).length : Int) ≤ _
          omega
        · show bytesT (putM cs q.col _) ≤ _
          rw [bytesT_put _ _ ht.rise, hg]
          have := ht.bytes
          show bytesT cs - 0 + bytesM [] ≤ Q.bytes
          rw [bytesM_nil]
          omega
        · rcases hp.2.2 e he with rfl | he
          · exact ⟨CsOk.new hQ (by show 1 ≤ c + 1; omega), name_len hcn⟩
          · exact ⟨(ht.each e he).1.up (by show c ≤ c + 1; omega), (ht.each e he).2⟩
theorem drop_ok (ht : TnOk Q c cs) (cn : List UInt8) : TnOk Q (c + 1) (delM cs cn) := by
  have hp := delM_spec cn ht.rise
  refine ⟨hp.1, ?_, ?_, fun e he => ⟨(ht.each e (hp.2.2 e he)).1.up (by omega), (ht.each e (hp.2.2 e he)).2⟩⟩
  · have := delM_len cs cn
    have := ht.len
    omega
  · rw [bytesT_del _ ht.rise]
    have := ht.bytes
    cases hg : getM cs cn with
    | none => simp only; omega
    | some s => simp only; have := bytesM_nn s.ml; omega
theorem within_ok (hQ : QtOk Q) (h0 : 0 ≤ c) (hm : c ≤ maxTok) (ht : TnOk Q c cs) (hq : chk q = 0) (hcn : nameB q.col = true) (hs : getM cs q.col = some s) : CoOk Q c (withinB Q c cs q s) := by
  unfold withinB
  by_cases c3 : q.k = 3
  · rw [if_pos c3]
    by_cases d : c = maxTok
    · rw [if_pos d]; exact .same ht hm _ _
    · rw [if_neg d]; exact ⟨by show c ≤ c + 1; omega, by show c + 1 ≤ maxTok; omega, drop_ok ht _⟩
  · rw [if_neg c3]
    by_cases c6 : q.k = 6
    · rw [if_pos c6]; split <;> exact .same ht hm _ _
    · rw [if_neg c6]
      by_cases c8 : q.k = 8
      · rw [if_pos c8]; exact .same ht hm _ _
      · rw [if_neg c8]
        by_cases c9 : q.k = 9
        · rw [if_pos c9]; split <;> exact .same ht hm _ _
        · rw [if_neg c9]; exact write_ok hQ h0 hm ht hq hcn hs
end
theorem kind_col {q : Rq} (h : chk q = 0) (h1 : q.k ≠ 1) (h10 : q.k ≠ 10) (h11 : q.k ≠ 11) : 2 ≤ q.k ∧ q.k ≤ 9 := by
  have hk := (chk_0 h).1
  unfold isK at hk
  simp at hk
  omega
/-- Whatever is asked. -/
theorem core_ok {Q : Qt} {c : Int} {cs : ML Cs} {q : Rq} {nm : List UInt8} (he : errB nm q = 0) (hQ : QtOk Q) (h0 : 0 ≤ c) (hm : c ≤ maxTok) (ht : TnOk Q c cs) : CoOk Q c (coreB Q c cs q) := by
  obtain ⟨hn, hq, h1, h11⟩ := err_0 he
  unfold coreB
  by_cases c2 : q.k = 2
  · rw [if_pos c2]; exact create_ok hQ h0 hm ht (chk_col hq (by omega))
  · rw [if_neg c2]
    by_cases c10 : q.k = 10
    · rw [if_pos c10]; exact .same ht hm _ _
    · rw [if_neg c10]
      have hcn := chk_col hq (kind_col hq h1 c10 h11)
      cases hg : getM cs q.col with
      | none => exact .same ht hm _ _
      | some s => exact within_ok hQ h0 hm ht hq hcn hg
theorem BkOk.put {Q : Qt} {T0 : Int} {st : BkS} (h : BkOk Q T0 st) {nm : List UInt8} (hn : nameB nm = true) {r : Co} (hr : CoOk Q st.ctr r) : BkOk Q T0 (putB st nm r).2.2 := by
  have hlow := h.low
  have hp := putM_spec nm r.2.2.2 h.rise
  have hle := hr.le
  refine ⟨h.q, h.start, by show T0 ≤ r.2.2.1; omega, hr.max, hp.1, fun e he => ?_⟩
  rcases hp.2.2 e he with rfl | he
  · exact ⟨hr.ten, name_len hn⟩
  · exact ⟨(h.each e he).1.up hle, (h.each e he).2⟩
theorem do_ok {Q : Qt} {T0 : Int} {st : BkS} (h : BkOk Q T0 st) (nm : List UInt8) (q : Rq) : BkOk Q T0 (doB Q st nm q).2.2 := by
  unfold doB
  by_cases he : errB nm q ≠ 0
  · rw [if_pos he]; exact h
  · rw [if_neg he]
    have hlow := h.low
    have hst := h.start
    have he : errB nm q = 0 := by omega
    exact h.put (err_0 he).1 (core_ok he h.q (by omega) h.high (h.ten nm))
theorem new_ok {c : Cf} (h : c.may = true) (hs : c.start ≤ maxTok) : BkOk c.q c.start ⟨c.start, []⟩ := by
  unfold Cf.may at h
  rw [Bool.and_eq_true] at h
  have ha := h.1
  simp [Cf.mayA] at ha
  exact ⟨QtOk.of h.2, by omega, Int.le_refl _, hs, List.Pairwise.nil, fun _ h => by cases h⟩

end Go.Proofs.YtfacfdjapjhpeaaGreatDoor
