/-
  Laws on rows of elements of several cells, for every program: an append with room told by the whole row, clear, what stays.
-/
import Derived.Test.YtogjokofmfpmgaaGreatDoorGAA
import Derived.Deep.RegionLaw
import Derived.Laws.CopyRow
import Derived.Lib.SliceRun
import Derived.Test.YtogjokofmfpmgaaGreatDoorGAB
import Derived.Deep.DeepCutAuto
set_option linter.unusedVariables false
set_option linter.unusedSimpArgs false
namespace Go.Proofs.YtogjokofmfpmgaaGreatDoor
open Go.RowKit

theorem Chg.setRow {S : Nat → Prop} {a w : World} (h : Chg S a w) {g : Nat} (hp : S g ∨ a.heap.size ≤ g) (cs : Array Value) : Chg S a (w.setRow g cs) :=
  h.trans (S1 := One g) ⟨rfl, rfl, rfl, by simp [World.setRow], fun k _ hk => setRow_other w g k cs hk⟩ (fun k hk => by cases hk; exact hp)
theorem Blk.setRow {w : World} {g : Nat} {t : TypeId} {cs : Array Value} (h : Blk w g t cs) (cs' : Array Value) : Blk (w.setRow g cs') g t cs' := setRow_heap w g cs cs' t (0, 0) h
/-- append of at least one element onto an owned row: where it lies then. -/
theorem run_append_row {P : Program} (w : World) (S : Nat → Prop) (t ty e : TypeId) (i : TypeInfo) (z : Value) (size bytes : Nat) (ht : P.underlying t = some (.slice e)) (hi : P.info? e = some i) (hz : i.zero = some z)
    (hsize : i.size = size) (hby : i.bytes = bytes) (hzs : z.cells.size = size) (A : Option Addr) (n cap : Nat) (xs : List Value) (hr : Row w S e size A n cap xs)
    (a : Addr) (m c : Nat) (news : List Value) (hl : news.length = m * size) (hnews : ∀ j u, news[j]? = some u → w.cell? (a.add j) = some u) (h1 : ∀ u ∈ news, u.oneCell' = true)
    (h0 : 0 < m) (h63 : n + m ≤ maxLen) (hbytes : (n + m) * bytes ≤ 140737488355328) :
    ∃ A' c' w', (Builtin.append_ #[t, t] ty #[.slice A n cap, .slice (some a) m c]).run P w = .ok (.slice A' (n + m) c') w' ∧ Row w' (Plus S w.heap.size) e size A' (n + m) c' (xs ++ news) ∧ Chg S w w' := by
  subst hsize
  subst hby
  have hsmall : n + m ≤ 9223372036854775807 := by simp only [maxLen] at h63; omega
  have hlen : (xs ++ news).length = (n + m) * i.size := by rw [List.length_append, hr.len, hl, Nat.add_mul]
  have grown : ∀ (old : Nat),
      Row (w.drew.alloc (.cells (xs.toArray ++ news.toArray ++ Builtin.zeroCells z.cells (grownCap w (n + m) old e - (n + m))) e)) (Plus S w.heap.size) e i.size (some ⟨w.heap.size, 0, none⟩) (n + m) (grownCap w (n + m) old e) (xs ++ news) ∧
      Chg S w (w.drew.alloc (.cells (xs.toArray ++ news.toArray ++ Builtin.zeroCells z.cells (grownCap w (n + m) old e - (n + m))) e)) := by
    intro old
    have hge := grownCap_ge w (n + m) old e
    have hcm : grownCap w (n + m) old e ≤ maxLen := grownCap_le_maxLen w (n + m) old e h63
    refine ⟨Row.of_block (Blk.new w.drew e _) (.inr (Nat.le_refl _)) hge hcm ?_ ?_ hlen, (Chg.refl S w).drew.alloc _⟩
    · simp only [Array.size_append, List.size_toArray, size_zeroCells, hzs, hr.len, hl, ← Nat.add_mul]
      congr 1
      omega
    · simp only [Array.toList_append, List.append_assoc]
      rw [← List.append_assoc, ← hlen]
      exact List.take_left
  cases A with
  | none =>
    obtain ⟨rfl, rfl, rfl⟩ := hr.none_
    have hrun := run_append_nil (P := P) (w := w) t ty e i z ht hi hz a m c news hl hnews h0 (by omega) (by have hb := hbytes; simp only [Nat.zero_add] at hb; omega)
    have hgr := grown 0
    simp only [Nat.zero_add, List.nil_append, Array.empty_append] at hgr ⊢
    exact ⟨_, _, _, hrun, hgr.1, hgr.2⟩
  | some ad =>
    obtain ⟨g, cur, rfl, hS, hb, hnc, hcm, hcs, htake⟩ := hr.block rfl
    by_cases hroom : n + m ≤ cap
    · have hfit : n * i.size + news.length ≤ cur.size := by rw [hl, hcs, ← Nat.add_mul]; exact Nat.mul_le_mul_right _ hroom
      have hrun := run_append_room (P := P) w t ty e i ht hi g n cap cur hb a m c news hl hnews h1 hroom hfit
      refine ⟨_, _, _, hrun, Row.of_block (hb.setRow _) (.inl hS) hroom hcm ?_ ?_ hlen, (Chg.refl S w).setRow (.inl hS) _⟩
      · simp only [List.size_toArray, List.length_append, List.length_take, List.length_drop, Array.length_toList]
        omega
      · rw [htake, ← hlen]
        exact List.take_left
    · have holds : ∀ j u, xs[j]? = some u → w.cell? ((⟨g, 0, none⟩ : Addr).add j) = some u := hr.own.cells (g := g) rfl
      have hrun := run_append_grow (P := P) (w := w) t ty e i z ht hi hz ⟨g, 0, none⟩ n cap xs hr.len holds a m c news hl hnews (by omega) (by omega) (growslice_fits (by omega) hbytes)
      have hgr := grown cap
      exact ⟨_, _, _, hrun, hgr.1, hgr.2⟩

/-- The same as a step of the walk. -/
theorem wpList_append_row {P : Program} {w : World} {Q : Exit → Act → World → Prop} {a : Act} {ops : Array Oper} {rest : List Oper} {o : Oper} (hgd : o.guard = none) (s x : Operand) (t : TypeId)
    (ho : o.op = .call { callee := .builtin .append, args := #[s, x], argTypes := #[t, t] })
    (S : Nat → Prop) (e : TypeId) (i : TypeInfo) (z : Value) (size bytes : Nat) (ht : P.underlying t = some (.slice e)) (hi : P.info? e = some i) (hz : i.zero = some z)
    (hsize : i.size = size) (hby : i.bytes = bytes) (hzs : z.cells.size = size) (A : Option Addr) (n cap : Nat) (xs : List Value) (hs : a.eval s = .slice A n cap) (hr : Row w S e size A n cap xs)
    (ad : Addr) (m c : Nat) (news : List Value) (hx : a.eval x = .slice (some ad) m c) (hl : news.length = m * size) (hnews : ∀ j u, news[j]? = some u → w.cell? (ad.add j) = some u) (h1 : ∀ u ∈ news, u.oneCell' = true)
    (h0 : 0 < m) (h63 : n + m ≤ maxLen) (hbytes : (n + m) * bytes ≤ 140737488355328)
    (h : ∀ A' c' w', Row w' (Plus S w.heap.size) e size A' (n + m) c' (xs ++ news) → Chg S w w' → wpList P ops Q rest (a.put o.dst (.slice A' (n + m) c')) w') : wpList P ops Q (o :: rest) a w :=
  wpList_plain hgd fun K hK => by
    obtain ⟨A', c', w', hrun, h2, h3⟩ := run_append_row (P := P) w S t o.type e i z size bytes ht hi hz hsize hby hzs A n cap xs hr ad m c news hl hnews h1 h0 h63 hbytes
    unfold Oper.wp execOp
    simp only [ho, resolve, invoke, builtin, Sem.run_bind, Sem.run_pure, Result.andThen_ok, List.map_toArray, List.map_cons, List.map_nil, hs, hx, hrun]
    exact hK _ _ (h A' c' w' h2 h3)

end Go.Proofs.YtogjokofmfpmgaaGreatDoor
namespace Go.Proofs.YtogjokofmfpmgaaGreatDoor
open Go.RowKit

/-- The tables that the library reads. -/
def Tbl (w : World) : Prop := Lib.Utf8Tabs 1 2 w ∧ ∃ m, w.cell? ⟨0, 0, none⟩ = some (.int .i64 m)
theorem lt_of_cell {w : World} {a : Addr} {v : Value} (h : w.cell? a = some v) : a.block < w.heap.size := by
  rcases Nat.lt_or_ge a.block w.heap.size with h' | h'
  · exact h'
  · simp [World.cell?, Array.getElem?_eq_none h'] at h
theorem Tbl.below {w w' : World} (h : Tbl w) (hb : Below w.heap.size w w') : Tbl w' :=
  ⟨Utf8Tabs_below h.1 hb, let ⟨m, hm⟩ := h.2; ⟨m, (hb.cell (lt_of_cell hm)).trans hm⟩⟩
theorem valid_calls (s : ByteArray) (hs : s.size ≤ 9223372036854775807) (w : World) (ht : Tbl w) : Calls Tryz.prog 159 #[.string s] w fun e w' => e = .returned (.bool (Lib.validD s.data.toList)) ∧ Below w.heap.size w w' :=
  Any.utf8_ValidString lays196 s w hs ht.1
theorem retTE {a b : ByteArray} {x y : Int} (h : a = b) (k : x = y) : Ending.returned (.tuple #[.string a, .int .i64 x]) = .returned (.tuple #[.string b, .int .i64 y]) := by rw [h, k]
theorem u8Info : (Tryz.prog.info? 5).map (fun i => (i.zero, i.size, i.bytes)) = some (some (.int .u8 0), 1, 1) := by kernel_rfl

theorem cells_at {w : World} {g : Nat} {t : TypeId} {cs : Array Value} {l : List Value} (hb : Blk w g t cs) (hl : cs.toList = l) : ∀ j u, l[j]? = some u → w.cell? ((⟨g, 0, none⟩ : Addr).add j) = some u := by
  intro j u hu
  rw [Addr.add_lit, Nat.zero_add, hb.cell, ← hu, ← hl]
  simp

def enc8 (l : List UInt8) : List Value := l.map fun c => .int .u8 c.toNat
theorem enc8_get (l : List UInt8) (j : Nat) (h : j < l.length) : (enc8 l)[j]? = some (.int .u8 (bt l j)) := by
  rw [bt_list l j h]; simp [enc8, h]
theorem enc8_snoc (l : List UInt8) (c : UInt8) : enc8 (l ++ [c]) = enc8 l ++ [.int .u8 c.toNat] := by simp [enc8]
theorem scanF_fuel : ∀ (n m : Nat) (l : List UInt8), l.length ≤ n → l.length ≤ m → scanF n l = scanF m l
  | 0, m, l, h, _ => by
    have : l = [] := List.eq_nil_of_length_eq_zero (by omega)
    subst this
    cases m <;> simp [scanF]
  | n + 1, 0, l, _, h => by
    have : l = [] := List.eq_nil_of_length_eq_zero (by omega)
    subst this
    simp [scanF]
  | n + 1, m + 1, l, h, k => by
    rw [scanF, scanF]
    by_cases hl : l = []
    · rw [if_pos hl, if_pos hl]
    · rw [if_neg hl, if_neg hl]
      by_cases hb : sgn l = 0 ∨ okC (bt l 0) = false
      · rw [if_pos hb, if_pos hb]
      · rw [if_neg hb, if_neg hb]
        exact scanF_fuel n m _ (by rw [List.length_drop]; omega) (by rw [List.length_drop]; omega)
def scanB (l : List UInt8) : Bool := scanF l.length l
theorem scanB_clean (l : List UInt8) : scanB l = cleanB l := scan_valid l
theorem scanB_step (l : List UInt8) (h : l ≠ []) : scanB l = if sgn l = 0 ∨ okC (bt l 0) = false then false else scanB (l.drop (sgn l)) := by
  unfold scanB
  cases l with
  | nil => exact absurd rfl h
  | cons b t =>
    show scanF (t.length + 1) (b :: t) = _
    rw [scanF, if_neg h]
    by_cases hb : sgn (b :: t) = 0 ∨ okC (bt (b :: t) 0) = false
    · rw [if_pos hb, if_pos hb]
    · rw [if_neg hb, if_neg hb]
      exact scanF_fuel _ _ _ (by rw [List.length_drop, List.length_cons]; omega) (Nat.le_refl _)
theorem cleanB_no (l : List UInt8) (h : cleanB l = false) : cleanT l = [] ∧ cleanE l = 1 := by simp [cleanT, cleanE, h]
theorem cleanB_0 (l : List UInt8) (h : cleanB l = true) (k : sqz l = []) : cleanT l = [] ∧ cleanE l = 14 := by simp [cleanT, cleanE, h, k]
theorem cleanB_64 (l : List UInt8) (h : cleanB l = true) (k : 64 < (sqz l).length) : cleanT l = [] ∧ cleanE l = 2 := by
  have : sqz l ≠ [] := fun e => by rw [e] at k; simp at k
  simp [cleanT, cleanE, h, k, this]
theorem cleanB_ok (l : List UInt8) (h : cleanB l = true) (k : (sqz l).length ≤ 64) (k0 : 0 < (sqz l).length) : cleanT l = sqz l ∧ cleanE l = 0 := by
  have : sqz l ≠ [] := fun e => by rw [e] at k0; simp at k0
  simp [cleanT, cleanE, h, this, show ¬ 64 < (sqz l).length by omega]
theorem okB_all (s : ByteArray) (h : ∀ j, j < s.size → okC (bt s.data.toList j) = true) : s.data.toList.all okB = true := by
  rw [List.all_eq_true]
  intro c hc
  obtain ⟨i, hi, e⟩ := mem_bt hc
  have := h i (by simpa using hi)
  rw [e] at this
  exact this
theorem okB_bad (s : ByteArray) (k : Nat) (hk : k < s.size) (h : okC s[k].toNat = false) : s.data.toList.all okB = false := by
  rw [List.all_eq_false]
  have hl : k < s.data.toList.length := by simpa using hk
  refine ⟨s.data.toList[k], List.getElem_mem hl, ?_⟩
  have e := bt_list _ k hl
  rw [bt_self s k hk] at e
  unfold okB
  rw [← e, h]
  exact Bool.false_ne_true
theorem last_of {O : List UInt8} {m : Nat} (h : O.length = m + 1) : O.getLast? = some 32 ↔ bt O m = 32 := by
  have hm : m < O.length := by omega
  rw [List.getLast?_eq_getElem?, h, Nat.add_sub_cancel, bt_list O m hm, List.getElem?_eq_getElem hm]
  constructor
  · intro e; injection e with e; rw [e]; rfl
  · intro e; rw [show O[m] = 32 from UInt8.toNat_inj.1 e]
theorem trimE_yes {O : List UInt8} {m : Nat} (h : O.length = m + 1) (k : bt O m = 32) : trimE O = O.take m := by
  rw [trimE, if_pos ((last_of h).2 k), List.dropLast_eq_take, h, Nat.add_sub_cancel]
theorem trimE_no {O : List UInt8} {m : Nat} (h : O.length = m + 1) (k : ¬ bt O m = 32) : trimE O = O := by
  rw [trimE, if_neg (fun e => k ((last_of h).1 e))]
theorem sq_skip0 (O : List UInt8) (c : UInt8) (hc : c.toNat = 32) (h : O.length = 0) : sq O c = O := by
  rw [sq, if_pos ⟨UInt8.toNat_inj.1 hc, .inl (List.eq_nil_of_length_eq_zero h)⟩]
theorem sq_skip {O : List UInt8} {m : Nat} (c : UInt8) (hc : c.toNat = 32) (h : O.length = m + 1) (k : bt O m = 32) : sq O c = O := by
  rw [sq, if_pos ⟨UInt8.toNat_inj.1 hc, .inr ((last_of h).2 k)⟩]
theorem sq_put {O : List UInt8} {m : Nat} (c : UInt8) (h : O.length = m + 1) (k : ¬ bt O m = 32) : sq O c = O ++ [c] := by
  rw [sq, if_neg]
  rintro ⟨_, e | e⟩
  · rw [e] at h; cases h
  · exact k ((last_of h).1 e)
theorem sq_other (O : List UInt8) (c : UInt8) (hc : ¬ c.toNat = 32) : sq O c = O ++ [c] := by
  rw [sq, if_neg]
  rintro ⟨e, _⟩
  rw [e] at hc
  exact hc rfl


set_option maxRecDepth 100000 in
set_option maxHeartbeats 4000000 in
theorem clean_calls (s : ByteArray) (hs : s.size ≤ 1000000) (w : World) (ht : Tbl w) : Calls Tryz.prog 142 #[.string s] w fun e w' => e = .returned (.tuple #[.string (bs (cleanT s.data.toList)), .int .i64 (cleanE s.data.toList)]) ∧ Below w.heap.size w w' := by
  have HL := hd (show s.data.toList.length = s.size by simp)
  obtain ⟨T, hT⟩ : ∃ T, cleanT s.data.toList = T := ⟨_, rfl⟩
  obtain ⟨E, hE⟩ : ∃ E, cleanE s.data.toList = E := ⟨_, rfl⟩
  rw [hT, hE]
  have HR := hd (⟨hT.symm, hE.symm⟩ : T = cleanT s.data.toList ∧ E = cleanE s.data.toList)
  clear hT hE
  obtain ⟨i0, hi, hz0, hz1, hz2⟩ := info_parts u8Info
  have HT := hd ht
  clear ht
  go_enter Tryz.func142, Tryz.ntmps142
  go_wp2_with fail
  refine (valid_calls s (by omega) w HT.o).mono ?_
  rintro e w1 ⟨rfl, hb1⟩
  have HB1 := hd hb1
  cases hv : Lib.validD s.data.toList with
  | false =>
    have HZ := hd (cleanB_no s.data.toList (by simp [cleanB, hv]))
    clear hv
    go_wp2
    go_ret2
    exact ⟨retTE (by rw [HR.o.1, HZ.o.1]; rfl) (by rw [HR.o.2, HZ.o.2]), hb1⟩
  | true =>
    have HV := hd hv
    clear hv
    go_wp2
    go_loop [4, 13] (fun _ i => ∃ k : Nat, i = .int .i64 k ∧ k ≤ s.size ∧ Hd (∀ j, j < k → okC (bt s.data.toList j) = true)) (fun _ i => s.size - (intOf i).toNat)
    case atStart => exact ⟨0, rfl, Nat.zero_le _, fun j hj => absurd hj (Nat.not_lt_zero _)⟩
    case round =>
      obtain ⟨k, rfl, hk, hh⟩ := hrel
      by_cases hlt : k < s.size
      · have hki : (0 : Int) ≤ (k : Int) := by omega
        by_cases hc : 32 ≤ s[k].toNat ∧ s[k].toNat ≠ 127
        · have HN : Hd (∀ j, j < k + 1 → okC (bt s.data.toList j) = true) := fun j hj => by
            by_cases e : j = k
            · subst e; rw [bt_self s _ hlt]; simp [okC, hc]
            · exact hh.o j (by omega)
          obtain ⟨hc1, hc2⟩ := hc
          have n127 : ((s[k].toNat : Int) == 127) = false := by simp; omega
          clear hc2
          go_wp2
          go_round
          case rel => exact ⟨k + 1, by go_num, by omega, HN⟩
          case measure => simp [intOf]; omega
        · have HZ := hd (cleanB_no s.data.toList (by
            have := okB_bad s k hlt (by simp [okC]; omega)
            simp [cleanB, this]))
          by_cases hc1 : s[k].toNat < 32
          · clear hc
            go_wp2
            go_ret2
            exact ⟨retTE (by rw [HR.o.1, HZ.o.1]; rfl) (by rw [HR.o.2, HZ.o.2]), hb1⟩
          · have n127 : ((s[k].toNat : Int) == 127) = true := by simp; omega
            clear hc
            go_wp2
            go_ret2
            exact ⟨retTE (by rw [HR.o.1, HZ.o.1]; rfl) (by rw [HR.o.2, HZ.o.2]), hb1⟩
      · have hke : k = s.size := by omega
        subst hke
        have HCL := hd (show cleanB s.data.toList = true by simp [cleanB, HV.o, okB_all s hh.o])
        clear hb1
        go_wp2
        clear hh
        obtain ⟨wo, rfl⟩ : ∃ wo : World, wo = w1 := ⟨_, rfl⟩
        go_loopw [5, 6, 29] (fun out _ i wr => ∃ (k : Nat) (A : Option Addr) (c m : Nat) (O : List UInt8), i = .int .i64 k ∧ k ≤ s.size ∧ out = .slice A m c ∧ m ≤ k ∧ Hd ((s.data.toList.take k).foldl sq [] = O) ∧ Hd (O.length = m) ∧ Row wr (From w.heap.size) 5 1 A m c (enc8 O) ∧ Below w.heap.size w wr) (fun _ _ i _ => s.size - (intOf i).toNat)
        case atStart => exact ⟨0, none, 0, 0, [], rfl, Nat.zero_le _, rfl, Nat.le_refl _, rfl, rfl, Row.nil _ _ _ _, HB1.o⟩
        case round =>
          obtain ⟨k, A, c, m, O, rfl, hk, rfl, hm, HO, HM, hr, hbe⟩ := hrel
          have hsz := hbe.size
          have hki : (0 : Int) ≤ (k : Int) := by omega
          by_cases hlt : k < s.size
          · by_cases h32 : s[k].toNat = 32
            · have n32 : ((s[k].toNat : Int) == 32) = true := by simp; omega
              have H32 := hd h32
              clear h32
              by_cases hm0 : m = 0
              · have HM0 := hd hm0
                obtain rfl := hm0
                go_wp2_with fail
                go_roundw
                case rel => exact ⟨k + 1, A, c, 0, O, by go_num, by omega, rfl, by omega, hd (by rw [fold_take s k hlt, HO.o]; exact sq_skip0 O _ H32.o HM.o), HM, hr, hbe⟩
                case measure => simp [intOf]; omega
              · obtain ⟨m', hm'⟩ : ∃ m', m = m' + 1 := ⟨m - 1, by omega⟩
                have n0 : ((m : Int) == 0) = false := by simp; omega
                obtain ⟨g, hA, _, hg, hmc, hcm, hcell, _⟩ := hr.at_ (by omega)
                unfold maxLen at hcm
                have hlast := hcell m' _ (enc8_get O m' (by rw [HM.o]; omega))
                have e1 : (m : Int) - 1 = (m' : Int) := by omega
                have HM' := hd hm'
                have hm1 : m' < m := by omega
                have hm2 : m ≤ 1000000 := by omega
                clear hm' hcell hm0
                subst hA
                by_cases hl : bt O m' = 32
                · have HLL := hd hl
                  rw [hl] at hlast
                  clear hl
                  go_wp2_with fail
                  go_roundw
                  case rel => exact ⟨k + 1, some ⟨g, 0, none⟩, c, m, O, by go_num, by omega, rfl, by omega, hd (by rw [fold_take s k hlt, HO.o]; exact sq_skip _ H32.o (HM.o.trans HM'.o) HLL.o), HM, hr, hbe⟩
                  case measure => simp [intOf]; omega
                · have nl : ((bt O m' : Int) == 32) = false := by simp; omega
                  have HLL := hd hl
                  clear hl
                  go_wp2_with (at_builtin; go_loud (refine wpList_append_row rfl _ _ 27 rfl (Of (some ⟨g, 0, none⟩)) 5 i0 (.int .u8 0) 1 1 Tryz.underlying27 hi hz0 hz1 hz2 rfl (some ⟨g, 0, none⟩) m c (enc8 O) rfl (hr.own_.alloc _) ⟨_, 0, none⟩ 1 1 [.int .u8 (s[k].toNat : Int)] rfl rfl (cells_at (Blk.new_ _ _ (by simp) _ _) rfl) (by simp [Value.oneCell']) (by omega) (by unfold maxLen; omega) (by omega) ?_; intro A2 c2 w2 hown2 hchg2))
                  go_roundw
                  case rel =>
                    refine ⟨k + 1, A2, c2, m + 1, O ++ [s[k]], by go_num, by omega, rfl, by omega, hd (by rw [fold_take s k hlt, HO.o]; exact sq_put _ (HM.o.trans HM'.o) HLL.o), hd (by rw [List.length_append, HM.o]; rfl), ?_, ?_⟩
                    · rw [enc8_snoc]
                      refine hown2.mono fun q hq => ?_
                      rcases hq with hq | hq
                      · exact hr.of_sub q hq
                      · simp at hq; show w.heap.size ≤ q; omega
                    · exact hbe.trans ((((Chg.refl (From w.heap.size) wr).alloc _).trans hchg2 (fun q hq => .inl (hr.of_sub q hq))).below (fun _ h => h) hsz)
                  case measure => simp [intOf]; omega
            · have n32 : ((s[k].toNat : Int) == 32) = false := by simp; omega
              have H32 := hd h32
              clear h32
              go_wp2_with (at_builtin; go_loud (refine wpList_append_row rfl _ _ 27 rfl (Of A) 5 i0 (.int .u8 0) 1 1 Tryz.underlying27 hi hz0 hz1 hz2 rfl A m c (enc8 O) rfl (hr.own_.alloc _) ⟨_, 0, none⟩ 1 1 [.int .u8 (s[k].toNat : Int)] rfl rfl (cells_at (Blk.new_ _ _ (by simp) _ _) rfl) (by simp [Value.oneCell']) (by omega) (by unfold maxLen; omega) (by omega) ?_; intro A2 c2 w2 hown2 hchg2))
              go_roundw
              case rel =>
                refine ⟨k + 1, A2, c2, m + 1, O ++ [s[k]], by go_num, by omega, rfl, by omega, hd (by rw [fold_take s k hlt, HO.o]; exact sq_other O _ H32.o), hd (by rw [List.length_append, HM.o]; rfl), ?_, ?_⟩
                · rw [enc8_snoc]
                  refine hown2.mono fun q hq => ?_
                  rcases hq with hq | hq
                  · exact hr.of_sub q hq
                  · simp at hq; show w.heap.size ≤ q; omega
                · exact hbe.trans ((((Chg.refl (From w.heap.size) wr).alloc _).trans hchg2 (fun q hq => .inl (hr.of_sub q hq))).below (fun _ h => h) hsz)
              case measure => simp [intOf]; omega
          · have hke : k = s.size := by omega
            subst hke
            clear hk
            have hfold : s.data.toList.take s.size = s.data.toList := List.take_of_length_le (by rw [HL.o]; exact Nat.le_refl _)
            rw [hfold] at HO
            clear hfold
            by_cases hm0 : m = 0
            · have HZ := hd (cleanB_0 _ HCL.o (by
                have : O = [] := List.eq_nil_of_length_eq_zero (HM.o.trans hm0)
                unfold sqz
                rw [HO.o, this]; rfl))
              have HM0 := hd hm0
              obtain rfl := hm0
              go_wp2
              go_ret2
              exact ⟨retTE (by rw [HR.o.1, HZ.o.1]; rfl) (by rw [HR.o.2, HZ.o.2]), hbe⟩
            · obtain ⟨m', rfl⟩ : ∃ m', m = m' + 1 := ⟨m - 1, by omega⟩
              clear hm0
              obtain ⟨g, rfl, _, hg, hmc, hcm, hcell, _⟩ := hr.at_ (by omega)
              unfold maxLen at hcm
              have hlast := hcell m' _ (enc8_get O m' (by rw [HM.o]; omega))
              have e1 : ((m' + 1 : Nat) : Int) - 1 = (m' : Int) := by omega
              by_cases h32 : bt O m' = 32
              · have H32 := hd h32
                rw [h32] at hlast
                clear h32
                have hfin : sqz s.data.toList = O.take m' := by unfold sqz; rw [HO.o]; exact trimE_yes HM.o H32.o
                have hlen : (O.take m').length = m' := by rw [List.length_take, HM.o]; omega
                have HFN := hd hfin
                have HLN := hd hlen
                clear hfin
                have hv := run_convert_bytes_back (P := Tryz.prog) wr 27 9 5 ⟨g, 0, none⟩ c (O.take m') Tryz.underlying27 Tryz.underlying5 Tryz.underlying9 (fun j hj => by
                  have hjO : j < O.length := by rw [HLN.o] at hj; rw [HM.o]; omega
                  have := hcell j _ (enc8_get O j hjO)
                  rw [bt_list O j hjO] at this
                  have hp : (⟨g, 0, none⟩ : Addr).add j = ⟨g, j, none⟩ := by unfold Addr.add; split <;> simp_all
                  rw [hp]
                  simpa using this)
                rw [hlen] at hv
                clear hlen
                by_cases q0 : m' = 0
                · have HZ := hd (cleanB_0 _ HCL.o (by rw [HFN.o]; exact List.eq_nil_of_length_eq_zero (HLN.o.trans q0)))
                  subst q0
                  clear hv
                  go_wp2
                  go_ret2
                  exact ⟨retTE (by rw [HR.o.1, HZ.o.1]; rfl) (by rw [HR.o.2, HZ.o.2]), hbe⟩
                · have n0 : ((m' : Int) == 0) = false := by simp; omega
                  have q0p : 1 ≤ m' := by omega
                  clear q0
                  by_cases q1 : 64 < m'
                  · clear hv
                    have HZ := hd (cleanB_64 _ HCL.o (by rw [HFN.o, HLN.o]; omega))
                    go_wp2
                    go_ret2
                    exact ⟨retTE (by rw [HR.o.1, HZ.o.1]; rfl) (by rw [HR.o.2, HZ.o.2]), hbe⟩
                  · have HZ := hd (cleanB_ok _ HCL.o (by rw [HFN.o, HLN.o]; omega) (by rw [HFN.o, HLN.o]; omega))
                    go_wp2
                    go_ret2
                    exact ⟨retTE (by rw [HR.o.1, HZ.o.1, HFN.o]; rfl) (by rw [HR.o.2, HZ.o.2]), hbe⟩
              · have n32 : ((bt O m' : Int) == 32) = false := by simp; omega
                have H32 := hd h32
                clear h32
                have hfin : sqz s.data.toList = O := by unfold sqz; rw [HO.o]; exact trimE_no HM.o H32.o
                have hlen : (O).length = m' + 1 := HM.o
                have HFN := hd hfin
                have HLN := hd hlen
                clear hfin
                have hv := run_convert_bytes_back (P := Tryz.prog) wr 27 9 5 ⟨g, 0, none⟩ c (O) Tryz.underlying27 Tryz.underlying5 Tryz.underlying9 (fun j hj => by
                  have hjO : j < O.length := by rw [HLN.o] at hj; rw [HM.o]; omega
                  have := hcell j _ (enc8_get O j hjO)
                  rw [bt_list O j hjO] at this
                  have hp : (⟨g, 0, none⟩ : Addr).add j = ⟨g, j, none⟩ := by unfold Addr.add; split <;> simp_all
                  rw [hp]
                  simpa using this)
                rw [hlen] at hv
                clear hlen
                by_cases q1 : 64 < m' + 1
                · clear hv
                  have HZ := hd (cleanB_64 _ HCL.o (by rw [HFN.o, HLN.o]; omega))
                  go_wp2
                  go_ret2
                  exact ⟨retTE (by rw [HR.o.1, HZ.o.1]; rfl) (by rw [HR.o.2, HZ.o.2]), hbe⟩
                · have HZ := hd (cleanB_ok _ HCL.o (by rw [HFN.o, HLN.o]; omega) (by rw [HFN.o, HLN.o]; omega))
                  go_wp2
                  go_ret2
                  exact ⟨retTE (by rw [HR.o.1, HZ.o.1, HFN.o]; rfl) (by rw [HR.o.2, HZ.o.2]), hbe⟩

end Go.Proofs.YtogjokofmfpmgaaGreatDoor
namespace Go.Proofs.YtogjokofmfpmgaaGreatDoor
open Go.RowKit

theorem contains_calls (s : ByteArray) (hs : s.size ≤ 1000000000) (w : World) (ht : Tbl w) : Calls Tryz.prog 200 #[.string s, .string ⟨#[46, 46]⟩] w fun e w' => e = .returned (.bool (Lib.contains s.data.toList [46, 46])) ∧ w = w' := by
  obtain ⟨m, hm⟩ := ht.2
  exact (Any.strings_Contains { laysM144 with } s ⟨#[46, 46]⟩ m w (by omega) hm).mono fun _ _ ⟨a, b⟩ => ⟨a, b.symm⟩

set_option maxHeartbeats 4000000 in
theorem isLocal_calls (s : ByteArray) (hs : s.size ≤ 1000000000) (w : World) (ht : Tbl w) : Calls Tryz.prog 192 #[.string s] w fun e w' => e = .returned (.bool (locB s.data.toList)) ∧ w = w' := by
  have hl : s.data.toList.length = s.size := by simp
  obtain ⟨v, hv⟩ : ∃ v, locB s.data.toList = v := ⟨_, rfl⟩
  rw [hv]
  have HF := hd (fun h => hv.symm.trans (locB_f h) : ¬ LocP s.data.toList → v = false)
  have HT := hd (fun h => hv.symm.trans (locB_t h) : LocP s.data.toList → v = true)
  clear hv
  have HL := hd hl
  clear hl
  by_cases c1 : s.size < 1
  · go_enter Tryz.func192, Tryz.ntmps192
    go_wp2
    go_ret
    exact ⟨retB (HF.o (fun h => by have := h.1; rw [HL.o] at this; omega)).symm, rfl⟩
  by_cases c2 : 32 < s.size
  · go_enter Tryz.func192, Tryz.ntmps192
    go_wp2
    go_ret
    exact ⟨retB (HF.o (fun h => by have := h.2.1; rw [HL.o] at this; omega)).symm, rfl⟩
  have c3 : 0 < s.size := by omega
  have c4 : s.size - 1 < s.size := by omega
  have B0 := hd (bt_self s 0 c3)
  have B1 := hd (bt_self s (s.size - 1) c4)
  by_cases c5 : s[0].toNat = 46
  · have n5 : ((s[0].toNat : Int) == 46) = true := by simp; omega
    have H5 := hd c5
    clear c5
    go_enter Tryz.func192, Tryz.ntmps192
    go_wp2
    go_ret
    exact ⟨retB (HF.o (fun h => h.2.2.1 (B0.o.trans H5.o))).symm, rfl⟩
  have n5 : ((s[0].toNat : Int) == 46) = false := by simp; omega
  by_cases c6 : s[s.size - 1].toNat = 46
  · have n6 : ((s[s.size - 1].toNat : Int) == 46) = true := by simp; omega
    have H6 := hd c6
    clear c6 c5
    go_enter Tryz.func192, Tryz.ntmps192
    go_wp2
    go_ret
    exact ⟨retB (HF.o (fun h => h.2.2.2.1 (by rw [HL.o]; exact B1.o.trans H6.o))).symm, rfl⟩
  have n6 : ((s[s.size - 1].toNat : Int) == 46) = false := by simp; omega
  have H5 := hd c5
  have H6 := hd c6
  clear c5 c6
  have hcall := contains_calls s hs w ht
  by_cases c7 : dd s.data.toList
  · rw [(contains_dd _).2 c7] at hcall
    have HV := hd (HF.o (fun h => h.2.2.2.2.1 c7))
    have HC := hd hcall
    clear hcall c7
    go_enter Tryz.func192, Tryz.ntmps192
    go_wp2_with (go_at_call 200; refine HC.o.mono ?_; rintro e w' ⟨rfl, rfl⟩)
    go_ret
    exact ⟨retB HV.o.symm, rfl⟩
  · rw [show Lib.contains s.data.toList [46, 46] = false by
      cases hx : Lib.contains s.data.toList [46, 46] with
      | false => rfl
      | true => exact absurd ((contains_dd _).1 hx) c7] at hcall
    have H7 := hd c7
    have HC := hd hcall
    clear hcall c7
    go_enter Tryz.func192, Tryz.ntmps192
    go_wp2_with (go_at_call 200; refine HC.o.mono ?_; rintro e w' ⟨rfl, rfl⟩)
    go_loop [33] (fun i => ∃ k : Nat, i = .int .i64 k ∧ k ≤ s.size ∧ Hd (∀ j, j < k → locC (bt s.data.toList j))) (fun i => s.size - (intOf i).toNat)
    case atStart => exact ⟨0, rfl, Nat.zero_le _, fun j hj => absurd hj (Nat.not_lt_zero _)⟩
    case round =>
      obtain ⟨k, rfl, hk, hh⟩ := hrel
      by_cases hlt : k < s.size
      · have BK := hd (bt_self s k hlt)
        by_cases hc : locC s[k].toNat
        · have HN : Hd (∀ j, j < k + 1 → locC (bt s.data.toList j)) := fun j hj => by
            by_cases e : j = k
            · subst e; rw [BK.o]; exact hc
            · exact hh.o j (by omega)
          unfold locC at hc
          go_wp2
          all_goals first
            | (exfalso; omega)
            | (exfalso; simp only [bne_iff_ne, ne_eq, beq_iff_eq, bne_eq_false_iff_eq, beq_eq_false_iff_ne, bne_self_eq_false, Bool.false_eq_true, Bool.not_eq_false', Bool.not_eq_true', decide_eq_true_eq, decide_eq_false_iff_not] at *; omega)
            | (go_round
               case rel => exact ⟨k + 1, by go_num, by omega, HN⟩
               case measure => simp [intOf]; omega)
        · have HV := hd (HF.o (fun h => hc (by rw [← BK.o]; exact h.2.2.2.2.2 k (by rw [HL.o]; exact hlt))))
          unfold locC at hc
          have m46 : ((s[k].toNat : Int) != 46) = true := by simp; omega
          have m95 : ((s[k].toNat : Int) != 95) = true := by simp; omega
          have m43 : ((s[k].toNat : Int) != 43) = true := by simp; omega
          have m45 : ((s[k].toNat : Int) != 45) = true := by simp; omega
          go_wp2
          all_goals first
            | (exfalso; omega)
            | (exfalso; simp only [bne_iff_ne, ne_eq, beq_iff_eq, bne_eq_false_iff_eq, beq_eq_false_iff_ne, bne_self_eq_false, Bool.false_eq_true, Bool.not_eq_false', Bool.not_eq_true', decide_eq_true_eq, decide_eq_false_iff_not] at *; omega)
            | (go_ret; exact ⟨retB HV.o.symm, rfl⟩)
      · have : k = s.size := by omega
        subst this
        go_wp2
        go_ret
        exact ⟨retB (HT.o ⟨by rw [HL.o]; omega, by rw [HL.o]; omega, by rw [B0.o]; exact H5.o, by rw [HL.o, B1.o]; exact H6.o, H7.o, fun i hi => hh.o i (by rw [HL.o] at hi; exact hi)⟩).symm, rfl⟩

end Go.Proofs.YtogjokofmfpmgaaGreatDoor
namespace Go.Proofs.YtogjokofmfpmgaaGreatDoor
open Go.RowKit

theorem cut_calls (s : ByteArray) (hs : s.size ≤ 1000000000) (w : World) (ht : Tbl w) : Calls Tryz.prog 104 #[.string s, .string ⟨#[64]⟩] w fun e w' => (e = .returned (if 64 ∈ s.data.toList then .tuple #[.string (bs (bef 64 s.data.toList)), .string (bs (aft 64 s.data.toList)), .bool true] else .tuple #[.string s, .string (bs []), .bool false])) ∧ Below w.heap.size w w' := by
  obtain ⟨m, hm⟩ := ht.2
  refine (Any.strings_Cut { laysM145 with } s ⟨#[64]⟩ m w (by omega) hm).mono ?_
  rintro e w' ⟨rfl, n, rfl⟩
  refine ⟨?_, bdrewN (Below.refl _ _) _⟩
  rw [show (⟨#[64]⟩ : ByteArray).data.toList = [64] from rfl, cut_one]
  by_cases h : 64 ∈ s.data.toList
  · rw [if_pos h, if_pos h]; rfl
  · rw [if_neg h, if_neg h]; rfl
/-- The labels, as strings. -/
theorem split_calls (s : ByteArray) (hs : s.size ≤ 1000000000) (w : World) (ht : Tbl w) : Calls Tryz.prog 193 #[.string s, .string ⟨#[46]⟩] w fun e w' => ∃ L : List ByteArray, L.map (·.data.toList) = splitC 46 s.data.toList ∧ e = .returned (.slice (some ⟨w.heap.size, 0, none⟩) L.length L.length) ∧ w' = w.alloc (.cells (L.map Value.string).toArray 9) := by
  obtain ⟨m, hm⟩ := ht.2
  refine (Any.strings_Split { laysM146 with } laysM146.i9 s ⟨#[46]⟩ m w (by omega) hm (by decide)).mono ?_
  rintro e w' ⟨rfl, rfl⟩
  have hd := Lib.splitB_data ⟨#[46]⟩ 0 (Lib.countB s ⟨#[46]⟩) s
  have hl := Lib.splitB_all ⟨#[46]⟩ (by decide) 0 _ s rfl
  refine ⟨Lib.splitB ⟨#[46]⟩ 0 (Lib.countB s ⟨#[46]⟩) s, hd.trans (split_one 46 s.data.toList), ?_, rfl⟩
  rw [hl]

theorem splitC_len (c : UInt8) : ∀ l : List UInt8, (splitC c l).length ≤ l.length + 1
  | [] => by simp [splitC]
  | b :: l => by
    have ih := splitC_len c l
    rw [splitC]
    split
    · simp; omega
    · split
      · next h t e => rw [e] at ih; simp at ih ⊢; omega
      · simp
theorem splitC_mem_len (c : UInt8) : ∀ (l x : List UInt8), x ∈ splitC c l → x.length ≤ l.length
  | [], x, h => by simp [splitC] at h; subst h; simp
  | b :: l, x, h => by
    have ih := splitC_mem_len c l
    rw [splitC] at h
    split at h
    · rcases List.mem_cons.1 h with rfl | h
      · simp
      · have := ih x h; simp; omega
    · split at h
      · next q t e =>
        rw [e] at ih
        rcases List.mem_cons.1 h with rfl | h
        · have := ih q (by simp); simp; omega
        · have := ih x (by simp [h]); simp; omega
      · simp at h; subst h; simp

theorem part_no {l : List UInt8} (h : ¬ AddrP l) : ([] : List UInt8) = partA l ∧ ([] : List UInt8) = partB l ∧ false = addrB l := by
  simp [partA, partB, addrB_f h]
theorem part_yes {l : List UInt8} (h : AddrP l) : bef 64 l = partA l ∧ aft 64 l = partB l ∧ true = addrB l := by
  simp [partA, partB, addrB_t h]
theorem bef_le (c : UInt8) (l : List UInt8) : (bef c l).length ≤ l.length := by
  unfold bef; exact (List.takeWhile_prefix _).length_le
theorem aft_le (c : UInt8) (l : List UInt8) : (aft c l).length ≤ l.length := by
  unfold aft
  rw [List.length_tail]
  have := (List.dropWhile_suffix (l := l) (fun x => x != c)).length_le
  omega

set_option maxRecDepth 100000 in
set_option maxHeartbeats 4000000 in
theorem parts_calls (s : ByteArray) (hs : s.size ≤ 1000000000) (w : World) (ht : Tbl w) : Calls Tryz.prog 179 #[.string s] w fun e w' => e = .returned (.tuple #[.string (bs (partA s.data.toList)), .string (bs (partB s.data.toList)), .bool (addrB s.data.toList)]) ∧ Below w.heap.size w w' := by
  obtain ⟨V, hV⟩ : ∃ V, Value.tuple #[.string (bs (partA s.data.toList)), .string (bs (partB s.data.toList)), .bool (addrB s.data.toList)] = V := ⟨_, rfl⟩
  rw [hV]
  have HNO := hd (fun (h : ¬ AddrP s.data.toList) => by rw [← hV, ← (part_no h).1, ← (part_no h).2.1, ← (part_no h).2.2] : ¬ AddrP s.data.toList → V = .tuple #[.string (bs []), .string (bs []), .bool false])
  have HYES := hd (fun (h : AddrP s.data.toList) => by rw [← hV, ← (part_yes h).1, ← (part_yes h).2.1, ← (part_yes h).2.2] : AddrP s.data.toList → V = .tuple #[.string (bs (bef 64 s.data.toList)), .string (bs (aft 64 s.data.toList)), .bool true])
  clear hV
  have HL := hd (show s.data.toList.length = s.size by simp)
  have HT := hd ht
  clear ht
  by_cases c1 : 64 < s.size
  · have HV := hd (HNO.o (fun h => by have := h.1; rw [HL.o] at this; omega))
    go_enter Tryz.func179, Tryz.ntmps179
    go_wp2
    go_ret3
    exact ⟨by rw [HV.o]; rfl, Below.refl _ _⟩
  have hcut := cut_calls s hs w HT.o
  by_cases c2 : 64 ∈ s.data.toList
  · rw [if_pos c2] at hcut
    have HC := hd hcut
    have H2 := hd c2
    clear hcut c2
    have hla := bef_le 64 s.data.toList
    have hlb := aft_le 64 s.data.toList
    rw [HL.o] at hla hlb
    obtain ⟨a, ha⟩ : ∃ a, bef 64 s.data.toList = a := ⟨_, rfl⟩
    obtain ⟨b, hb⟩ : ∃ b, aft 64 s.data.toList = b := ⟨_, rfl⟩
    rw [ha, hb] at HC HYES
    rw [ha] at hla
    rw [hb] at hlb
    have HA := hd ha
    have HB := hd hb
    clear ha hb
    have za : (bs a).size = a.length := by simp [bs, ByteArray.size]
    have zb : (bs b).size = b.length := by simp [bs, ByteArray.size]
    have hloc := isLocal_calls (bs a) (by omega)
    rw [bs_data] at hloc
    by_cases c3 : LocP a
    · rw [locB_t c3] at hloc
      have HLOC := hd hloc
      have H3 := hd c3
      clear hloc c3
      go_enter Tryz.func179, Tryz.ntmps179
      go_wp2_with fail
      refine HC.o.mono ?_
      rintro e w1 ⟨rfl, hb1⟩
      have HB1 := hd hb1
      clear hb1
      go_wp2_with fail
      refine (HLOC.o w1 (HT.o.below HB1.o)).mono ?_
      rintro e w' ⟨rfl, rfl⟩
      go_wp2_with fail
      refine (split_calls (bs b) (by omega) w1 (HT.o.below HB1.o)).mono ?_
      rintro e w2 ⟨L, hL, rfl, rfl⟩
      rw [bs_data] at hL
      obtain ⟨n, hn⟩ : ∃ n, L.length = n := ⟨_, rfl⟩
      rw [hn]
      have HLL := hd hL
      have HN := hd hn
      obtain ⟨X, hX⟩ : ∃ X, X = w1.alloc (.cells (L.map Value.string).toArray 9) := ⟨_, rfl⟩
      rw [← hX]
      have KX := hd (hX ▸ Blk.new w1 9 (L.map Value.string).toArray : Blk X w1.heap.size 9 (L.map Value.string).toArray)
      have BX := hd (hX ▸ HB1.o.alloc HB1.o.size _ : Below w.heap.size w X)
      have hnl : n ≤ 1000000 := by
        have h1 := congrArg List.length hL
        rw [List.length_map, hn] at h1
        have := splitC_len 46 b
        omega
      have hn1 : 1 ≤ n := by
        have h1 := congrArg List.length hL
        rw [List.length_map, hn] at h1
        have := splitC_ne 46 b
        rcases Nat.eq_zero_or_pos n with h0 | h0
        · exact absurd (List.eq_nil_of_length_eq_zero (by omega)) this
        · exact h0
      clear hX hL hn
      go_wp2_with fail
      go_loop [2, 3, 28] (fun x y i => x = .string (bs a) ∧ y = .string (bs b) ∧ ∃ k : Nat, i = .int .i64 k ∧ k ≤ n ∧ (0 < k → 2 ≤ n) ∧ Hd (∀ j, j < k → LabP (L.getD j ByteArray.empty).data.toList)) (fun _ _ i => n - (intOf i).toNat)
      case atStart => exact ⟨rfl, rfl, 0, rfl, Nat.zero_le _, fun h => absurd h (Nat.lt_irrefl _), fun j hj => absurd hj (Nat.not_lt_zero _)⟩
      case round =>
        obtain ⟨rfl, rfl, k, rfl, hk, hk2, hh⟩ := hrel
        have hki : (0 : Int) ≤ (k : Int) := by omega
        by_cases hlt : k < n
        · have hkL : k < L.length := by rw [HN.o]; exact hlt
          have hc := KX.o.at_ k (v := .string L[k]) (by simp [hkL])
          have hlab := isLabel_calls L[k] (by
            have hm : L[k].data.toList ∈ splitC 46 b := by rw [← HLL.o]; exact List.mem_map_of_mem (List.getElem_mem hkL)
            have := splitC_mem_len 46 b _ hm
            simp at this
            omega) X
          have hgd : L.getD k ByteArray.empty = L[k] := by simp [hkL]
          obtain ⟨t, ht⟩ : ∃ t, L[k] = t := ⟨_, rfl⟩
          rw [ht] at hc hlab hgd
          have HGD := hd hgd
          have HTT := hd ht
          clear hgd ht
          by_cases hn2 : n < 2
          · have HV := hd (HNO.o (fun h => by
              have := h.2.2.2.1
              rw [HB.o, ← HLL.o, List.length_map, HN.o] at this
              omega))
            clear hlab
            go_wp2_with fail
            go_ret3
            exact ⟨by rw [HV.o]; rfl, BX.o⟩
          · by_cases c4 : LabP t.data.toList
            · rw [labB_t c4] at hlab
              have HLAB := hd hlab
              have HNX : Hd (∀ j, j < k + 1 → LabP (L.getD j ByteArray.empty).data.toList) := fun j hj => by
                by_cases e : j = k
                · subst e; rw [HGD.o]; exact c4
                · exact hh.o j (by omega)
              clear hlab c4
              go_wp2_with (go_at_call 194; refine HLAB.o.mono ?_; rintro e w' ⟨rfl, rfl⟩)
              go_round
              case rel => exact ⟨rfl, rfl, k + 1, by go_num, by omega, by omega, HNX⟩
              case measure => simp [intOf]; omega
            · have HV := hd (HNO.o (fun h => c4 (h.2.2.2.2 _ (by
                rw [HB.o, ← HLL.o, ← HTT.o]
                exact List.mem_map_of_mem (List.getElem_mem hkL)))))
              rw [labB_f c4] at hlab
              have HLAB := hd hlab
              clear hlab c4
              go_wp2_with (go_at_call 194; refine HLAB.o.mono ?_; rintro e w' ⟨rfl, rfl⟩)
              go_ret3
              exact ⟨by rw [HV.o]; rfl, BX.o⟩
        · have hke : k = n := by omega
          have HV := hd (HYES.o ⟨by rw [HL.o]; omega, H2.o, by rw [HA.o]; exact H3.o, by rw [HB.o, ← HLL.o, List.length_map, HN.o]; omega, by
            rw [HB.o, ← HLL.o]
            intro x hx
            obtain ⟨y, hy, rfl⟩ := List.mem_map.1 hx
            obtain ⟨i, hi, e⟩ := List.getElem_of_mem hy
            have := hh.o i (by rw [HN.o] at hi; omega)
            simp only [List.getD_eq_getElem?_getD, List.getElem?_eq_getElem hi, Option.getD_some, e] at this
            exact this⟩)
          subst hke
          go_wp2_with fail
          go_ret3
          exact ⟨by rw [HV.o]; rfl, BX.o⟩
    · have HV := hd (HNO.o (fun h => c3 (by have := h.2.2.1; rwa [HA.o] at this)))
      rw [locB_f c3] at hloc
      have HLOC := hd hloc
      clear hloc c3
      go_enter Tryz.func179, Tryz.ntmps179
      go_wp2_with fail
      refine HC.o.mono ?_
      rintro e w1 ⟨rfl, hb1⟩
      have HB1 := hd hb1
      clear hb1
      go_wp2_with fail
      refine (HLOC.o w1 (HT.o.below HB1.o)).mono ?_
      rintro e w' ⟨rfl, rfl⟩
      go_wp2_with fail
      go_ret3
      exact ⟨by rw [HV.o]; rfl, HB1.o⟩
  · rw [if_neg c2] at hcut
    have HV := hd (HNO.o (fun h => c2 h.2.1))
    have HC := hd hcut
    clear hcut c2
    go_enter Tryz.func179, Tryz.ntmps179
    go_wp2_with fail
    refine HC.o.mono ?_
    rintro e w1 ⟨rfl, hb1⟩
    go_wp2_with fail
    go_ret3
    exact ⟨by rw [HV.o]; rfl, hb1⟩

end Go.Proofs.YtogjokofmfpmgaaGreatDoor
namespace Go.Proofs.YtogjokofmfpmgaaGreatDoor
open Go.RowKit

theorem ext_data (s : ByteArray) (a b : Nat) : (s.extract a b).data.toList = (s.data.toList.drop a).take (b - a) := by
  rw [ByteArray.data_extract, Array.toList_extract, List.extract_eq_take_drop]
/-- What is known behind some signs: the labels ahead, and the one that is being read. -/
def DomAt (l : List UInt8) (k n f : Nat) : Prop :=
  (k ≤ l.length ∧ (∀ j, f ≤ j → j < k → labC (bt l j) ∧ bt l j ≠ 46) ∧ ∃ done, splitC 46 l = done ++ splitC 46 (l.drop f) ∧ done.length = n ∧ ∀ x ∈ done, LabP x) ∨
  (k = l.length + 1 ∧ (splitC 46 l).length = n ∧ ∀ x ∈ splitC 46 l, LabP x)
theorem domAt_start (l : List UInt8) : DomAt l 0 0 0 := .inl ⟨Nat.zero_le _, fun j _ h => absurd h (Nat.not_lt_zero _), [], by simp, rfl, fun x h => by cases h⟩
theorem domAt_sign {l : List UInt8} {k n f : Nat} (h : DomAt l k n f) (hk : k < l.length) (hc : labC (bt l k)) : DomAt l (k + 1) n f := by
  rcases h with ⟨h1, h2, h3⟩ | ⟨h1, _⟩
  · refine .inl ⟨hk, fun j hf hj => ?_, h3⟩
    by_cases e : j = k
    · subst e
      refine ⟨hc, fun e => ?_⟩
      rw [e] at hc
      revert hc
      decide
    · exact h2 j hf (by omega)
  · omega
theorem bt_seg (l : List UInt8) (f k j : Nat) (h : j < k - f) : bt ((l.drop f).take (k - f)) j = bt l (f + j) := by
  rw [← bt_drop]
  simp [bt, List.getD_eq_getElem?_getD, List.getElem?_take, h]
theorem seg_not {l : List UInt8} {k f : Nat} (hk : k ≤ l.length) (h2 : ∀ j, f ≤ j → j < k → labC (bt l j) ∧ bt l j ≠ 46) : (46 : UInt8) ∉ (l.drop f).take (k - f) := by
  intro hm
  obtain ⟨i, hi, e⟩ := mem_bt hm
  have hi' : i < k - f := by rw [List.length_take] at hi; omega
  rw [bt_seg l f k i hi'] at e
  exact (h2 (f + i) (by omega) (by omega)).2 e
/-- At a dot, or behind the last sign: one label more. -/
theorem seg_split {l : List UInt8} {k f : Nat} (hk : k ≤ l.length) (hf : f ≤ k) (h2 : ∀ j, f ≤ j → j < k → labC (bt l j) ∧ bt l j ≠ 46) (hd : k = l.length ∨ bt l k = 46) :
    splitC 46 (l.drop f) = (l.drop f).take (k - f) :: (if k = l.length then [] else splitC 46 (l.drop (k + 1))) := by
  have hn := seg_not hk h2
  by_cases he : k = l.length
  · rw [if_pos he]
    have e : (l.drop f).take (k - f) = l.drop f := List.take_of_length_le (by rw [List.length_drop]; omega)
    rw [e] at hn ⊢
    rw [splitC_not 46 _ hn]
  · rw [if_neg he]
    have hl : k < l.length := by omega
    have h46 : l[k] = 46 := by
      have := hd.resolve_left he
      rw [bt] at this
      simp [List.getD_eq_getElem?_getD, hl] at this
      exact UInt8.toNat_inj.1 this
    have e : l.drop f = (l.drop f).take (k - f) ++ 46 :: l.drop (k + 1) := by
      conv => lhs; rw [← List.take_append_drop (k - f) (l.drop f)]
      rw [List.drop_drop, show f + (k - f) = k by omega, List.drop_eq_getElem_cons hl, h46]
    conv => lhs; rw [e]
    exact splitC_app 46 _ _ hn
theorem domAt_label {l : List UInt8} {k n f : Nat} (h : DomAt l k n f) (hk : k ≤ l.length) (hf : f ≤ k) (hd : k = l.length ∨ bt l k = 46) (hp : LabP ((l.drop f).take (k - f))) : DomAt l (k + 1) (n + 1) (k + 1) := by
  rcases h with ⟨h1, h2, done, e1, e2, e3⟩ | ⟨h1, _⟩
  · have hs := seg_split hk hf h2 hd
    by_cases he : k = l.length
    · rw [if_pos he] at hs
      refine .inr ⟨by omega, ?_, ?_⟩
      · rw [e1, hs, List.length_append, e2]; rfl
      · intro x hx
        rw [e1, hs] at hx
        rcases List.mem_append.1 hx with hx | hx
        · exact e3 x hx
        · rw [List.mem_singleton.1 hx]; exact hp
    · rw [if_neg he] at hs
      refine .inl ⟨by omega, fun j h3 h4 => by omega, done ++ [(l.drop f).take (k - f)], ?_, by simp [e2], ?_⟩
      · rw [e1, hs]; simp
      · intro x hx
        rcases List.mem_append.1 hx with hx | hx
        · exact e3 x hx
        · rw [List.mem_singleton.1 hx]; exact hp
  · omega
theorem domAt_bad {l : List UInt8} {k n f : Nat} (h : DomAt l k n f) (hk : k ≤ l.length) (hf : f ≤ k) (hd : k = l.length ∨ bt l k = 46) (hp : ¬ LabP ((l.drop f).take (k - f))) : ¬ DomP l := by
  rcases h with ⟨h1, h2, done, e1, e2, e3⟩ | ⟨h1, _⟩
  · have hs := seg_split hk hf h2 hd
    intro hD
    refine hp (hD.2 _ ?_)
    rw [e1, hs]
    simp
  · omega
theorem dom_sign_bad {l : List UInt8} {k : Nat} (hk : k < l.length) (hc : ¬ labC (bt l k)) (h46 : bt l k ≠ 46) : ¬ DomP l := by
  intro hD
  obtain ⟨p, hp, hx⟩ := splitC_mem 46 l l[k] (List.getElem_mem hk) (fun e => h46 (by rw [bt]; simp [List.getD_eq_getElem?_getD, hk, e]))
  obtain ⟨i, hi, e⟩ := mem_bt hx
  have := (hD.2 p hp).2.2.2.2 i hi
  rw [e] at this
  exact hc (by rw [bt]; simpa [List.getD_eq_getElem?_getD, hk] using this)
theorem domAt_end {l : List UInt8} {n f : Nat} (h : DomAt l (l.length + 1) n f) : domB l = decide (2 ≤ n) := by
  rcases h with ⟨h1, _⟩ | ⟨_, h2, h3⟩
  · omega
  · by_cases hn : 2 ≤ n
    · rw [domB_t ⟨by omega, h3⟩]; simp [hn]
    · rw [domB_f (fun h => hn (by have := h.1; omega))]; simp [hn]
theorem domAt_labc {l : List UInt8} {k n f : Nat} (h : DomAt l k n f) (hk : k ≤ l.length) : ∀ j, j < k - f → labC (bt ((l.drop f).take (k - f)) j) := by
  rcases h with ⟨h1, h2, _⟩ | ⟨h1, _⟩
  · intro j hj
    rw [bt_seg l f k j hj]
    exact (h2 (f + j) (by omega) (by omega)).1
  · omega

set_option maxRecDepth 100000 in
set_option maxHeartbeats 8000000 in
theorem domain_calls (s : ByteArray) (hs : s.size ≤ 1000000000) (w : World) : Calls Tryz.prog 189 #[.string s] w fun e w' => e = .returned (.bool (domB s.data.toList)) ∧ w = w' := by
  obtain ⟨v, hv⟩ : ∃ v, domB s.data.toList = v := ⟨_, rfl⟩
  rw [hv]
  have HF := hd (fun h => hv.symm.trans (domB_f h) : ¬ DomP s.data.toList → v = false)
  have HV := hd hv
  clear hv
  have HL := hd (show s.data.toList.length = s.size by simp)
  go_enter Tryz.func189, Tryz.ntmps189
  go_wp2_with fail
  go_loop [3, 4, 5] (fun n f i => ∃ k nn ff : Nat, i = .int .i64 k ∧ n = .int .i64 nn ∧ f = .int .i64 ff ∧ k ≤ s.size + 1 ∧ nn ≤ k ∧ ff ≤ k ∧ Hd (DomAt s.data.toList k nn ff)) (fun _ _ i => s.size + 1 - (intOf i).toNat)
  case atStart => exact ⟨0, 0, 0, rfl, rfl, rfl, by omega, by omega, by omega, domAt_start _⟩
  case round =>
    obtain ⟨k, nn, ff, rfl, rfl, rfl, hk, hnn, hff, hh⟩ := hrel
    have hki : (0 : Int) ≤ (k : Int) := by omega
    have hfi : (0 : Int) ≤ (ff : Int) := by omega
    by_cases hle : k ≤ s.size
    · by_cases hdot : k < s.size ∧ s[k]!.toNat ≠ 46
      · obtain ⟨hlt, h46⟩ := hdot
        have e : s[k]! = s[k] := by simp [hlt]
        rw [e] at h46
        clear e
        have n46 : ((s[k].toNat : Int) != 46) = true := by simp; omega
        have BK := hd (bt_self s k hlt)
        by_cases hc : labC s[k].toNat
        · have HN := hd (domAt_sign hh.o (by rw [HL.o]; exact hlt) (by rw [BK.o]; exact hc))
          unfold labC at hc
          clear h46
          go_wp2_with (first | (go_at_call 90; refine (low_calls _ _).mono ?_; rintro e w' ⟨rfl, rfl⟩) | (go_at_call 91; refine (digit_calls _ _).mono ?_; rintro e w' ⟨rfl, rfl⟩))
          all_goals first
            | (exfalso; omega)
            | (exfalso; simp only [bne_iff_ne, ne_eq, beq_iff_eq, bne_eq_false_iff_eq, beq_eq_false_iff_ne, bne_self_eq_false, Bool.false_eq_true, Bool.not_eq_false', Bool.not_eq_true', decide_eq_true_eq, decide_eq_false_iff_not, Bool.and_eq_true, Bool.and_eq_false_iff] at *; omega)
            | (go_round
               case rel => exact ⟨k + 1, nn, ff, by go_num, rfl, rfl, by omega, by omega, by omega, HN⟩
               case measure => simp [intOf]; omega)
        · have HVV := hd (HF.o (dom_sign_bad (by rw [HL.o]; exact hlt) (by rw [BK.o]; exact hc) (by rw [BK.o]; exact h46)))
          unfold labC at hc
          have n45 : ((s[k].toNat : Int) != 45) = true := by simp; omega
          clear h46
          go_wp2_with (first | (go_at_call 90; refine (low_calls _ _).mono ?_; rintro e w' ⟨rfl, rfl⟩) | (go_at_call 91; refine (digit_calls _ _).mono ?_; rintro e w' ⟨rfl, rfl⟩))
          all_goals first
            | (exfalso; omega)
            | (exfalso; simp only [bne_iff_ne, ne_eq, beq_iff_eq, bne_eq_false_iff_eq, beq_eq_false_iff_ne, bne_self_eq_false, Bool.false_eq_true, Bool.not_eq_false', Bool.not_eq_true', decide_eq_true_eq, decide_eq_false_iff_not, Bool.and_eq_true, Bool.and_eq_false_iff] at *; omega)
            | (go_ret; exact ⟨retB HVV.o.symm, rfl⟩)
      · have hd1 : k = s.data.toList.length ∨ bt s.data.toList k = 46 := by
          by_cases hlt : k < s.size
          · refine .inr ?_
            rw [bt_self s k hlt]
            have e : s[k]! = s[k] := by simp [hlt]
            rw [e] at hdot
            omega
          · exact .inl (by rw [HL.o]; omega)
        have hz : (s.extract ff k).size = k - ff := by rw [ByteArray.size_extract]; omega
        have ht := ext_data s ff k
        have hlc := domAt_labc hh.o (by rw [HL.o]; exact hle)
        have hok := fun hp => domAt_label hh.o (by rw [HL.o]; exact hle) hff hd1 hp
        have hbad := fun hp => domAt_bad hh.o (by rw [HL.o]; exact hle) hff hd1 hp
        have hstop : (k < s.size → ((s[k]!.toNat : Int) != 46) = false) := fun hlt => by
          have : s[k]!.toNat = 46 := by omega
          simp [this]
        obtain ⟨t, htt⟩ : ∃ t, s.extract ff k = t := ⟨_, rfl⟩
        rw [htt] at hz ht
        rw [← ht] at hlc hok hbad
        have HTT := hd htt
        have HT := hd ht
        have HLC := hd hlc
        have HOK := hd hok
        have HBAD := hd (fun hp => HF.o (hbad hp))
        have HST := hd hstop
        clear htt ht hlc hok hbad hdot hd1 hstop
        have HTL := hd (show t.data.toList.length = t.size by simp)
        have HZ := hd hz
        have hts : t.size ≤ 1000000000 := by rw [HZ.o]; omega
        clear hz
        by_cases hlt : k < s.size
        · have e46 : s[k]! = s[k] := by simp [hlt]
          have n46 := HST.o hlt
          rw [e46] at n46
          clear e46
          go_upto_region 9 with (fail)
          rw [HTT.o]
          by_cases c1 : t.size < 1
          · have HX := hd (HBAD.o (fun h => by have := h.1; rw [HTL.o] at this; omega))
            go_wp2
            go_ret
            exact ⟨retB HX.o.symm, rfl⟩
          by_cases c2 : 20 < t.size
          · have HX := hd (HBAD.o (fun h => by have := h.2.1; rw [HTL.o] at this; omega))
            go_wp2
            go_ret
            exact ⟨retB HX.o.symm, rfl⟩
          have c3 : 0 < t.size := by omega
          have c4 : t.size - 1 < t.size := by omega
          have B0 := hd (bt_self t 0 c3)
          have B1 := hd (bt_self t (t.size - 1) c4)
          by_cases c5 : t[0].toNat = 45
          · have n5 : ((t[0].toNat : Int) == 45) = true := by simp; omega
            have HX := hd (HBAD.o (fun h => h.2.2.1 (B0.o.trans c5)))
            clear c5
            go_wp2
            go_ret
            exact ⟨retB HX.o.symm, rfl⟩
          have n5 : ((t[0].toNat : Int) == 45) = false := by simp; omega
          by_cases c6 : t[t.size - 1].toNat = 45
          · have n6 : ((t[t.size - 1].toNat : Int) == 45) = true := by simp; omega
            have HX := hd (HBAD.o (fun h => h.2.2.2.1 (by rw [HTL.o]; exact B1.o.trans c6)))
            clear c5 c6
            go_wp2
            go_ret
            exact ⟨retB HX.o.symm, rfl⟩
          have n6 : ((t[t.size - 1].toNat : Int) == 45) = false := by simp; omega
          have HN := hd (HOK.o ⟨by rw [HTL.o]; omega, by rw [HTL.o]; omega, by rw [B0.o]; exact c5, by rw [HTL.o, B1.o]; exact c6, fun i hi => HLC.o i (by rw [HTL.o, HZ.o] at hi; exact hi)⟩)
          clear c5 c6
          go_wp2
          go_round
          case rel => exact ⟨k + 1, nn + 1, k + 1, by go_num, by go_num, by go_num, by omega, by omega, by omega, HN⟩
          case measure => simp [intOf]; omega
        · go_upto_region 9 with (fail)
          rw [HTT.o]
          by_cases c1 : t.size < 1
          · have HX := hd (HBAD.o (fun h => by have := h.1; rw [HTL.o] at this; omega))
            go_wp2
            go_ret
            exact ⟨retB HX.o.symm, rfl⟩
          by_cases c2 : 20 < t.size
          · have HX := hd (HBAD.o (fun h => by have := h.2.1; rw [HTL.o] at this; omega))
            go_wp2
            go_ret
            exact ⟨retB HX.o.symm, rfl⟩
          have c3 : 0 < t.size := by omega
          have c4 : t.size - 1 < t.size := by omega
          have B0 := hd (bt_self t 0 c3)
          have B1 := hd (bt_self t (t.size - 1) c4)
          by_cases c5 : t[0].toNat = 45
          · have n5 : ((t[0].toNat : Int) == 45) = true := by simp; omega
            have HX := hd (HBAD.o (fun h => h.2.2.1 (B0.o.trans c5)))
            clear c5
            go_wp2
            go_ret
            exact ⟨retB HX.o.symm, rfl⟩
          have n5 : ((t[0].toNat : Int) == 45) = false := by simp; omega
          by_cases c6 : t[t.size - 1].toNat = 45
          · have n6 : ((t[t.size - 1].toNat : Int) == 45) = true := by simp; omega
            have HX := hd (HBAD.o (fun h => h.2.2.2.1 (by rw [HTL.o]; exact B1.o.trans c6)))
            clear c5 c6
            go_wp2
            go_ret
            exact ⟨retB HX.o.symm, rfl⟩
          have n6 : ((t[t.size - 1].toNat : Int) == 45) = false := by simp; omega
          have HN := hd (HOK.o ⟨by rw [HTL.o]; omega, by rw [HTL.o]; omega, by rw [B0.o]; exact c5, by rw [HTL.o, B1.o]; exact c6, fun i hi => HLC.o i (by rw [HTL.o, HZ.o] at hi; exact hi)⟩)
          clear c5 c6
          go_wp2
          go_round
          case rel => exact ⟨k + 1, nn + 1, k + 1, by go_num, by go_num, by go_num, by omega, by omega, by omega, HN⟩
          case measure => simp [intOf]; omega
    · have hke : k = s.size + 1 := by omega
      have hfin := hh.o
      rw [hke, ← HL.o] at hfin
      have HE := hd (domAt_end hfin)
      go_wp2_with fail
      go_ret
      exact ⟨retB (by rw [← HV.o, HE.o]; simp; omega), rfl⟩

end Go.Proofs.YtogjokofmfpmgaaGreatDoor
