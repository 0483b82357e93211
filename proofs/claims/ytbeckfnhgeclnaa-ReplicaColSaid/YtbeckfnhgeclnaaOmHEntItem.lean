/-
  A map that rises (EntItem): Get, Put.
-/
import Derived.Test.YtbeckfnhgeclnaaOmGEntItem
set_option linter.unusedVariables false
set_option linter.unusedSimpArgs false
namespace Go.Proofs.Ytbeckfnhgeclnaa
open Go.RowKit Go.Lib

theorem balEntItem {B : Nat} {a w : World} (h : Below B a w) (hB : B = a.heap.size) (o : Obj) : Below B a (w.alloc o) := h.alloc (by rw [hB]; subst hB; exact h.size) o
theorem bsetEntItem {B : Nat} {a w : World} (h : Below B a w) (hB : B = a.heap.size) (j : Nat) (u : Value) : Below B a (w.setCell ⟨a.heap.size, j, none⟩ u) := h.setCell (by rw [hB]; exact Nat.le_refl _) u

theorem omgetEntItem_none (w : World) (S : Nat → Prop) (b : Nat) (l : ML It) (k : List UInt8) (h : OmEntItem w S b l) (hl : l.length ≤ 1000000) (hg : getM l k = none) :
    Calls Try.prog 61 #[.pointer (some ⟨b, 0, none⟩), .string (bs k)] w fun e w' => e = .returned (.tuple #[.agg #[.string ⟨#[]⟩, .int .i64 0, .bool false, .string ⟨#[]⟩], .bool false]) ∧ Below w.heap.size w w' := by
  have hq : hasM l k = false := by simp [hasM, hg]
  have hb1 := h.below ((Below.refl _ w).alloc (Nat.le_refl _) (.cells #[.string ⟨#[]⟩, .int .i64 0, .bool false, .string ⟨#[]⟩] 41))
  have hc := hd (findEntItem_calls (w.alloc (.cells #[.string ⟨#[]⟩, .int .i64 0, .bool false, .string ⟨#[]⟩] 41)) S b l k hb1 hl)
  rw [hq] at hc
  generalize place l k = p at *
  clear h hg hq hb1
  go_enter Try.func61, Try.ntmps61
  go_wp2_with fail
  refine hc.o.mono ?_
  rintro e w1 ⟨rfl, hbe⟩
  have hzz := ((Blk.new w 41 #[.string ⟨#[]⟩, .int .i64 0, .bool false, .string ⟨#[]⟩]).below hbe (by simp))
  have hzl := hzz.lt
  (have z0 := hzz.at_ 0 rfl; have z1 := hzz.at_ 1 rfl; have z2 := hzz.at_ 2 rfl; have z3 := hzz.at_ 3 rfl; have y0 := hzz.frozen 0; have y1 := hzz.frozen 1; have y2 := hzz.frozen 2; have y3 := hzz.frozen 3)
  have HBE := hd ((balEntItem (Below.refl _ w) rfl (.cells #[.string ⟨#[]⟩, .int .i64 0, .bool false, .string ⟨#[]⟩] 41)).trans (hbe.mono (by simp)))
  clear hzz hc hbe
  go_wp2
  refine bodyPost_ret (v := .tuple #[.agg #[.string ⟨#[]⟩, .int .i64 0, .bool false, .string ⟨#[]⟩], .bool false]) ?_ rfl ⟨rfl, ?_⟩
  · simp [results, Try.results61, go_sem, *]
  · repeat (first | exact HBE.o | refine balEntItem ?_ rfl _ | refine bsetEntItem ?_ rfl _ _)

theorem omgetEntItem_some (w : World) (S : Nat → Prop) (b : Nat) (l : ML It) (k : List UInt8) (v : It) (h : OmEntItem w S b l) (hl : l.length ≤ 1000000) (hg : getM l k = some v) :
    Calls Try.prog 61 #[.pointer (some ⟨b, 0, none⟩), .string (bs k)] w fun e w' => e = .returned (.tuple #[.agg (itEnc v).toArray, .bool true]) ∧ Below w.heap.size w w' := by
  have hq : hasM l k = true := by simp [hasM, hg]
  have hb1 := h.below ((Below.refl _ w).alloc (Nat.le_refl _) (.cells #[.string ⟨#[]⟩, .int .i64 0, .bool false, .string ⟨#[]⟩] 41))
  have hc := hd (findEntItem_calls (w.alloc (.cells #[.string ⟨#[]⟩, .int .i64 0, .bool false, .string ⟨#[]⟩] 41)) S b l k hb1 hl)
  rw [hq] at hc
  obtain ⟨hp, hpk, hgp⟩ := hasM_at h.rise hq
  rw [hg] at hgp
  injection hgp with hgp
  obtain ⟨p, hpp⟩ : ∃ p, place l k = p := ⟨_, rfl⟩
  have hget : ∀ j, j < 5 → (meEntItem l)[p * 5 + j]? = (enEntItem (k, v))[j]? := by
    intro j hj
    subst hpp
    rw [meEntItem_at l (place l k) hp j hj]
    congr 2
    exact Prod.ext hpk hgp.symm
  rw [hpp] at hc hp
  have H := hd hb1
  obtain ⟨n, hn⟩ : ∃ n, l.length = n := ⟨_, rfl⟩
  have HN := hd hn
  rw [hn] at hp hl
  clear h hg hq hb1 hgp hpk hpp hn
  go_enter Try.func61, Try.ntmps61
  go_wp2_with fail
  refine hc.o.mono ?_
  rintro e w1 ⟨rfl, hbe⟩
  obtain ⟨A, c, hb, hr, hS, _⟩ := H.o.below hbe
  rw [HN.o] at hb hr
  have hb0 := hb.at_ 0 rfl
  have hcap := hr.cap
  unfold maxLen at hcap
  have hzz := ((Blk.new w 41 #[.string ⟨#[]⟩, .int .i64 0, .bool false, .string ⟨#[]⟩]).below hbe (by simp))
  have hzl := hzz.lt
  (have z0 := hzz.at_ 0 rfl; have z1 := hzz.at_ 1 rfl; have z2 := hzz.at_ 2 rfl; have z3 := hzz.at_ 3 rfl; have y0 := hzz.frozen 0; have y1 := hzz.frozen 1; have y2 := hzz.frozen 2; have y3 := hzz.frozen 3)
  have HBE := hd ((balEntItem (Below.refl _ w) rfl (.cells #[.string ⟨#[]⟩, .int .i64 0, .bool false, .string ⟨#[]⟩] 41)).trans (hbe.mono (by simp)))
  obtain ⟨g, rfl, _, hgw, _, _, hcl, _⟩ := hr.at_ (by omega)
  have hcc : ∀ j u, j < 5 → (enEntItem (k, v))[j]? = some u → w1.cell? ⟨g, p * 5 + j, none⟩ = some u := fun j u hj hv => hcl _ _ ((hget j hj).trans hv)
  obtain ⟨m, hm⟩ : ∃ m, p = m := ⟨_, rfl⟩
  rw [hm] at hcc hp ⊢
  obtain ⟨uid, ver, gone, card⟩ := v
  (have k0 := hcc 0 _ (by omega) rfl; have k1 := hcc 1 _ (by omega) rfl; have k2 := hcc 2 _ (by omega) rfl; have k3 := hcc 3 _ (by omega) rfl; have k4 := hcc 4 _ (by omega) rfl; rw [Nat.add_zero] at k0)
  simp only [itEnc]
  clear hzz hc hbe hcl hcc hget hr hb hm
  go_wp2
  refine bodyPost_ret (v := .tuple #[.agg #[.string (bs uid), .int .i64 ver, .bool gone, .string (bs card)], .bool true]) ?_ rfl ⟨rfl, ?_⟩
  · simp [results, Try.results61, go_sem, *]
  · repeat (first | exact HBE.o | refine balEntItem ?_ rfl _ | refine bsetEntItem ?_ rfl _ _)

end Go.Proofs.Ytbeckfnhgeclnaa
