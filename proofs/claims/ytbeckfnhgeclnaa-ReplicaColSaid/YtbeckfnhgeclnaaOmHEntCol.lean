/-
  A map that rises (EntCol): Get, Put.
-/
import Derived.Test.YtbeckfnhgeclnaaOmGEntCol
set_option linter.unusedVariables false
set_option linter.unusedSimpArgs false
namespace Go.Proofs.Ytbeckfnhgeclnaa
open Go.RowKit Go.Lib

theorem balEntCol {B : Nat} {a w : World} (h : Below B a w) (hB : B = a.heap.size) (o : Obj) : Below B a (w.alloc o) := h.alloc (by rw [hB]; subst hB; exact h.size) o
theorem bsetEntCol {B : Nat} {a w : World} (h : Below B a w) (hB : B = a.heap.size) (j : Nat) (u : Value) : Below B a (w.setCell ⟨a.heap.size, j, none⟩ u) := h.setCell (by rw [hB]; exact Nat.le_refl _) u

theorem omgetEntCol_none (w : World) (S : Nat → Prop) (b : Nat) (l : ML Ce) (k : List UInt8) (h : OmEntCol w S b l) (hl : l.length ≤ 1000000) (hg : getM l k = none) :
    Calls Try.prog 67 #[.pointer (some ⟨b, 0, none⟩), .string (bs k)] w fun e w' => e = .returned (.tuple #[.agg #[.int .i64 0, .string ⟨#[]⟩], .bool false]) ∧ Below w.heap.size w w' := by
  have hq : hasM l k = false := by simp [hasM, hg]
  have hb1 := h.below ((Below.refl _ w).alloc (Nat.le_refl _) (.cells #[.int .i64 0, .string ⟨#[]⟩] 116))
  have hc := hd (findEntCol_calls (w.alloc (.cells #[.int .i64 0, .string ⟨#[]⟩] 116)) S b l k hb1 hl)
  rw [hq] at hc
  generalize place l k = p at *
  clear h hg hq hb1
  go_enter Try.func67, Try.ntmps67
  go_wp2_with fail
  refine hc.o.mono ?_
  rintro e w1 ⟨rfl, hbe⟩
  have hzz := ((Blk.new w 116 #[.int .i64 0, .string ⟨#[]⟩]).below hbe (by simp))
  have hzl := hzz.lt
  (have z0 := hzz.at_ 0 rfl; have z1 := hzz.at_ 1 rfl; have y0 := hzz.frozen 0; have y1 := hzz.frozen 1)
  have HBE := hd ((balEntCol (Below.refl _ w) rfl (.cells #[.int .i64 0, .string ⟨#[]⟩] 116)).trans (hbe.mono (by simp)))
  clear hzz hc hbe
  go_wp2
  refine bodyPost_ret (v := .tuple #[.agg #[.int .i64 0, .string ⟨#[]⟩], .bool false]) ?_ rfl ⟨rfl, ?_⟩
  · simp [results, Try.results67, go_sem, *]
  · repeat (first | exact HBE.o | refine balEntCol ?_ rfl _ | refine bsetEntCol ?_ rfl _ _)

theorem omgetEntCol_some (w : World) (S : Nat → Prop) (b : Nat) (l : ML Ce) (k : List UInt8) (v : Ce) (h : OmEntCol w S b l) (hl : l.length ≤ 1000000) (hg : getM l k = some v) :
    Calls Try.prog 67 #[.pointer (some ⟨b, 0, none⟩), .string (bs k)] w fun e w' => e = .returned (.tuple #[.agg (ceEnc v).toArray, .bool true]) ∧ Below w.heap.size w w' := by
  have hq : hasM l k = true := by simp [hasM, hg]
  have hb1 := h.below ((Below.refl _ w).alloc (Nat.le_refl _) (.cells #[.int .i64 0, .string ⟨#[]⟩] 116))
  have hc := hd (findEntCol_calls (w.alloc (.cells #[.int .i64 0, .string ⟨#[]⟩] 116)) S b l k hb1 hl)
  rw [hq] at hc
  obtain ⟨hp, hpk, hgp⟩ := hasM_at h.rise hq
  rw [hg] at hgp
  injection hgp with hgp
  obtain ⟨p, hpp⟩ : ∃ p, place l k = p := ⟨_, rfl⟩
  have hget : ∀ j, j < 3 → (meEntCol l)[p * 3 + j]? = (enEntCol (k, v))[j]? := by
    intro j hj
    subst hpp
    rw [meEntCol_at l (place l k) hp j hj]
    congr 2
    exact Prod.ext hpk hgp.symm
  rw [hpp] at hc hp
  have H := hd hb1
  obtain ⟨n, hn⟩ : ∃ n, l.length = n := ⟨_, rfl⟩
  have HN := hd hn
  rw [hn] at hp hl
  clear h hg hq hb1 hgp hpk hpp hn
  go_enter Try.func67, Try.ntmps67
  go_wp2_with fail
  refine hc.o.mono ?_
  rintro e w1 ⟨rfl, hbe⟩
  obtain ⟨A, c, hb, hr, hS, _⟩ := H.o.below hbe
  rw [HN.o] at hb hr
  have hb0 := hb.at_ 0 rfl
  have hcap := hr.cap
  unfold maxLen at hcap
  have hzz := ((Blk.new w 116 #[.int .i64 0, .string ⟨#[]⟩]).below hbe (by simp))
  have hzl := hzz.lt
  (have z0 := hzz.at_ 0 rfl; have z1 := hzz.at_ 1 rfl; have y0 := hzz.frozen 0; have y1 := hzz.frozen 1)
  have HBE := hd ((balEntCol (Below.refl _ w) rfl (.cells #[.int .i64 0, .string ⟨#[]⟩] 116)).trans (hbe.mono (by simp)))
  obtain ⟨g, rfl, _, hgw, _, _, hcl, _⟩ := hr.at_ (by omega)
  have hcc : ∀ j u, j < 3 → (enEntCol (k, v))[j]? = some u → w1.cell? ⟨g, p * 3 + j, none⟩ = some u := fun j u hj hv => hcl _ _ ((hget j hj).trans hv)
  obtain ⟨m, hm⟩ : ∃ m, p = m := ⟨_, rfl⟩
  rw [hm] at hcc hp ⊢
  obtain ⟨ver, text⟩ := v
  (have k0 := hcc 0 _ (by omega) rfl; have k1 := hcc 1 _ (by omega) rfl; have k2 := hcc 2 _ (by omega) rfl; rw [Nat.add_zero] at k0)
  simp only [ceEnc]
  clear hzz hc hbe hcl hcc hget hr hb hm
  go_wp2
  refine bodyPost_ret (v := .tuple #[.agg #[.int .i64 ver, .string (bs text)], .bool true]) ?_ rfl ⟨rfl, ?_⟩
  · simp [results, Try.results67, go_sem, *]
  · repeat (first | exact HBE.o | refine balEntCol ?_ rfl _ | refine bsetEntCol ?_ rfl _ _)

end Go.Proofs.Ytbeckfnhgeclnaa
