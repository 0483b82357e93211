/-
  sess.Sess: Next, whole.
-/
import Derived.Test.YtogjokofmfpmgaaGreatDoorGSA
set_option linter.unusedVariables false
set_option linter.unusedSimpArgs false
namespace Go.Proofs.YtogjokofmfpmgaaGreatDoor
open Go.RowKit

theorem next_calls_s (w : World) (g p : Nat) (s : Ss) (h : SesR w g p s) (hb : s.buf.length ≤ 1000000) (hq : 0 ≤ s.seq ∧ s.seq ≤ 1000000) (v : World) (ht : Tbs v) (hbv : Below v.heap.size v w) (hvg : v.heap.size ≤ g) (hvp : v.heap.size ≤ p) :
    Calls Tryz.prog 34 #[.pointer (some ⟨g, 0, none⟩)] w fun e w' => NextR w g p s e w' := by
  rcases look_or s with h0 | h4 | ⟨h3, _⟩ | ⟨h1, _⟩
  · refine (next_idle w g p s h hb 0 h0 (.inl rfl)).mono ?_
    rintro e w' ⟨rfl, hb1⟩
    exact ⟨⟨none, 0, by rw [next_0 h0], by rw [next_0 h0]; exact Row.nil _ _ _ _, by rw [next_0 h0]; exact ⟨h.b.below hb1 h.b.lt, h.p.below hb1 h.p.lt⟩, Chg.of_below _ hb1⟩⟩
  · refine (next_idle w g p s h hb 4 h4 (.inr rfl)).mono ?_
    rintro e w' ⟨rfl, hb1⟩
    exact ⟨⟨none, 0, by rw [next_4 h4], by rw [next_4 h4]; exact Row.nil _ _ _ _, by rw [next_4 h4]; exact ⟨h.b.below hb1 h.b.lt, h.p.below hb1 h.p.lt⟩, Chg.of_below _ hb1⟩⟩
  · refine (next_brk w g p s h hb h3 hq).mono ?_
    rintro e w' ⟨rfl, hs, hc⟩
    exact ⟨⟨none, 0, by rw [next_3 h3], by rw [next_3 h3]; exact Row.nil _ _ _ _, by rw [next_3 h3]; exact hs, hc⟩⟩
  · exact next_ask w g p s h hb h1 hq v ht hbv hvg hvp
end Go.Proofs.YtogjokofmfpmgaaGreatDoor
