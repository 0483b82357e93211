/-
  A map that rises (EntCol): All, as what a range takes.
-/
import Derived.Test.YtbeckfnhgeclnaaOmJEntCol
import Derived.Test.YtbeckfnhgeclnaaRng
set_option linter.unusedVariables false
set_option linter.unusedSimpArgs false
namespace Go.Proofs.Ytbeckfnhgeclnaa
open Go.RowKit Go.Lib

theorem underEntCol_calls (w : World) (b : Nat) (p : ByteArray) :
    Calls Try.prog 92 #[.pointer (some ⟨b, 0, none⟩), .string p] w fun e w' => e = .returned (.func (.func 118) #[] #[.pointer (some ⟨w.heap.size, 0, none⟩), .pointer (some ⟨w.heap.size + 1, 0, none⟩)]) ∧ (w.alloc (.cells #[.pointer (some ⟨b, 0, none⟩)] 98)).alloc (.cells #[.string p] 9) = w' := by
  go_enter Try.func92, Try.ntmps92
  go_wp2
  go_ret
  exact ⟨rfl, rfl⟩
theorem omallEntCol_calls (w : World) (b : Nat) :
    Calls Try.prog 69 #[.pointer (some ⟨b, 0, none⟩)] w fun e w' => e = .returned (.func (.func 118) #[] #[.pointer (some ⟨w.heap.size, 0, none⟩), .pointer (some ⟨w.heap.size + 1, 0, none⟩)]) ∧ (w.alloc (.cells #[.pointer (some ⟨b, 0, none⟩)] 98)).alloc (.cells #[.string ⟨#[]⟩] 9) = w' := by
  have hu := hd (underEntCol_calls w b ⟨#[]⟩)
  go_enter Try.func69, Try.ntmps69
  go_wp2_with fail
  refine hu.o.mono ?_
  rintro e w1 ⟨rfl, rfl⟩
  go_wp2_with fail
  go_ret
  exact ⟨rfl, rfl⟩

theorem omallEntCol_stops (n Bm Bp b : Nat) (T S : Nat → Prop) (ml : ML Ce) (hl : ml.length ≤ 1000000) (w : World) (hBm : Blk w Bm 98 #[.pointer (some ⟨b, 0, none⟩)]) (hBp : Blk w Bp 9 #[.string ⟨#[]⟩]) (TBm : T Bm) (TBp : T Bp) (hO : OmEntCol w S b ml) (hS : ∀ k, S k → T k) :
    SeqStopsK Fence.wide (n + 1) Try.prog 118 #[.pointer (some ⟨Bm, 0, none⟩), .pointer (some ⟨Bp, 0, none⟩)] (fun x : List UInt8 × Ce => #[.string (bs x.1), .agg (ceEnc x.2).toArray]) (Chg (fun k => ¬ T k)) (fun ys => ys = ml) (fun pre => pre <+: ml) ml.length w :=
  fun l J Jx W hW hJ _ hY h0 => callsIn_wide.2 (under1EntCol_calls n l Bm Bp b T S ml hl J Jx hY W hJ (hBm.below hW hBm.lt) (hBp.below hW hBp.lt) TBm TBp (hO.below hW) hS h0)

end Go.Proofs.Ytbeckfnhgeclnaa
