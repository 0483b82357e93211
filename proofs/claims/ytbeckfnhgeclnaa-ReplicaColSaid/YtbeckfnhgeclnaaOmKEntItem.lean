/-
  A map that rises (EntItem): All, as what a range takes.
-/
import Derived.Test.YtbeckfnhgeclnaaOmJEntItem
import Derived.Test.YtbeckfnhgeclnaaRng
set_option linter.unusedVariables false
set_option linter.unusedSimpArgs false
namespace Go.Proofs.Ytbeckfnhgeclnaa
open Go.RowKit Go.Lib

theorem underEntItem_calls (w : World) (b : Nat) (p : ByteArray) :
    Calls Try.prog 86 #[.pointer (some ⟨b, 0, none⟩), .string p] w fun e w' => e = .returned (.func (.func 103) #[] #[.pointer (some ⟨w.heap.size, 0, none⟩), .pointer (some ⟨w.heap.size + 1, 0, none⟩)]) ∧ (w.alloc (.cells #[.pointer (some ⟨b, 0, none⟩)] 86)).alloc (.cells #[.string p] 9) = w' := by
  go_enter Try.func86, Try.ntmps86
  go_wp2
  go_ret
  exact ⟨rfl, rfl⟩
theorem omallEntItem_calls (w : World) (b : Nat) :
    Calls Try.prog 62 #[.pointer (some ⟨b, 0, none⟩)] w fun e w' => e = .returned (.func (.func 103) #[] #[.pointer (some ⟨w.heap.size, 0, none⟩), .pointer (some ⟨w.heap.size + 1, 0, none⟩)]) ∧ (w.alloc (.cells #[.pointer (some ⟨b, 0, none⟩)] 86)).alloc (.cells #[.string ⟨#[]⟩] 9) = w' := by
  have hu := hd (underEntItem_calls w b ⟨#[]⟩)
  go_enter Try.func62, Try.ntmps62
  go_wp2_with fail
  refine hu.o.mono ?_
  rintro e w1 ⟨rfl, rfl⟩
  go_wp2_with fail
  go_ret
  exact ⟨rfl, rfl⟩

theorem omallEntItem_stops (n Bm Bp b : Nat) (T S : Nat → Prop) (ml : ML It) (hl : ml.length ≤ 1000000) (w : World) (hBm : Blk w Bm 86 #[.pointer (some ⟨b, 0, none⟩)]) (hBp : Blk w Bp 9 #[.string ⟨#[]⟩]) (TBm : T Bm) (TBp : T Bp) (hO : OmEntItem w S b ml) (hS : ∀ k, S k → T k) :
    SeqStopsK Fence.wide (n + 1) Try.prog 103 #[.pointer (some ⟨Bm, 0, none⟩), .pointer (some ⟨Bp, 0, none⟩)] (fun x : List UInt8 × It => #[.string (bs x.1), .agg (itEnc x.2).toArray]) (Chg (fun k => ¬ T k)) (fun ys => ys = ml) (fun pre => pre <+: ml) ml.length w :=
  fun l J Jx W hW hJ _ hY h0 => callsIn_wide.2 (under1EntItem_calls n l Bm Bp b T S ml hl J Jx hY W hJ (hBm.below hW hBm.lt) (hBp.below hW hBp.lt) TBm TBp (hO.below hW) hS h0)

end Go.Proofs.Ytbeckfnhgeclnaa
