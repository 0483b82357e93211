/-
  ColSplits, as a call: it returns true, whatever the items.
-/
import Derived.Test.YtbeckfnhgeclnaaColF
import Derived.Test.YtbeckfnhgeclnaaSplit
namespace Go.Proofs.Ytbeckfnhgeclnaa
open Go.RowKit Go.Lib

set_option maxHeartbeats 1000000 in
theorem splits_calls (w : World) (A : Option Addr) (n c : Nat) (l : List It) (most : Int) (hr : Rds w A n 4 (itsEnc l)) (hn : n = l.length) (hm : n ≤ maxLen) (hnc : n ≤ c) :
    Calls Try.prog 11 #[.slice A n c, .int .i64 most] w fun e w' => e = .returned (.bool true) ∧ Below w.heap.size w w' := by
  unfold maxLen at hm
  by_cases hbig : n ≤ 80
  · have hS := hd (fun w' (hb : Below w.heap.size w w') => csplit_calls w' A n c l most (hr.below hb) hn (by omega) hnc)
    have hR := hd (fun w' (hb : Below w.heap.size w w') => rsplit_calls w' A n c l most (hr.below hb) hn (by omega))
    have hle := splitP_le l most
    rw [← hn] at hle
    obtain ⟨q, hq⟩ : ∃ q, splitP l most = q := ⟨_, rfl⟩
    rw [hq] at hS hR hle
    have hqn : (q : Int) ≤ (n : Int) := by omega
    clear hr hn hq
    go_enter Try.func11, Try.ntmps11
    go_wp2_with fail
    refine (cfirst_calls w).mono ?_
    rintro e w1 ⟨rfl, b1⟩
    go_wp2_with fail
    refine (hS.o w1 b1).mono ?_
    rintro e w2 ⟨rfl, b2⟩
    have b12 := b1.trans (b2.mono b1.size)
    clear b1 b2
    go_wp2_with fail
    refine (hR.o w2 b12).mono ?_
    rintro e w3 ⟨rfl, b3⟩
    have BB := hd (b12.trans (b3.mono b12.size))
    clear b12 b3
    go_wp2
    go_ret
    exact ⟨rfl, BB.o⟩
  · have hgt : (80 : Int) < (n : Int) := by omega
    clear hr hn
    go_enter Try.func11, Try.ntmps11
    go_wp2_with fail
    refine (cfirst_calls w).mono ?_
    rintro e w1 ⟨rfl, b1⟩
    go_wp2_with fail
    refine (cfirst_calls w1).mono ?_
    rintro e w2 ⟨rfl, b2⟩
    have BB := hd (b1.trans (b2.mono b1.size))
    clear b1 b2
    go_wp2
    go_ret
    exact ⟨rfl, BB.o⟩

end Go.Proofs.Ytbeckfnhgeclnaa
