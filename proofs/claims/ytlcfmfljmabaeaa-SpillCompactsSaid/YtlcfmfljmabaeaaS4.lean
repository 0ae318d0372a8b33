/-
  Two more functions as abstract code: printed by a program of mine.
-/
import Derived.Test.YtlcfmfljmabaeaaS1
set_option maxRecDepth 100000
namespace Go.Proofs.Ytlcfmfljmabaeaa
open Go Go.Abs Go.Abs.K

/- decorum/decorumlaw15.small -/
def code21 : ACode :=
 .seq (R [o 1 (.box 32 (v 0)), o 2 (.mov ff)])
 (.seq (R [o 3 (.fieldAddr 1 (v 1)), o 4 (.load none (v 3)), o 5 (.len .string (v 4)), o 6 (.bin .leq (v 5) (i 300)), o 7 (.mov (v 6)), ot 7 8 (.fieldAddr 2 (v 1)), ot 7 9 (.load none (v 8)), ot 7 10 (.len .string (v 9)), ot 7 11 (.bin .leq (v 10) (i 800)), o 12 (.pick (v 7) (v 11) ff), o 2 (.mov (v 12))])
 (.ret))
def fun21 : AFun := ⟨1, code21, [.tmp 2], 0⟩
theorem comp21 : FunOK Try.prog 21 fun21 :=
  FunOK.of Try.func21 [] [] (by kernel_rfl) (by kernel_rfl) (by decide +kernel) (by kernel_rfl)

/- decorum/decorumlaw15.in -/
def code23 : ACode :=
 .seq (R [o 3 (.box 32 (v 1)), o 4 (.mov ff)])
 (.seq (.seq (R [o 5 (.mov (i 0))])
  (.block 0 (.loop [0, 3, 5] (.seq (.seq (R [o 6 (.mov (v 5)), o 7 (.mov (v 0)), o 8 (.len .slice (v 7)), o 9 (.bin .lss (v 6) (v 8))])
     (.cond (v 9) (.skip)
     (.exit 0)))
    (.seq (.block 1 (.seq (R [o 12 (.mov (v 0)), o 13 (.mov (v 5)), o 14 (.indexAddr 5 (v 12) (v 13)), o 15 (.load (some 5) (v 14)), o 16 (.load (some 5) (v 3)), o 17 (.eq false (.plain [.int, .string, .string, .int, .int]) (v 15) (v 16))])
      (.cond (v 17) (.seq (R [o 4 (.mov tt)])
       (.ret))
      (.skip))))
    (R [o 10 (.mov (v 5)), o 11 (.bin .add (v 10) (i 1)), o 5 (.mov (v 11))]))))))
 (.seq (R [o 4 (.mov ff)])
 (.ret)))
def fun23 : AFun := ⟨2, code23, [.tmp 4], 0⟩
theorem comp23 : FunOK Try.prog 23 fun23 :=
  FunOK.of Try.func23 [[0, 3, 5]] [] (by kernel_rfl) (by kernel_rfl) (by decide +kernel) (by kernel_rfl)

end Go.Proofs.Ytlcfmfljmabaeaa
