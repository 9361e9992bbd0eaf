/- Every function that is run is as the machine asks. -/
import Derived.Test.YtohmeeglehopiaaDoorS1
open Go.Proofs
namespace Go.Am
theorem goodAllG : GoodG PP okC prS := by
  intro f fn c ho hf hc
  have go : ∀ g, PP.funcs[f]? = some g → goodG PP (prS f) g.ntmps (codeOf g) = true → goodG PP (prS f) fn.ntmps c = true := fun g hg h => by
    rw [hf] at hg
    obtain rfl := Option.some.inj hg
    simpa [codeOf, hc] using h
  simp only [okC, Bool.or_eq_true, beq_iff_eq] at ho
  rcases ho with ((((((((((((((((((((((((rfl | rfl) | rfl) | rfl) | rfl) | rfl) | rfl) | rfl) | rfl) | rfl) | rfl) | rfl) | rfl) | rfl) | rfl) | rfl) | rfl) | rfl) | rfl) | rfl) | rfl) | rfl) | rfl) | rfl) | rfl) | rfl
  · exact go _ Tryd.func26 (by decide +kernel)
  · exact go _ Tryd.func38 (by decide +kernel)
  · exact go _ Tryd.func24 (by decide +kernel)
  · exact go _ Tryd.func25 (by decide +kernel)
  · exact go _ Tryd.func40 (by decide +kernel)
  · exact go _ Tryd.func42 (by decide +kernel)
  · exact go _ Tryd.func56 (by decide +kernel)
  · exact go _ Tryd.func9 (by decide +kernel)
  · exact go _ Tryd.func8 (by decide +kernel)
  · exact go _ Tryd.func12 (by decide +kernel)
  · exact go _ Tryd.func21 (by decide +kernel)
  · exact go _ Tryd.func27 (by decide +kernel)
  · exact go _ Tryd.func28 (by decide +kernel)
  · exact go _ Tryd.func29 (by decide +kernel)
  · exact go _ Tryd.func37 (by decide +kernel)
  · exact go _ Tryd.func43 (by decide +kernel)
  · exact go _ Tryd.func53 (by decide +kernel)
  · exact go _ Tryd.func58 (by decide +kernel)
  · exact go _ Tryd.func71 (by decide +kernel)
  · exact go _ Tryd.func4 (by decide +kernel)
  · exact go _ Tryd.func11 (by decide +kernel)
  · exact go _ Tryd.func16 (by decide +kernel)
  · exact go _ Tryd.func35 (by decide +kernel)
  · exact go _ Tryd.func39 (by decide +kernel)
  · exact go _ Tryd.func41 (by decide +kernel)
  · exact go _ Tryd.func54 (by decide +kernel)
end Go.Am
