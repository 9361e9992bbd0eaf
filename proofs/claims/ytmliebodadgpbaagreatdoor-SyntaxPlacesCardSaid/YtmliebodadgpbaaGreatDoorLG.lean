/- The code of the program's functions, looked at once. -/
import Derived.Test.YtmliebodadgpbaaGreatDoorLX
import Derived.Test.YtmliebodadgpbaaGreatDoorFaX
namespace Go.Am
theorem goods0 : (List.range' 0 60).all (goodAt PP [14]) = true := by decide +kernel
theorem goods1 : (List.range' 60 70).all (goodAt PP [14]) = true := by decide +kernel
theorem goods2 : (List.range' 130 70).all (goodAt PP [14]) = true := by decide +kernel
theorem funcs_size : PP.funcs.size = 184 := by decide +kernel
theorem good : GoodP PP [14] := goodP_of funcs_size fun f hf => by
  by_cases h0 : f < 60
  · exact List.all_eq_true.mp goods0 f (by rw [List.mem_range'_1]; omega)
  · by_cases h1 : f < 130
    · exact List.all_eq_true.mp goods1 f (by rw [List.mem_range'_1]; omega)
    · exact List.all_eq_true.mp goods2 f (by rw [List.mem_range'_1]; omega)
noncomputable def fast (h : Hook) : Kf := callT PP [14] XX 100000 h 60
theorem fast_sound {h : Hook} (hh : HookSnd PP h) : KSnd PP (fast h) := callT_sound good XX_sound hh mixed 60
end Go.Am
