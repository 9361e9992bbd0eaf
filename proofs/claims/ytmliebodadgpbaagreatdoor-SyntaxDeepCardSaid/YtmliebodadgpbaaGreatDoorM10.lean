/- An integer: its digits. -/
import Derived.Test.YtmliebodadgpbaaGreatDoorM09
import Derived.Test.YtmliebodadgpbaaGreatDoorM07
import Derived.Test.YtmliebodadgpbaaGreatDoorM08
open Go.Proofs
namespace Go.Am
set_option maxRecDepth 100000
theorem cls3 (u : UInt8) (h : clsI u = 3) : 48 ≤ u.toNat ∧ u.toNat ≤ 57 := by
 have hall : (List.range 256).all (fun n => !(decide (clsI (UInt8.ofNat n) = 3)) || (decide (48 ≤ n) && decide (n ≤ 57))) = true := by decide +kernel
 have := List.all_eq_true.mp hall u.toNat (List.mem_range.mpr u.toNat_lt)
 have e : UInt8.ofNat u.toNat = u := by simp
 rw [e, h] at this
 simpa using this
def dg (u : UInt8) : Nat := u.toNat - 48
def decI (s : List UInt8) : Nat → Nat → Nat → IR
 | 0, i, n => sufI s i n
 | k + 1, i, n => if isI s i 3 then (if n * 10 + dg (s.getD i 0) < m64 then decI s k (i + 1) (n * 10 + dg (s.getD i 0)) else .bad i) else sufI s i n
theorem y6h {s : List UInt8} {f i n : Nat} {u : UInt8} (h3 : isI s i 3 = true) (hu : s.getD i 0 = u) (ov : n * 10 + dg u < m64) : decI s (f + 1) i n = decI s f (i + 1) (n * 10 + dg u) := by
 subst hu
 unfold decI
 rw [h3, if_pos rfl, if_pos ov]
 cases f <;> rfl
theorem y6i {s : List UInt8} {f i n : Nat} {u : UInt8} (h3 : isI s i 3 = true) (hu : s.getD i 0 = u) (ov : ¬ n * 10 + dg u < m64) : decI s (f + 1) i n = .bad i := by
 subst hu
 unfold decI
 rw [h3, if_pos rfl, if_neg ov]
def endH (s : List UInt8) (fr i n : Nat) : IR := if i = fr then .bad i else sufI s i n
def hexI (s : List UInt8) (fr : Nat) : Nat → Nat → Nat → IR
 | 0, i, n => endH s fr i n
 | k + 1, i, n => if hexT (s.getD i 0).toNat < 16 then (if n * 16 + (hexT (s.getD i 0).toNat).toNat < m64 then hexI s fr k (i + 1) (n * 16 + (hexT (s.getD i 0).toNat).toNat) else .bad i) else endH s fr i n
theorem j94 (x : Int) (H : Heap) : convertA PP 5 35 (.int .u8 x) H = some (.int .u64 (IntKind.u64.wrap x), H) := by kernel_rfl
theorem yo4 {x : Int} (h0 : 0 ≤ x) (h1 : x < 18446744073709551616) : IntKind.u64.wrap x = x := by rw [IntKind.wrap_u64]; omega
theorem j95 {x : Int} (h0 : 0 ≤ x) (h1 : x < 256) : IntKind.u8.wrap x = x := by
 simp only [IntKind.wrap, IntKind.bits, IntKind.signed]
 simp
 omega
section jumps
variable {K : Kf} {N : Nat}
theorem jmp1 (E : Env) (ds : List Deferred) (H : Heap) (k : KOE) : execG PP XX K N noPr (.seq (rT Tryz.f49 1) (.seq (rF Tryz.f49 2) (.seq (.seq (rT Tryz.f49 3) (.cond (.tmp 50) (.seq (rF Tryz.f49 4) (.seq (rF Tryz.f49 5) (.goto 0))) .skip)) (.seq (.label 1) (.seq (.seq (rF Tryz.f49 6) (.cond (.tmp 63) (.seq (.seq (rT Tryz.f49 7) (.seq (rF Tryz.f49 8) (.cond (.tmp 82) (.seq (rF Tryz.f49 9) .ret) .skip))) (.seq (rF Tryz.f49 10) (.goto 1))) .skip)) (.seq (.goto 2) (.seq (.label 0) (.seq (.seq (rT Tryz.f49 11) (.cond (.tmp 113) (.seq (.seq (rT Tryz.f49 12) (.seq (rF Tryz.f49 13) (.cond (.tmp 131) (.seq (rF Tryz.f49 14) .ret) .skip))) (.seq (rF Tryz.f49 15) (.goto 0))) .skip)) (.seq (.seq (rF Tryz.f49 16) (.cond (.tmp 144) (.seq (rF Tryz.f49 17) .ret) .skip)) (.seq (.label 2) (.seq (.seq (rF Tryz.f49 18) (.cond (.tmp 146) (.seq (rF Tryz.f49 19) (.seq (.seq (rT Tryz.f49 20) (.block 0 (.seq (.block 3 (.seq (.block 2 (.seq (.block 1 (.seq (.seq (.seq (rF Tryz.f49 21) (.cond (.tmp 157) (.exit 1) .skip)) (.seq (rF Tryz.f49 22) (.cond (.tmp 159) (.exit 2) .skip))) (.exit 3))) (rF Tryz.f49 23))) (.seq (rF Tryz.f49 24) (.exit 0)))) (.seq (.seq (rF Tryz.f49 25) .ret) (.exit 0))))) (.seq (.seq (rF Tryz.f49 26) (.seq (rF Tryz.f49 27) (.cond (.tmp 172) (.seq (rF Tryz.f49 28) .ret) .skip))) (rF Tryz.f49 29)))) .skip)) (.seq (rF Tryz.f49 30) (.seq (rF Tryz.f49 31) .ret))))))))))))) (some 1) E ds H k = execG PP XX K N noPr (.seq (.seq (rF Tryz.f49 6) (.cond (.tmp 63) (.seq (.seq (rT Tryz.f49 7) (.seq (rF Tryz.f49 8) (.cond (.tmp 82) (.seq (rF Tryz.f49 9) .ret) .skip))) (.seq (rF Tryz.f49 10) (.goto 1))) .skip)) (.seq (.goto 2) (.seq (.label 0) (.seq (.seq (rT Tryz.f49 11) (.cond (.tmp 113) (.seq (.seq (rT Tryz.f49 12) (.seq (rF Tryz.f49 13) (.cond (.tmp 131) (.seq (rF Tryz.f49 14) .ret) .skip))) (.seq (rF Tryz.f49 15) (.goto 0))) .skip)) (.seq (.seq (rF Tryz.f49 16) (.cond (.tmp 144) (.seq (rF Tryz.f49 17) .ret) .skip)) (.seq (.label 2) (.seq (.seq (rF Tryz.f49 18) (.cond (.tmp 146) (.seq (rF Tryz.f49 19) (.seq (.seq (rT Tryz.f49 20) (.block 0 (.seq (.block 3 (.seq (.block 2 (.seq (.block 1 (.seq (.seq (.seq (rF Tryz.f49 21) (.cond (.tmp 157) (.exit 1) .skip)) (.seq (rF Tryz.f49 22) (.cond (.tmp 159) (.exit 2) .skip))) (.exit 3))) (rF Tryz.f49 23))) (.seq (rF Tryz.f49 24) (.exit 0)))) (.seq (.seq (rF Tryz.f49 25) .ret) (.exit 0))))) (.seq (.seq (rF Tryz.f49 26) (.seq (rF Tryz.f49 27) (.cond (.tmp 172) (.seq (rF Tryz.f49 28) .ret) .skip))) (rF Tryz.f49 29)))) .skip)) (.seq (rF Tryz.f49 30) (.seq (rF Tryz.f49 31) .ret))))))))) none E ds H k := by
 rw [jj5 _ _ _ _ _ _ _ rfl, jj5 _ _ _ _ _ _ _ rfl, jj5 _ _ _ _ _ _ _ rfl, y2r _ _ _ _ _ _ _ rfl, y2q, jc4]
theorem jmp2 (E : Env) (ds : List Deferred) (H : Heap) (k : KOE) : execG PP XX K N noPr (.seq (rT Tryz.f49 1) (.seq (rF Tryz.f49 2) (.seq (.seq (rT Tryz.f49 3) (.cond (.tmp 50) (.seq (rF Tryz.f49 4) (.seq (rF Tryz.f49 5) (.goto 0))) .skip)) (.seq (.label 1) (.seq (.seq (rF Tryz.f49 6) (.cond (.tmp 63) (.seq (.seq (rT Tryz.f49 7) (.seq (rF Tryz.f49 8) (.cond (.tmp 82) (.seq (rF Tryz.f49 9) .ret) .skip))) (.seq (rF Tryz.f49 10) (.goto 1))) .skip)) (.seq (.goto 2) (.seq (.label 0) (.seq (.seq (rT Tryz.f49 11) (.cond (.tmp 113) (.seq (.seq (rT Tryz.f49 12) (.seq (rF Tryz.f49 13) (.cond (.tmp 131) (.seq (rF Tryz.f49 14) .ret) .skip))) (.seq (rF Tryz.f49 15) (.goto 0))) .skip)) (.seq (.seq (rF Tryz.f49 16) (.cond (.tmp 144) (.seq (rF Tryz.f49 17) .ret) .skip)) (.seq (.label 2) (.seq (.seq (rF Tryz.f49 18) (.cond (.tmp 146) (.seq (rF Tryz.f49 19) (.seq (.seq (rT Tryz.f49 20) (.block 0 (.seq (.block 3 (.seq (.block 2 (.seq (.block 1 (.seq (.seq (.seq (rF Tryz.f49 21) (.cond (.tmp 157) (.exit 1) .skip)) (.seq (rF Tryz.f49 22) (.cond (.tmp 159) (.exit 2) .skip))) (.exit 3))) (rF Tryz.f49 23))) (.seq (rF Tryz.f49 24) (.exit 0)))) (.seq (.seq (rF Tryz.f49 25) .ret) (.exit 0))))) (.seq (.seq (rF Tryz.f49 26) (.seq (rF Tryz.f49 27) (.cond (.tmp 172) (.seq (rF Tryz.f49 28) .ret) .skip))) (rF Tryz.f49 29)))) .skip)) (.seq (rF Tryz.f49 30) (.seq (rF Tryz.f49 31) .ret))))))))))))) (some 2) E ds H k = execG PP XX K N noPr (.seq (.seq (rF Tryz.f49 18) (.cond (.tmp 146) (.seq (rF Tryz.f49 19) (.seq (.seq (rT Tryz.f49 20) (.block 0 (.seq (.block 3 (.seq (.block 2 (.seq (.block 1 (.seq (.seq (.seq (rF Tryz.f49 21) (.cond (.tmp 157) (.exit 1) .skip)) (.seq (rF Tryz.f49 22) (.cond (.tmp 159) (.exit 2) .skip))) (.exit 3))) (rF Tryz.f49 23))) (.seq (rF Tryz.f49 24) (.exit 0)))) (.seq (.seq (rF Tryz.f49 25) .ret) (.exit 0))))) (.seq (.seq (rF Tryz.f49 26) (.seq (rF Tryz.f49 27) (.cond (.tmp 172) (.seq (rF Tryz.f49 28) .ret) .skip))) (rF Tryz.f49 29)))) .skip)) (.seq (rF Tryz.f49 30) (.seq (rF Tryz.f49 31) .ret))) none E ds H k := by
 rw [jj5 _ _ _ _ _ _ _ rfl, jj5 _ _ _ _ _ _ _ rfl, jj5 _ _ _ _ _ _ _ rfl, jj5 _ _ _ _ _ _ _ rfl, jj5 _ _ _ _ _ _ _ rfl, jj5 _ _ _ _ _ _ _ rfl, jj5 _ _ _ _ _ _ _ rfl, jj5 _ _ _ _ _ _ _ rfl, jj5 _ _ _ _ _ _ _ rfl, y2r _ _ _ _ _ _ _ rfl, y2q, jc4]
end jumps
theorem lab1 : hasLabel 1 (.seq (rT Tryz.f49 1) (.seq (rF Tryz.f49 2) (.seq (.seq (rT Tryz.f49 3) (.cond (.tmp 50) (.seq (rF Tryz.f49 4) (.seq (rF Tryz.f49 5) (.goto 0))) .skip)) (.seq (.label 1) (.seq (.seq (rF Tryz.f49 6) (.cond (.tmp 63) (.seq (.seq (rT Tryz.f49 7) (.seq (rF Tryz.f49 8) (.cond (.tmp 82) (.seq (rF Tryz.f49 9) .ret) .skip))) (.seq (rF Tryz.f49 10) (.goto 1))) .skip)) (.seq (.goto 2) (.seq (.label 0) (.seq (.seq (rT Tryz.f49 11) (.cond (.tmp 113) (.seq (.seq (rT Tryz.f49 12) (.seq (rF Tryz.f49 13) (.cond (.tmp 131) (.seq (rF Tryz.f49 14) .ret) .skip))) (.seq (rF Tryz.f49 15) (.goto 0))) .skip)) (.seq (.seq (rF Tryz.f49 16) (.cond (.tmp 144) (.seq (rF Tryz.f49 17) .ret) .skip)) (.seq (.label 2) (.seq (.seq (rF Tryz.f49 18) (.cond (.tmp 146) (.seq (rF Tryz.f49 19) (.seq (.seq (rT Tryz.f49 20) (.block 0 (.seq (.block 3 (.seq (.block 2 (.seq (.block 1 (.seq (.seq (.seq (rF Tryz.f49 21) (.cond (.tmp 157) (.exit 1) .skip)) (.seq (rF Tryz.f49 22) (.cond (.tmp 159) (.exit 2) .skip))) (.exit 3))) (rF Tryz.f49 23))) (.seq (rF Tryz.f49 24) (.exit 0)))) (.seq (.seq (rF Tryz.f49 25) .ret) (.exit 0))))) (.seq (.seq (rF Tryz.f49 26) (.seq (rF Tryz.f49 27) (.cond (.tmp 172) (.seq (rF Tryz.f49 28) .ret) .skip))) (rF Tryz.f49 29)))) .skip)) (.seq (rF Tryz.f49 30) (.seq (rF Tryz.f49 31) .ret))))))))))))) = true := by rfl
theorem lab2 : hasLabel 2 (.seq (rT Tryz.f49 1) (.seq (rF Tryz.f49 2) (.seq (.seq (rT Tryz.f49 3) (.cond (.tmp 50) (.seq (rF Tryz.f49 4) (.seq (rF Tryz.f49 5) (.goto 0))) .skip)) (.seq (.label 1) (.seq (.seq (rF Tryz.f49 6) (.cond (.tmp 63) (.seq (.seq (rT Tryz.f49 7) (.seq (rF Tryz.f49 8) (.cond (.tmp 82) (.seq (rF Tryz.f49 9) .ret) .skip))) (.seq (rF Tryz.f49 10) (.goto 1))) .skip)) (.seq (.goto 2) (.seq (.label 0) (.seq (.seq (rT Tryz.f49 11) (.cond (.tmp 113) (.seq (.seq (rT Tryz.f49 12) (.seq (rF Tryz.f49 13) (.cond (.tmp 131) (.seq (rF Tryz.f49 14) .ret) .skip))) (.seq (rF Tryz.f49 15) (.goto 0))) .skip)) (.seq (.seq (rF Tryz.f49 16) (.cond (.tmp 144) (.seq (rF Tryz.f49 17) .ret) .skip)) (.seq (.label 2) (.seq (.seq (rF Tryz.f49 18) (.cond (.tmp 146) (.seq (rF Tryz.f49 19) (.seq (.seq (rT Tryz.f49 20) (.block 0 (.seq (.block 3 (.seq (.block 2 (.seq (.block 1 (.seq (.seq (.seq (rF Tryz.f49 21) (.cond (.tmp 157) (.exit 1) .skip)) (.seq (rF Tryz.f49 22) (.cond (.tmp 159) (.exit 2) .skip))) (.exit 3))) (rF Tryz.f49 23))) (.seq (rF Tryz.f49 24) (.exit 0)))) (.seq (.seq (rF Tryz.f49 25) .ret) (.exit 0))))) (.seq (.seq (rF Tryz.f49 26) (.seq (rF Tryz.f49 27) (.cond (.tmp 172) (.seq (rF Tryz.f49 28) .ret) .skip))) (rF Tryz.f49 29)))) .skip)) (.seq (rF Tryz.f49 30) (.seq (rF Tryz.f49 31) .ret))))))))))))) = true := by rfl
theorem y2s {N : Nat} {H0 : Heap} {a : Option Addr} {c : Nat} {s : List UInt8} {b t : Nat} {Q : R → Prop} {k : KOE} {hk : Hook} {d : Nat} {kd f0 t0 : Int} {w : ByteArray} {n0 : Int} (x : Ctx H0 a c s b) (hbt : t ≠ b) (ht : H0.get t = some (tok kd n0 w f0 t0)) (hh : NH hk) (htl : t < H0.next) (htg : GE.next ≤ t) (hrt : ∀ q, a = some q → q.block ≠ t) (hm : ∀ x y H, x < m64 → y < m64 → hk 94 #[.int .u64 ((x : Nat) : Int), .int .u64 ((y : Nat) : Int)] H = some (some (.ret (mulV x y), H))) {H : Heap} {E : Env} {i n m : Nat} (h : Curs H0 H b a s.length c i) (hn : n < m64) (he : (E 0 = .pointer (some ⟨b, 0, none⟩) ∧ E 1 = .pointer (some ⟨t, 0, none⟩) ∧ E 7 = .int .u64 (n : Int)))
   (hx : ∀ E' H', Fin H0 a s.length c b t kd w f0 t0 (sufI s i n) E' H' → Q (k .ret E' [] H')) : Q (execG PP XX (CG N hk (d + 2)) N noPr (.seq (.seq (rF Tryz.f49 18) (.cond (.tmp 146) (.seq (rF Tryz.f49 19) (.seq (.seq (rT Tryz.f49 20) (.block 0 (.seq (.block 3 (.seq (.block 2 (.seq (.block 1 (.seq (.seq (.seq (rF Tryz.f49 21) (.cond (.tmp 157) (.exit 1) .skip)) (.seq (rF Tryz.f49 22) (.cond (.tmp 159) (.exit 2) .skip))) (.exit 3))) (rF Tryz.f49 23))) (.seq (rF Tryz.f49 24) (.exit 0)))) (.seq (.seq (rF Tryz.f49 25) .ret) (.exit 0))))) (.seq (.seq (rF Tryz.f49 26) (.seq (rF Tryz.f49 27) (.cond (.tmp 172) (.seq (rF Tryz.f49 28) .ret) .skip))) (rF Tryz.f49 29)))) .skip)) (.seq (rF Tryz.f49 30) (.seq (rF Tryz.f49 31) .ret))) none E [] H (scopeK (.seq (rT Tryz.f49 1) (.seq (rF Tryz.f49 2) (.seq (.seq (rT Tryz.f49 3) (.cond (.tmp 50) (.seq (rF Tryz.f49 4) (.seq (rF Tryz.f49 5) (.goto 0))) .skip)) (.seq (.label 1) (.seq (.seq (rF Tryz.f49 6) (.cond (.tmp 63) (.seq (.seq (rT Tryz.f49 7) (.seq (rF Tryz.f49 8) (.cond (.tmp 82) (.seq (rF Tryz.f49 9) .ret) .skip))) (.seq (rF Tryz.f49 10) (.goto 1))) .skip)) (.seq (.goto 2) (.seq (.label 0) (.seq (.seq (rT Tryz.f49 11) (.cond (.tmp 113) (.seq (.seq (rT Tryz.f49 12) (.seq (rF Tryz.f49 13) (.cond (.tmp 131) (.seq (rF Tryz.f49 14) .ret) .skip))) (.seq (rF Tryz.f49 15) (.goto 0))) .skip)) (.seq (.seq (rF Tryz.f49 16) (.cond (.tmp 144) (.seq (rF Tryz.f49 17) .ret) .skip)) (.seq (.label 2) (.seq (.seq (rF Tryz.f49 18) (.cond (.tmp 146) (.seq (rF Tryz.f49 19) (.seq (.seq (rT Tryz.f49 20) (.block 0 (.seq (.block 3 (.seq (.block 2 (.seq (.block 1 (.seq (.seq (.seq (rF Tryz.f49 21) (.cond (.tmp 157) (.exit 1) .skip)) (.seq (rF Tryz.f49 22) (.cond (.tmp 159) (.exit 2) .skip))) (.exit 3))) (rF Tryz.f49 23))) (.seq (rF Tryz.f49 24) (.exit 0)))) (.seq (.seq (rF Tryz.f49 25) .ret) (.exit 0))))) (.seq (.seq (rF Tryz.f49 26) (.seq (rF Tryz.f49 27) (.cond (.tmp 172) (.seq (rF Tryz.f49 28) .ret) .skip))) (rF Tryz.f49 29)))) .skip)) (.seq (rF Tryz.f49 30) (.seq (rF Tryz.f49 31) .ret))))))))))))) (execG PP XX (CG N hk (d + 2)) N noPr (.seq (rT Tryz.f49 1) (.seq (rF Tryz.f49 2) (.seq (.seq (rT Tryz.f49 3) (.cond (.tmp 50) (.seq (rF Tryz.f49 4) (.seq (rF Tryz.f49 5) (.goto 0))) .skip)) (.seq (.label 1) (.seq (.seq (rF Tryz.f49 6) (.cond (.tmp 63) (.seq (.seq (rT Tryz.f49 7) (.seq (rF Tryz.f49 8) (.cond (.tmp 82) (.seq (rF Tryz.f49 9) .ret) .skip))) (.seq (rF Tryz.f49 10) (.goto 1))) .skip)) (.seq (.goto 2) (.seq (.label 0) (.seq (.seq (rT Tryz.f49 11) (.cond (.tmp 113) (.seq (.seq (rT Tryz.f49 12) (.seq (rF Tryz.f49 13) (.cond (.tmp 131) (.seq (rF Tryz.f49 14) .ret) .skip))) (.seq (rF Tryz.f49 15) (.goto 0))) .skip)) (.seq (.seq (rF Tryz.f49 16) (.cond (.tmp 144) (.seq (rF Tryz.f49 17) .ret) .skip)) (.seq (.label 2) (.seq (.seq (rF Tryz.f49 18) (.cond (.tmp 146) (.seq (rF Tryz.f49 19) (.seq (.seq (rT Tryz.f49 20) (.block 0 (.seq (.block 3 (.seq (.block 2 (.seq (.block 1 (.seq (.seq (.seq (rF Tryz.f49 21) (.cond (.tmp 157) (.exit 1) .skip)) (.seq (rF Tryz.f49 22) (.cond (.tmp 159) (.exit 2) .skip))) (.exit 3))) (rF Tryz.f49 23))) (.seq (rF Tryz.f49 24) (.exit 0)))) (.seq (.seq (rF Tryz.f49 25) .ret) (.exit 0))))) (.seq (.seq (rF Tryz.f49 26) (.seq (rF Tryz.f49 27) (.cond (.tmp 172) (.seq (rF Tryz.f49 28) .ret) .skip))) (rF Tryz.f49 29)))) .skip)) (.seq (rF Tryz.f49 30) (.seq (rF Tryz.f49 31) .ret)))))))))))))) m k)) := by
 refine y71 x h hbt ht hh htl htg hrt hm hn he.1 he.2.1 he.2.2 fun E' H' hf => ?_
 rw [ji0]
 exact hx E' H' hf
theorem j96 {N : Nat} {H0 : Heap} {a : Option Addr} {c : Nat} {s : List UInt8} {b t : Nat} {Q : R → Prop} {k : KOE} {hk : Hook} {d : Nat} {kd f0 t0 : Int} {w : ByteArray} {n0 : Int} (x : Ctx H0 a c s b) (hbt : t ≠ b) (ht : H0.get t = some (tok kd n0 w f0 t0)) (hh : NH hk) (htl : t < H0.next) (htg : GE.next ≤ t) (hrt : ∀ q, a = some q → q.block ≠ t) (hm : ∀ x y H, x < m64 → y < m64 → hk 94 #[.int .u64 ((x : Nat) : Int), .int .u64 ((y : Nat) : Int)] H = some (some (.ret (mulV x y), H))) :
   ∀ (f i n m : Nat) (_ : i + f = s.length) (_ : f < m) (_ : n < m64) {H : Heap} {E : Env} (_ : Curs H0 H b a s.length c i) (_ : (E 0 = .pointer (some ⟨b, 0, none⟩) ∧ E 1 = .pointer (some ⟨t, 0, none⟩) ∧ E 7 = .int .u64 (n : Int)))
     (_ : ∀ E' H', Fin H0 a s.length c b t kd w f0 t0 (decI s f i n) E' H' → Q (k .ret E' [] H')), Q (execG PP XX (CG N hk (d + 2)) N noPr (.seq (.seq (rF Tryz.f49 6) (.cond (.tmp 63) (.seq (.seq (rT Tryz.f49 7) (.seq (rF Tryz.f49 8) (.cond (.tmp 82) (.seq (rF Tryz.f49 9) .ret) .skip))) (.seq (rF Tryz.f49 10) (.goto 1))) .skip)) (.seq (.goto 2) (.seq (.label 0) (.seq (.seq (rT Tryz.f49 11) (.cond (.tmp 113) (.seq (.seq (rT Tryz.f49 12) (.seq (rF Tryz.f49 13) (.cond (.tmp 131) (.seq (rF Tryz.f49 14) .ret) .skip))) (.seq (rF Tryz.f49 15) (.goto 0))) .skip)) (.seq (.seq (rF Tryz.f49 16) (.cond (.tmp 144) (.seq (rF Tryz.f49 17) .ret) .skip)) (.seq (.label 2) (.seq (.seq (rF Tryz.f49 18) (.cond (.tmp 146) (.seq (rF Tryz.f49 19) (.seq (.seq (rT Tryz.f49 20) (.block 0 (.seq (.block 3 (.seq (.block 2 (.seq (.block 1 (.seq (.seq (.seq (rF Tryz.f49 21) (.cond (.tmp 157) (.exit 1) .skip)) (.seq (rF Tryz.f49 22) (.cond (.tmp 159) (.exit 2) .skip))) (.exit 3))) (rF Tryz.f49 23))) (.seq (rF Tryz.f49 24) (.exit 0)))) (.seq (.seq (rF Tryz.f49 25) .ret) (.exit 0))))) (.seq (.seq (rF Tryz.f49 26) (.seq (rF Tryz.f49 27) (.cond (.tmp 172) (.seq (rF Tryz.f49 28) .ret) .skip))) (rF Tryz.f49 29)))) .skip)) (.seq (rF Tryz.f49 30) (.seq (rF Tryz.f49 31) .ret))))))))) none E [] H (scopeK (.seq (rT Tryz.f49 1) (.seq (rF Tryz.f49 2) (.seq (.seq (rT Tryz.f49 3) (.cond (.tmp 50) (.seq (rF Tryz.f49 4) (.seq (rF Tryz.f49 5) (.goto 0))) .skip)) (.seq (.label 1) (.seq (.seq (rF Tryz.f49 6) (.cond (.tmp 63) (.seq (.seq (rT Tryz.f49 7) (.seq (rF Tryz.f49 8) (.cond (.tmp 82) (.seq (rF Tryz.f49 9) .ret) .skip))) (.seq (rF Tryz.f49 10) (.goto 1))) .skip)) (.seq (.goto 2) (.seq (.label 0) (.seq (.seq (rT Tryz.f49 11) (.cond (.tmp 113) (.seq (.seq (rT Tryz.f49 12) (.seq (rF Tryz.f49 13) (.cond (.tmp 131) (.seq (rF Tryz.f49 14) .ret) .skip))) (.seq (rF Tryz.f49 15) (.goto 0))) .skip)) (.seq (.seq (rF Tryz.f49 16) (.cond (.tmp 144) (.seq (rF Tryz.f49 17) .ret) .skip)) (.seq (.label 2) (.seq (.seq (rF Tryz.f49 18) (.cond (.tmp 146) (.seq (rF Tryz.f49 19) (.seq (.seq (rT Tryz.f49 20) (.block 0 (.seq (.block 3 (.seq (.block 2 (.seq (.block 1 (.seq (.seq (.seq (rF Tryz.f49 21) (.cond (.tmp 157) (.exit 1) .skip)) (.seq (rF Tryz.f49 22) (.cond (.tmp 159) (.exit 2) .skip))) (.exit 3))) (rF Tryz.f49 23))) (.seq (rF Tryz.f49 24) (.exit 0)))) (.seq (.seq (rF Tryz.f49 25) .ret) (.exit 0))))) (.seq (.seq (rF Tryz.f49 26) (.seq (rF Tryz.f49 27) (.cond (.tmp 172) (.seq (rF Tryz.f49 28) .ret) .skip))) (rF Tryz.f49 29)))) .skip)) (.seq (rF Tryz.f49 30) (.seq (rF Tryz.f49 31) .ret))))))))))))) (execG PP XX (CG N hk (d + 2)) N noPr (.seq (rT Tryz.f49 1) (.seq (rF Tryz.f49 2) (.seq (.seq (rT Tryz.f49 3) (.cond (.tmp 50) (.seq (rF Tryz.f49 4) (.seq (rF Tryz.f49 5) (.goto 0))) .skip)) (.seq (.label 1) (.seq (.seq (rF Tryz.f49 6) (.cond (.tmp 63) (.seq (.seq (rT Tryz.f49 7) (.seq (rF Tryz.f49 8) (.cond (.tmp 82) (.seq (rF Tryz.f49 9) .ret) .skip))) (.seq (rF Tryz.f49 10) (.goto 1))) .skip)) (.seq (.goto 2) (.seq (.label 0) (.seq (.seq (rT Tryz.f49 11) (.cond (.tmp 113) (.seq (.seq (rT Tryz.f49 12) (.seq (rF Tryz.f49 13) (.cond (.tmp 131) (.seq (rF Tryz.f49 14) .ret) .skip))) (.seq (rF Tryz.f49 15) (.goto 0))) .skip)) (.seq (.seq (rF Tryz.f49 16) (.cond (.tmp 144) (.seq (rF Tryz.f49 17) .ret) .skip)) (.seq (.label 2) (.seq (.seq (rF Tryz.f49 18) (.cond (.tmp 146) (.seq (rF Tryz.f49 19) (.seq (.seq (rT Tryz.f49 20) (.block 0 (.seq (.block 3 (.seq (.block 2 (.seq (.block 1 (.seq (.seq (.seq (rF Tryz.f49 21) (.cond (.tmp 157) (.exit 1) .skip)) (.seq (rF Tryz.f49 22) (.cond (.tmp 159) (.exit 2) .skip))) (.exit 3))) (rF Tryz.f49 23))) (.seq (rF Tryz.f49 24) (.exit 0)))) (.seq (.seq (rF Tryz.f49 25) .ret) (.exit 0))))) (.seq (.seq (rF Tryz.f49 26) (.seq (rF Tryz.f49 27) (.cond (.tmp 172) (.seq (rF Tryz.f49 28) .ret) .skip))) (rF Tryz.f49 29)))) .skip)) (.seq (rF Tryz.f49 30) (.seq (rF Tryz.f49 31) .ret)))))))))))))) m k))
 | 0, i, n, m + 1, hf, hmm, hn, H, E, h, ⟨e0, e1, e7⟩, hx => by
   have r1 := jf6 (N := N) (hk := hk) (d := d) (h.gg x) (h.row x) h.here 3 hh
   have h3 : isI s i 3 = false := by simp [isI]; omega
   rw [h3] at r1
   have l6 := tl (rgn Tryz.f49 6)
   conv at l6 => rhs; simp only [rgn, opsAt, codeOf, Tryz.f49, gS, gN, reduceIte, Nat.reduceEqDiff, tA]
   simp (decide := true) only [↓uR.o, dG.o, ja1, reduceIte, ↓ja0 l6, ↓jz9, j0a, e0, ja3 Tryz.func47 rfl rfl r1]
   rw [ju4 lab2, jg9, jmp2]
   exact y2s x hbt ht hh htl htg hrt hm h hn ⟨by simp (decide := true) only [ja1, reduceIte, e0], by simp (decide := true) only [ja1, reduceIte, e1], by simp (decide := true) only [ja1, reduceIte, e7]⟩ hx
 | f + 1, i, n, m + 1, hf, hmm, hn, H, E, h, ⟨e0, e1, e7⟩, hx => by
   have a1 : i + 1 + f = s.length := by omega
   have a2 : f < m := by omega
   have r1 := jf6 (N := N) (hk := hk) (d := d) (h.gg x) (h.row x) h.here 3 hh
   have hsm := x.row.small
   have lL := lX5 Tryz.f49 6 7 8 9 10
   conv at lL in (occs := *) (rgnX _ _) => all_goals simp only [rX, opsAt, Tryz.f49, dL.o, reduceIte, Nat.reduceEqDiff]
   obtain ⟨l6, l7, l8, l9, l10⟩ := lL
   cases h3 : isI s i 3 with
   | false =>
     rw [h3] at r1
     have es : decI s (f + 1) i n = sufI s i n := by unfold decI; rw [h3]; rfl
     rw [es] at hx
     simp (decide := true) only [↓uR.o, dG.o, ja1, reduceIte, ↓ja0 l6, ↓jz9, j0a, e0, ja3 Tryz.func47 rfl rfl r1]
     rw [ju4 lab2, jg9, jmp2]
     exact y2s x hbt ht hh htl htg hrt hm h hn ⟨by simp (decide := true) only [ja1, reduceIte, e0], by simp (decide := true) only [ja1, reduceIte, e1], by simp (decide := true) only [ja1, reduceIte, e7]⟩ hx
   | true =>
     rw [h3] at r1
     have hi : i < s.length := by omega
     have hgd : s.getD i 0 = s[i] := by simp [List.getD, hi]
     have hc3 : clsI s[i] = 3 := by
       have := h3
       simp only [isI, Bool.and_eq_true, hgd] at this
       simpa using this.2
     obtain ⟨b1, b2⟩ := cls3 _ hc3
     obtain ⟨y, rfl, hl⟩ := (h.row x).bts.cell i hi
     have hix := jc1 (n := s.length) (c := c) (a := y) hi
     have w1 : IntKind.i64.wrap ((i : Int) + 1) = ((i + 1 : Nat) : Int) := by rw [jb2 (by omega) (by omega)]; omega
     have w2 : IntKind.u8.wrap ((s[i].toNat : Int) - 48) = (dg s[i] : Int) := by rw [j95 (by omega) (by omega)]; unfold dg; omega
     have w3 : IntKind.u64.wrap (dg s[i] : Int) = (dg s[i] : Int) := yo4 (by omega) (by unfold dg; omega)
     have hd : dg s[i] < m64 := by unfold dg m64; omega
     have m10 : (10 : Nat) < m64 := by decide
     have q0 : ∀ (u v : Value), extractA (.tuple #[u, v]) 0 = some u := fun _ _ => rfl
     have q1 : ∀ (u v : Value), extractA (.tuple #[u, v]) 1 = some v := fun _ _ => rfl
     by_cases ov : n * 10 + dg s[i] < m64
     · have hmo := j79 (N := N) (hk := hk) (d := d) (H := H) n 10 (dg s[i]) (n * 10 + dg s[i]) 10 (dg s[i] : Int) (by omega) rfl hn m10 hd rfl ov hh hm
       have es : decI s (f + 1) i n = decI s f (i + 1) (n * 10 + dg s[i]) := by exact y6h h3 hgd ov
       rw [es] at hx
       simp (decide := true) only [↓uR.o, dG.o, ja1, ja5, reduceIte, ↓ja0 l6, ↓ja0 l7, ↓ja0 l8, ↓ja0 l10, ↓jz9, j0a, e0, e7, ja3 Tryz.func47 rfl rfl r1, fld0, fld1, jd2 h.here, jd0 h.here, hix, ja9 hl, w2, j94, w3, ja3 Tryz.func69 rfl rfl hmo, q0, q1, yf9, w1, ji5 h.here]
       clear w1 w2 w3 hmo
       rw [ju4 lab1]
       rw [jg9, jmp1]
       exact j96 x hbt ht hh htl htg hrt hm f (i + 1) (n * 10 + dg s[i]) m a1 a2 ov (h.set (i + 1)) ⟨by simp (decide := true) only [ja1, reduceIte, e0], by simp (decide := true) only [ja1, reduceIte, e1], by simp (decide := true) only [ja1, reduceIte, e7]⟩ hx
     · obtain ⟨vv, hmo⟩ := j8a (N := N) (hk := hk) (d := d) (H := H) n 10 (dg s[i]) (n * 10 + dg s[i]) 10 (dg s[i] : Int) (by omega) rfl hn m10 hd rfl ov hh hm
       have es : decI s (f + 1) i n = .bad i := by exact y6i h3 hgd ov
       rw [es] at hx
       simp (decide := true) only [↓uR.o, dG.o, ja1, reduceIte, ↓ja0 l6, ↓ja0 l7, ↓ja0 l8, ↓ja0 l9, e0, e7, ja3 Tryz.func47 rfl rfl r1, fld0, fld1, jd2 h.here, jd0 h.here, hix, ja9 hl, w2, j94, w3, ja3 Tryz.func69 rfl rfl hmo, q0, q1, yf8, ji0]
       exact hx _ _ ⟨by simp (decide := true) only [ja1, reduceIte], _, h.two hbt ht⟩
def intI (s : List UInt8) (i : Nat) : IR := if s.getD i 0 = 48 ∧ i + 1 < s.length ∧ s.getD (i + 1) 0 = 120 then hexI s (i + 2) (s.length - (i + 2)) (i + 2) 0 else decI s (s.length - i) i 0
theorem y00 {N : Nat} {H0 : Heap} {a : Option Addr} {c : Nat} {s : List UInt8} {b t : Nat} {Q : R → Prop} {k : KOE} {hk : Hook} {d : Nat} {kd f0 t0 : Int} {w : ByteArray} {n0 : Int} {H : Heap} {i : Nat} (x : Ctx H0 a c s b) (hbt : t ≠ b) (ht : H0.get t = some (tok kd n0 w f0 t0)) (hh : NH hk) (htl : t < H0.next) (htg : GE.next ≤ t) (hrt : ∀ q, a = some q → q.block ≠ t) (hm : ∀ x y H, x < m64 → y < m64 → hk 94 #[.int .u64 ((x : Nat) : Int), .int .u64 ((y : Nat) : Int)] H = some (some (.ret (mulV x y), H))) (hhex : ∀ (u : UInt8) H, Ext GE H → hk 70 #[.int .u8 (u.toNat : Int)] H = some (some (.ret (.int .u64 (hexT u.toNat)), H))) (hok : okP s) (h : Curs H0 H b a s.length c i) (hi : i < s.length) (hN : s.length + 4 < N) :
   ∃ E' H', Fin H0 a s.length c b t kd w f0 t0 (intI s i) E' H' ∧ ∃ v, E' 4 = v ∧ CG N hk (d + 3) 49 #[.pointer (some ⟨b, 0, none⟩), .pointer (some ⟨t, 0, none⟩)] H = some (.ret v, H') := by
 have main : ∃ R0 : R, CG N hk (d + 3) 49 #[.pointer (some ⟨b, 0, none⟩), .pointer (some ⟨t, 0, none⟩)] H = R0 ∧ ∃ E' H', Fin H0 a s.length c b t kd w f0 t0 (intI s i) E' H' ∧ ∃ v, E' 4 = v ∧ R0 = some (.ret v, H') := by
   refine ⟨_, jc2 (hh _ _ _ rfl) Tryz.func49 (c := codeOf Tryz.f49) rfl rfl rfl (pr := noPr) rfl, ?_⟩
   rw [code49]
   generalize hF : finE PP Tryz.f49 = F
   obtain ⟨M, rfl⟩ : ∃ q, N = q + 1 := ⟨N - 1, by omega⟩
   have hsm := x.row.small
   obtain ⟨y, rfl, hl⟩ := (h.row x).bts.cell i hi
   have hix := jc1 (n := s.length) (c := c) (a := y) hi
   have hgd : s.getD i 0 = s[i] := by simp [List.getD, hi]
   have z48 : ((s[i].toNat : Int) == 48) = decide (s[i] = 48) := jo3 s[i] 48
   have w1 : IntKind.i64.wrap ((i : Int) + 1) = ((i + 1 : Nat) : Int) := by rw [jb2 (by omega) (by omega)]; omega
   have fin : ∀ E' H', Fin H0 (some y) s.length c b t kd w f0 t0 (intI s i) E' H' → ∃ E'' H'', Fin H0 (some y) s.length c b t kd w f0 t0 (intI s i) E'' H'' ∧ ∃ v, E'' 4 = v ∧ F .ret E' [] H' = some (.ret v, H'') := fun E' H' hf => by
     refine ⟨E', H', hf, E' 4, rfl, ?_⟩
     rw [← hF, jb6 (l := [E' 4]) (by simp (decide := true) [Tryz.f49, resE])]
     rfl
   have m0 : (0 : Nat) < m64 := by decide
   have lL := lX6 Tryz.f49 0 1 2 3 4 5
   conv at lL in (occs := *) (rgnX _ _) => all_goals simp only [rX, opsAt, Tryz.f49, dL.o, reduceIte, Nat.reduceEqDiff]
   obtain ⟨l0, l1, l2, l3, l4, l5⟩ := lL
   by_cases c48 : s[i] = 48
   · rw [decide_eq_true c48] at z48
     by_cases h1 : i + 1 < s.length
     · have hlt : decide (((i + 1 : Nat) : Int) < (s.length : Int)) = true := decide_eq_true (by omega)
       obtain ⟨y2, e2, hl1⟩ := (h.row x).bts.cell (i + 1) h1
       obtain rfl := Option.some.inj e2
       have hix1 := jc1 (n := s.length) (c := c) (a := y) h1
       have hgd1 : s.getD (i + 1) 0 = s[i + 1] := by simp [List.getD, h1]
       have z120 : ((s[i + 1].toNat : Int) == 120) = decide (s[i + 1] = 120) := jo3 s[i + 1] 120
       by_cases c120 : s[i + 1] = 120
       · exact absurd c120 (hok _ (List.getElem_mem h1)).2
       · rw [decide_eq_false c120] at z120
         have es : intI s i = decI s (s.length - i) i 0 := by rw [intI, if_neg (fun q => c120 (by rw [← hgd1]; exact q.2.2))]
         simp (decide := true) only [↓uR.o, dG.o, ja1, reduceIte, ↓ja0 l0, ↓ja0 l1, ↓ja0 l2, ↓ja0 l3, ↓jb7 _ 11 true 24 _ j14, ↓jb7 _ 24 true 37 _ j15, ↓jo7, ↓jo8, ↓jg9, fld0, fld1, jd2 h.here, jd0 h.here, hix, ja9 hl, z48, w1, ja7 (ts := #[34]) rfl und34, hlt, hix1, ja9 hl1, z120]
         refine j96 (Q := fun r => ∃ E' H', Fin H0 (some y) s.length c b t kd w f0 t0 (intI s i) E' H' ∧ ∃ v, E' 4 = v ∧ r = some (.ret v, H')) x hbt ht hh htl htg hrt hm (s.length - i) i 0 M (by omega) (by omega) m0 h ⟨?_, ?_, ?_⟩ (fun E' H' hf => ?_)
         · simp (decide := true) only [ja1, reduceIte, jd4]
         · simp (decide := true) only [ja1, reduceIte, jf3]
         · simp (decide := true) only [ja1, reduceIte]; rfl
         · rw [← es] at hf
           try simp only [ji7, ji0]
           exact fin E' H' hf
     · have hlt : decide (((i + 1 : Nat) : Int) < (s.length : Int)) = false := decide_eq_false (by omega)
       have es : intI s i = decI s (s.length - i) i 0 := by rw [intI, if_neg (fun q => h1 q.2.1)]
       simp (decide := true) only [↓uR.o, dG.o, ja1, reduceIte, Bool.not_true, ↓ja0 l0, ↓ja0 l1, ↓ja0 l2, ↓ja0 l3, ↓jb7 _ 11 true 24 _ j14, ↓r_no _ 24 true 37 _ j15, ↓jo7, ↓jo8, ↓jg9, fld0, fld1, jd2 h.here, jd0 h.here, hix, ja9 hl, z48, w1, ja7 (ts := #[34]) rfl und34, hlt]
       refine j96 (Q := fun r => ∃ E' H', Fin H0 (some y) s.length c b t kd w f0 t0 (intI s i) E' H' ∧ ∃ v, E' 4 = v ∧ r = some (.ret v, H')) x hbt ht hh htl htg hrt hm (s.length - i) i 0 M (by omega) (by omega) m0 h ⟨?_, ?_, ?_⟩ (fun E' H' hf => ?_)
       · simp (decide := true) only [ja1, reduceIte, jd4]
       · simp (decide := true) only [ja1, reduceIte, jf3]
       · simp (decide := true) only [ja1, reduceIte]; rfl
       · rw [← es] at hf
         try simp only [ji7, ji0]
         exact fin E' H' hf
   · rw [decide_eq_false c48] at z48
     have es : intI s i = decI s (s.length - i) i 0 := by rw [intI, if_neg (fun q => c48 (by rw [← hgd]; exact q.1))]
     simp (decide := true) only [↓uR.o, dG.o, ja1, reduceIte, Bool.not_true, ↓ja0 l0, ↓ja0 l1, ↓ja0 l2, ↓ja0 l3, ↓r_no _ 11 true 24 _ j14, ↓r_no _ 24 true 37 _ j15, ↓jo7, ↓jo8, ↓jg9, fld0, fld1, jd2 h.here, jd0 h.here, hix, ja9 hl, z48]
     refine j96 (Q := fun r => ∃ E' H', Fin H0 (some y) s.length c b t kd w f0 t0 (intI s i) E' H' ∧ ∃ v, E' 4 = v ∧ r = some (.ret v, H')) x hbt ht hh htl htg hrt hm (s.length - i) i 0 M (by omega) (by omega) m0 h ⟨?_, ?_, ?_⟩ (fun E' H' hf => ?_)
     · simp (decide := true) only [ja1, reduceIte, jd4]
     · simp (decide := true) only [ja1, reduceIte, jf3]
     · simp (decide := true) only [ja1, reduceIte]; rfl
     · rw [← es] at hf
       try simp only [ji7, ji0]
       exact fin E' H' hf
 obtain ⟨R0, m1, E', H', m2, v, m3, m4⟩ := main
 exact ⟨E', H', m2, v, m3, m1.trans m4⟩
def f8 (u : UInt8) : Value := .int .u8 (u.toNat : Int)
def BRow (H : Heap) (v : Value) (o : List UInt8) (lo : Nat) : Prop :=
 (o = [] ∧ v = .slice none 0 0) ∨ (o ≠ [] ∧ ∃ q, v = .slice (some ⟨q, 0, none⟩) o.length o.length ∧ H.get q = some ⟨o.map f8, true, 1, none⟩ ∧ lo ≤ q)
theorem j97 : ∀ o : List UInt8, (o.map f8).all Value.oneCell' = true
 | [] => rfl
 | u :: o => by simp only [List.map_cons, List.all_cons, j97 o, Bool.and_true]; rfl
theorem infoB : ∃ i, PP.info? 5 = some i ∧ i.size = 1 ∧ i.bytes = 1 := by
 have h : (PP.info? 5).map (fun i => (i.size, i.bytes)) = some (1, 1) := by kernel_rfl
 cases hi : PP.info? 5 with
 | none => rw [hi] at h; cases h
 | some i => rw [hi] at h; simp at h; exact ⟨i, rfl, h.1, h.2⟩
theorem zeroB : zeroT PP 5 = some [.int .u8 0] := by kernel_rfl
theorem bslice1 (H : Heap) (n : Int) : buildSliceA PP 34 1 #[(0, .int .u8 n)] H = some (.slice (some ⟨H.next, 0, none⟩) 1 1, H.alloc 1 [.int .u8 n]) := by
 have hf : Instr.fill (fun i => some (i * 1, 1)) (zeroRow [.int .u8 0] (1 * 1)).toArray [(0, .int .u8 n)] = some #[.int .u8 n] := by rfl
 simp only [buildSliceA, und34, size5, zeroB, mkRow, hf]
 simp
structure Txt (H0 H : Heap) (b : Nat) (a : Option Addr) (n c i : Nat) (v : Value) (o : List UInt8) : Prop where
 next : H0.next ≤ H.next
 here : H.get b = some (cur a n c i)
 there : ∀ z w, z ≠ b → H0.get z = some w → H.get z = some w
 fresh : Fresh H
 out : BRow H v o H0.next
theorem Txt.set {H0 H : Heap} {b : Nat} {a : Option Addr} {n c i : Nat} {v : Value} {o : List UInt8} (h : Txt H0 H b a n c i v o) (hb : b < H0.next) (j : Nat) : Txt H0 (H.set b (cur a n c j)) b a n c j v o := by
 refine ⟨h.next, jv8 _ _ _, fun z w h1 h2 => by rw [Heap.get_set, if_neg h1]; exact h.there z w h1 h2, fun z hz => ?_, ?_⟩
 · have hz' : H.next ≤ z := hz
   have := h.next
   rw [Heap.get_set, if_neg (by omega)]; exact h.fresh z hz'
 · rcases h.out with o1 | ⟨o1, q, o2, o3, o4⟩
   · exact .inl o1
   · exact .inr ⟨o1, q, o2, by rw [Heap.get_set, if_neg (by omega)]; exact o3, o4⟩
theorem Txt.gg {H0 H : Heap} {b : Nat} {a : Option Addr} {n c i : Nat} {v : Value} {o : List UInt8} {s : List UInt8} (h : Txt H0 H b a n c i v o) (x : Ctx H0 a c s b) : Ext GE H :=
 ⟨Nat.le_trans x.gg.next h.next, fun z w hz => h.there z w (fun e => by rw [e, j0v b x.low] at hz; cases hz) (x.gg.keep z w hz), h.fresh⟩
theorem Txt.row {H0 H : Heap} {b : Nat} {a : Option Addr} {n c i : Nat} {v : Value} {o : List UInt8} {s : List UInt8} (h : Txt H0 H b a n c i v o) (x : Ctx H0 a c s b) : Brow H a s := by
 refine ⟨fun q hq => ?_, x.row.nil, x.row.small⟩
 obtain ⟨z, h1, h2⟩ := x.row.row q hq
 refine ⟨z, ?_, h2⟩
 unfold look at h1 ⊢
 split at h1
 · cases h1
 · cases hg : H0.get q.block with
   | none => rw [hg] at h1; cases h1
   | some w => rw [hg] at h1; rw [h.there _ _ (x.ne q hq) hg]; exact h1
section
end
end Go.Am
namespace Go.Am
set_option maxRecDepth 100000
variable {N d c : Nat} {hk : Hook} {a : Option Addr} {s : List UInt8}
theorem eq33 : (((3 : Int)) == 3) = true := rfl
theorem y4c {H H' : Heap} {b t i : Nat} {v : Value} {k0 n0 f0 t0 : Int} {w : ByteArray} (x : Ctx H a c s b) (hb : H.get b = some (cur a s.length c i)) (ht : H.get t = some (tok k0 n0 w f0 t0)) (hi : i < s.length) (hcl : clsI s[i] = 3) (hh : NH hk)
   (hr : CG N hk (d + 1) 49 #[.pointer (some ⟨b, 0, none⟩), .pointer (some ⟨t, 0, none⟩)] (H.set t (tok 2 n0 w f0 t0)) = some (.ret v, H')) :
   CG N hk (d + 2) 27 #[.pointer (some ⟨b, 0, none⟩), .pointer (some ⟨t, 0, none⟩)] H = some (.ret v, H') := by
 refine (jc2 (hh _ _ _ rfl) Tryz.func27 (c := codeOf Tryz.f27) rfl rfl rfl (pr := noPr) rfl).trans ?_
 rw [code27]
 generalize hF : finE PP Tryz.f27 = F
 have hcls := jo4 (N := N) (hk := hk) (d := d) x.gg s[i] (fun _ _ => hh _ _ _ rfl)
 rw [hcl] at hcls
 obtain ⟨y, rfl, hl⟩ := x.row.bts.cell i hi
 have hix := jc1 (n := s.length) (c := c) (a := y) hi
 have lL := lX5 Tryz.f27 0 1 2 3 4
 conv at lL in (occs := *) (rgnX _ _) => all_goals simp only [rX, opsAt, Tryz.f27, dL.o, reduceIte, Nat.reduceEqDiff]
 obtain ⟨l0, l1, l2, l3, l4⟩ := lL
 simp (decide := true) only [↓uR.o, dG.o, ja1, ja5, reduceIte, ↓ja0 l0, ↓ja0 l1, ↓ja0 l2, ↓ja0 l3, ↓ja0 l4, fld0, fld1, jd2 hb, jd0 hb, hix, ja9 hl, ja3 Tryz.func48 rfl rfl hcls, eq33, tf0, jh1 ht, ja3 Tryz.func49 rfl rfl hr]
 rw [← hF, jb6 (l := [v]) (by simp (decide := true) [Tryz.f27, resE, ja1])]
 rfl
theorem y01 {H : Heap} {b t i : Nat} (x : Ctx H a c s b) (hb : H.get b = some (cur a s.length c i)) (hi : i < s.length) (h3 : ¬ clsI s[i] = 3) (h4 : ¬ clsI s[i] = 4) (h5 : ¬ clsI s[i] = 5) (h6 : ¬ clsI s[i] = 6) (hh : NH hk) :
   CG N hk (d + 2) 27 #[.pointer (some ⟨b, 0, none⟩), .pointer (some ⟨t, 0, none⟩)] H = some (.ret (.bool false), H) := by
 refine (jc2 (hh _ _ _ rfl) Tryz.func27 (c := codeOf Tryz.f27) rfl rfl rfl (pr := noPr) rfl).trans ?_
 rw [code27]
 generalize hF : finE PP Tryz.f27 = F
 have hcls := jo4 (N := N) (hk := hk) (d := d) x.gg s[i] (fun _ _ => hh _ _ _ rfl)
 have z3 : (clsI s[i] == 3) = false := by simp [h3]
 have z4 : (clsI s[i] == 4) = false := by simp [h4]
 have z5 : (clsI s[i] == 5) = false := by simp [h5]
 have z6 : (clsI s[i] == 6) = false := by simp [h6]
 obtain ⟨y, rfl, hl⟩ := x.row.bts.cell i hi
 have hix := jc1 (n := s.length) (c := c) (a := y) hi
 have lL := lX7 Tryz.f27 0 1 2 5 7 10 12
 conv at lL in (occs := *) (rgnX _ _) => all_goals simp only [rX, opsAt, Tryz.f27, dL.o, reduceIte, Nat.reduceEqDiff]
 obtain ⟨l0, l1, l2, l5, l7, l10, l12⟩ := lL
 simp (decide := true) only [↓uR.o, dG.o, ja1, reduceIte, ↓ja0 l0, ↓ja0 l1, ↓ja0 l2, ↓ja0 l5, ↓ja0 l7, ↓ja0 l10, ↓ja0 l12, fld0, fld1, jd2 hb, jd0 hb, hix, ja9 hl, ja3 Tryz.func48 rfl rfl hcls, z3, z4, z5, z6]
 rw [← hF, jb6 (l := [.bool false]) (by simp (decide := true) [Tryz.f27, resE, ja1])]
 rfl
inductive LR where
 | bad (e : Nat)
 | good (k : Tk)
def wordI (s : List UInt8) (i : Nat) : LR :=
 if runTo s (s.length - i) i ≤ i + 32 then .good ⟨(wordKT ((s.drop i).take (runTo s (s.length - i) i - i))).1, 0, ⟨⟨(wordKT ((s.drop i).take (runTo s (s.length - i) i - i))).2⟩⟩, i, runTo s (s.length - i) i⟩ else .bad (i + 32)
def signI (s : List UInt8) (i : Nat) : LR :=
 if (signR ((s.getD i 0).toNat : Int) (nextB s i)).1 = 0 then .bad (i + (signR ((s.getD i 0).toNat : Int) (nextB s i)).2) else .good ⟨(signR ((s.getD i 0).toNat : Int) (nextB s i)).1, 0, .empty, i, i + (signR ((s.getD i 0).toNat : Int) (nextB s i)).2⟩
def lexI (s : List UInt8) (i : Nat) : LR :=
 if clsI (s.getD i 0) = 3 then (match intI s i with | .bad e => .bad e | .good n e => .good ⟨2, (n : Int), .empty, i, e⟩)
 else if clsI (s.getD i 0) = 4 then wordI s i
 else if clsI (s.getD i 0) = 5 then .bad i
 else if clsI (s.getD i 0) = 6 then signI s i
 else .bad i
structure HkOk (hk : Hook) : Prop where
 nil : NH hk
 single : ∀ (u : UInt8) H, Ext GE H → hk 72 #[.int .u8 (u.toNat : Int)] H = some (some (.ret (.int .i64 (singleT u.toNat)), H))
 hex : ∀ (u : UInt8) H, Ext GE H → hk 70 #[.int .u8 (u.toNat : Int)] H = some (some (.ret (.int .u64 (hexT u.toNat)), H))
 mul : ∀ x y H, x < m64 → y < m64 → hk 94 #[.int .u64 ((x : Nat) : Int), .int .u64 ((y : Nat) : Int)] H = some (some (.ret (mulV x y), H))
 fields : ∀ H, Ext GE H → hk 90 #[strV wordsB] H = some (some (.ret (.slice (some ⟨H.next, 0, none⟩) 50 50), H.alloc 1 wordsV))
theorem cls5 {u : UInt8} (h : clsI u = 5) : u = 34 := by
 have k : ∀ n : _root_.Fin 256, clsI (UInt8.ofNat n.val) = 5 → UInt8.ofNat n.val = 34 := by decide +kernel
 have e : UInt8.ofNat u.toNat = u := by simp
 have := k ⟨u.toNat, u.toNat_lt⟩
 rw [e] at this
 exact this h
theorem y4d (s : List UInt8) {i : Nat} (hi : i < s.length) : s.getD i 0 = s[i] := by simp [List.getD, hi]
theorem y4e (K : HkOk hk) (hN : 2 * s.length + 100 < N) (hs : s.length ≤ 1048576) (hc : s.length ≤ c) (hok : okP s) {i : Nat} (hi : i < s.length) :
   (∀ tk, lexI s i = .good tk → LexOk N hk (d + 4) a c s tk) ∧ (∀ e, lexI s i = .bad e → LexBad N hk (d + 4) a c s i e) := by
 have hgd := y4d s hi
 unfold lexI
 rw [hgd]
 by_cases c3 : clsI s[i] = 3
 · rw [if_pos c3]
   have key : ∀ H b t, Ctx H a c s b → H.get b = some (cur a s.length c i) → H.get t = some (tok 0 0 .empty (i : Int) 0) → t ≠ b → t < H.next → GE.next ≤ t → (∀ q, a = some q → q.block ≠ t) →
       ∃ E' H', Fin (H.set t (tok 2 0 .empty (i : Int) 0)) a s.length c b t 2 .empty (i : Int) 0 (intI s i) E' H' ∧ CG N hk (d + 4) 27 #[.pointer (some ⟨b, 0, none⟩), .pointer (some ⟨t, 0, none⟩)] H = some (.ret (E' 4), H') := fun H b t x hb ht hbt htl htg hrt => by
     have two : Two H (H.set t (tok 2 0 .empty (i : Int) 0)) b (cur a s.length c i) t (tok 2 0 .empty (i : Int) 0) := (Curs.two ⟨rfl, hb, fun _ _ => rfl⟩ hbt ht).set hbt _
     have x1 : Ctx (H.set t (tok 2 0 .empty (i : Int) 0)) a c s b := ⟨two.gg x htl htg, x.low, x.lt, two.row x hrt, x.ne⟩
     obtain ⟨E', H', h1, v, h2, h3⟩ := y00 (Q := fun _ => True) (k := fun _ _ _ _ => none) (N := N) (hk := hk) (d := d) (H := H.set t (tok 2 0 .empty (i : Int) 0)) x1 hbt two.two K.nil htl htg hrt K.mul K.hex hok ⟨rfl, two.one, fun _ _ => rfl⟩ hi (by omega)
     refine ⟨E', H', h1, ?_⟩
     rw [h2]
     exact y4c (d := d + 2) x hb ht hi c3 K.nil h3
   refine ⟨fun tk h => ?_, fun e h => ?_⟩
   · intro H b t x hb ht hbt htl htg hrt
     cases hq : intI s i with
     | bad e => rw [hq] at h; cases h
     | good n e =>
       rw [hq] at h
       injection h with h
       subst h
       obtain ⟨E', H', h1, h2⟩ := key H b t x hb ht hbt htl htg hrt
       rw [hq] at h1
       obtain ⟨g1, g2⟩ := h1
       rw [g1] at h2
       have l1 : Lexd H (H.set t (tok 2 0 .empty (i : Int) 0)) b (cur a s.length c i) t (tok 2 0 .empty (i : Int) 0) := (((Curs.two ⟨rfl, hb, fun _ _ => rfl⟩ hbt ht).set hbt _).lexd x.gg.fresh x.lt htl)
       exact ⟨H', l1.trans (g2.lexd l1.fresh x.lt htl), h2⟩
   · intro H b t x hb ht hbt htl htg hrt
     cases hq : intI s i with
     | good n e => rw [hq] at h; cases h
     | bad e' =>
       rw [hq] at h
       injection h with h
       subst h
       obtain ⟨E', H', h1, h2⟩ := key H b t x hb ht hbt htl htg hrt
       rw [hq] at h1
       obtain ⟨g1, y, g2⟩ := h1
       rw [g1] at h2
       have l1 : Lexd H (H.set t (tok 2 0 .empty (i : Int) 0)) b (cur a s.length c i) t (tok 2 0 .empty (i : Int) 0) := (((Curs.two ⟨rfl, hb, fun _ _ => rfl⟩ hbt ht).set hbt _).lexd x.gg.fresh x.lt htl)
       exact ⟨H', y, l1.trans (g2.lexd l1.fresh x.lt htl), h2⟩
 rw [if_neg c3]
 by_cases c4 : clsI s[i] = 4
 · rw [if_pos c4]
   unfold wordI
   by_cases hl : runTo s (s.length - i) i ≤ i + 32
   · rw [if_pos hl]
     refine ⟨fun tk h => ?_, fun e h => (by cases h)⟩
     injection h with h
     subst h
     intro H b t x hb ht hbt htl htg hrt
     have hb : H.get b = some (cur a s.length c i) := hb
     have ht : H.get t = some (tok 0 0 .empty (i : Int) 0) := ht
     obtain ⟨H', h1, h2⟩ := yg2 (N := N) (hk := hk) (d := d) (H0 := H) (H := H) x ⟨rfl, hb, fun _ _ => rfl⟩ hbt htl ht K.nil hi hc (by omega) (by omega) rfl hl _ rfl K.fields
     exact ⟨H', h1, j9s (d := d + 2) x hb hi c4 K.nil h2⟩
   · rw [if_neg hl]
     refine ⟨fun tk h => (by cases h), fun e h => ?_⟩
     injection h with h
     subst h
     intro H b t x hb ht hbt htl htg hrt
     obtain ⟨H', h1, h2⟩ := yo1 (N := N) (hk := hk) (d := d) (t := t) (H0 := H) (H := H) x ⟨rfl, hb, fun _ _ => rfl⟩ K.nil hi (by omega) (by omega)
     exact ⟨H', _, (h1.two hbt ht).lexd x.gg.fresh x.lt htl, j9s (d := d + 2) x hb hi c4 K.nil h2⟩
 rw [if_neg c4]
 by_cases c5 : clsI s[i] = 5
 · exact absurd (cls5 c5) (hok _ (List.getElem_mem hi)).1
 rw [if_neg c5]
 by_cases c6 : clsI s[i] = 6
 · rw [if_pos c6]
   have key : ∀ H b t, Ctx H a c s b → H.get b = some (cur a s.length c i) → H.get t = some (tok 0 0 .empty (i : Int) 0) → t ≠ b → t < H.next → GE.next ≤ t → (∀ q, a = some q → q.block ≠ t) → _ := fun H b t x hb ht hbt htl htg hrt =>
     yn6 (N := N) (hk := hk) (d := d + 1) x hb ht hbt htl htg hrt hi K.nil (by omega) K.single
   unfold signI
   rw [hgd]
   by_cases hz : (signR (s[i].toNat : Int) (nextB s i)).1 = 0
   · rw [if_pos hz]
     refine ⟨fun tk h => (by cases h), fun e h => ?_⟩
     injection h with h
     subst h
     intro H b t x hb ht hbt htl htg hrt
     obtain ⟨H', h1, h2⟩ := key H b t x hb ht hbt htl htg hrt
     have e : ((signR (s[i].toNat : Int) (nextB s i)).1 != 0) = false := by simp [hz]
     rw [e] at h2
     exact ⟨H', _, h1, j9t (d := d + 2) x hb hi c6 K.nil h2⟩
   · rw [if_neg hz]
     refine ⟨fun tk h => ?_, fun e h => (by cases h)⟩
     injection h with h
     subst h
     intro H b t x hb ht hbt htl htg hrt
     obtain ⟨H', h1, h2⟩ := key H b t x hb ht hbt htl htg hrt
     have e : ((signR (s[i].toNat : Int) (nextB s i)).1 != 0) = true := by simp [hz]
     rw [e] at h2
     exact ⟨H', h1, j9t (d := d + 2) x hb hi c6 K.nil h2⟩
 rw [if_neg c6]
 refine ⟨fun tk h => (by cases h), fun e h => ?_⟩
 injection h with h
 subst h
 intro H b t x hb ht hbt htl htg hrt
 exact ⟨H, _, ⟨Nat.le_refl _, hb, ht, fun z w _ _ hz => hz, x.gg.fresh⟩, y01 (d := d + 2) x hb hi c3 c4 c5 c6 K.nil⟩
end Go.Am
namespace Go.Am
variable {s : List UInt8} {i n m e : Nat}
theorem yo5 {q : Int} (h : isI s i q = true) : i < s.length := by
 unfold isI at h
 simp only [Bool.and_eq_true, decide_eq_true_eq] at h
 exact h.1
theorem j17 (s : List UInt8) : ∀ n i, i ≤ s.length → i ≤ skipTo s n i ∧ skipTo s n i ≤ s.length
 | 0, i, h => by simp [skipTo]; exact h
 | n + 1, i, h => by
   unfold skipTo
   split
   · rename_i h1
     have := j17 s n (i + 1) (yo5 h1)
     omega
   · split
     · have l := jz6 s (s.length - i) i
       have := j17 s n (lineEnd s (s.length - i) i) (by omega)
       omega
     · omega
theorem j6j (h : endI s i n = .good m e) : e = i := by
 unfold endI at h
 split at h
 · cases h
 · injection h with h1 h2; exact h2.symm
theorem j6k {f : Nat} (h : mulI s i n f = .good m e) : e = i + 1 := by
 unfold mulI at h
 split at h
 · exact j6j h
 · cases h
theorem jw5 (hi : i ≤ s.length) (h : sufI s i n = .good m e) : i ≤ e ∧ e ≤ s.length := by
 unfold sufI at h
 split at h
 · rename_i h4
   have := yo5 h4
   split at h
   · have := j6k h; omega
   · split at h
     · have := j6k h; omega
     · cases h
 · have := j6j h; omega
theorem j6l : ∀ (f i n m e : Nat), i ≤ s.length → decI s f i n = .good m e → i ≤ e ∧ e ≤ s.length
 | 0, i, n, m, e, hi, h => jw5 hi h
 | f + 1, i, n, m, e, hi, h => by
   unfold decI at h
   split at h
   · rename_i h3
     have := yo5 h3
     split at h
     · have := j6l f (i + 1) _ m e (by omega) h
       omega
     · cases h
   · exact jw5 hi h
theorem j6m {fr : Nat} : ∀ (f i n m e : Nat), i + f ≤ s.length → hexI s fr f i n = .good m e → i ≤ e ∧ e ≤ s.length
 | 0, i, n, m, e, hi, h => by
   unfold hexI endH at h
   split at h
   · cases h
   · exact jw5 (by omega) h
 | f + 1, i, n, m, e, hi, h => by
   unfold hexI at h
   split at h
   · split at h
     · have := j6m f (i + 1) _ m e (by omega) h
       omega
     · cases h
   · unfold endH at h
     split at h
     · cases h
     · exact jw5 (by omega) h
theorem yg3 (hi : i < s.length) (h3 : isI s i 3 = true) (h : decI s (s.length - i) i n = .good m e) : i < e ∧ e ≤ s.length := by
 obtain ⟨f, hf⟩ : ∃ f, s.length - i = f + 1 := ⟨s.length - i - 1, by omega⟩
 rw [hf] at h
 unfold decI at h
 rw [if_pos h3] at h
 split at h
 · have := j6l f (i + 1) _ m e (by omega) h
   omega
 · cases h
theorem yo6 (hi : i < s.length) (h3 : isI s i 3 = true) (h : intI s i = .good m e) : i < e ∧ e ≤ s.length := by
 unfold intI at h
 split at h
 · rename_i hq
   by_cases h2 : i + 2 ≤ s.length
   · have := j6m (s.length - (i + 2)) (i + 2) 0 m e (by omega) h
     omega
   · omega
 · exact yg3 hi h3 h
theorem yo7 (u v : Int) : 1 ≤ (signR u v).2 ∧ (signR u v).2 ≤ 2 := by
 unfold signR
 repeat' split
 all_goals omega
theorem yo8 {u v : Int} (h : (signR u v).2 = 2) : v ≠ 0 := by
 intro hv
 subst hv
 unfold signR at h
 repeat' split at h
 all_goals first
   | omega
   | exact absurd h (by decide)
theorem clsW {q : Int} (hi : i < s.length) (h : clsI (s.getD i 0) = q) : isI s i q = true := by
 unfold isI
 rw [decide_eq_true hi, h]; simp
theorem yo9 {tk : Tk} (hi : i < s.length) (h : lexI s i = .good tk) : tk.from_ = i ∧ i < tk.to_ ∧ tk.to_ ≤ s.length := by
 unfold lexI at h
 split at h
 · rename_i c3
   cases hq : intI s i with
   | bad e => rw [hq] at h; cases h
   | good n e =>
     rw [hq] at h
     injection h with h
     subst h
     exact ⟨rfl, yo6 hi (clsW hi c3) hq⟩
 · split at h
   · rename_i c4
     unfold wordI at h
     split at h
     · injection h with h
       subst h
       have h4 := clsW hi c4
       have hw : isW s i = true := by unfold isW; rw [h4]; rfl
       obtain ⟨f, hf⟩ : ∃ f, s.length - i = f + 1 := ⟨s.length - i - 1, by omega⟩
       have g := j0w s f (i + 1)
       have e : runTo s (s.length - i) i = runTo s f (i + 1) := by rw [hf, runTo, if_pos hw]
       refine ⟨rfl, ?_, ?_⟩
       · show i < runTo s (s.length - i) i
         omega
       · show runTo s (s.length - i) i ≤ s.length
         omega
     · cases h
   · split at h
     · cases h
     · split at h
       · unfold signI at h
         split at h
         · cases h
         · injection h with h
           subst h
           have l := yo7 ((s.getD i 0).toNat : Int) (nextB s i)
           refine ⟨rfl, ?_, ?_⟩
           · show i < i + (signR ((s.getD i 0).toNat : Int) (nextB s i)).2
             omega
           · show i + (signR ((s.getD i 0).toNat : Int) (nextB s i)).2 ≤ s.length
             by_cases q : (signR ((s.getD i 0).toNat : Int) (nextB s i)).2 = 2
             · have hn := yo8 q
               unfold nextB at hn
               split at hn
               · omega
               · exact absurd rfl hn
             · omega
       · cases h
def toksI (s : List UInt8) : Nat → Nat → List Tk × Option Nat
 | 0, _ => ([], none)
 | k + 1, i =>
   if skipTo s (s.length - i) i < s.length then
     match lexI s (skipTo s (s.length - i) i) with
     | .bad e => ([], some e)
     | .good tk => (tk :: (toksI s k tk.to_).1, (toksI s k tk.to_).2)
   else ([], none)
theorem j98 {N : Nat} {hk : Hook} {d : Nat} {a : Option Addr} {c : Nat} (K : HkOk hk) (hN : 2 * s.length + 100 < N) (hs : s.length ≤ 1048576) (hc : s.length ≤ c) (hok : okP s) :
   ∀ k i, i ≤ s.length → s.length ≤ i + k → TRun s (LexOk N hk (d + 4) a c s) (LexBad N hk (d + 4) a c s) i (toksI s (k + 1) i).1 (toksI s (k + 1) i).2 ∧ (toksI s (k + 1) i).1.length ≤ s.length - i
 | k, i, hi, hk' => by
   have g := j17 s (s.length - i) i hi
   unfold toksI
   by_cases hlt : skipTo s (s.length - i) i < s.length
   · rw [if_pos hlt]
     obtain ⟨ok, bad⟩ := y4e (N := N) (hk := hk) (d := d) (a := a) K hN hs hc hok hlt
     cases hq : lexI s (skipTo s (s.length - i) i) with
     | bad e => exact ⟨.wrong i e hlt (bad e hq), Nat.zero_le _⟩
     | good tk =>
       obtain ⟨f1, f2, f3⟩ := yo9 hlt hq
       obtain ⟨k', rfl⟩ : ∃ q, k = q + 1 := ⟨k - 1, by omega⟩
       obtain ⟨r1, r2⟩ := j98 K hN hs hc hok k' tk.to_ f3 (by omega)
       refine ⟨.step i tk _ _ hlt f1 f3 (ok tk hq) r1, ?_⟩
       simp only [List.length_cons]
       omega
   · rw [if_neg hlt]
     exact ⟨.stop i hlt, Nat.zero_le _⟩
theorem j3p {N : Nat} {hk : Hook} {d : Nat} {H0 : Heap} {a : Option Addr} {c : Nat} (K : HkOk hk) (hG : Ext GE H0) (hr : Brow H0 a s) (hN : 2 * s.length + 100 < N) (hs : s.length ≤ 1048576) (hc : s.length ≤ c) (hok : okP s) :
   ∃ H', Ext H0 H' ∧ ∃ v e q, CG N hk (d + 5) 12 #[.slice a s.length c] H0 = some (.ret (.tuple #[v, .int .i64 e, .int .i64 q]), H') ∧
     (((toksI s (s.length + 1) 0).2 = none ∧ TkRow H' v (toksI s (s.length + 1) 0).1 (H0.next + 1) ∧ e = 0 ∧ q = 0) ∨ (∃ w : Nat, (toksI s (s.length + 1) 0).2 = some w ∧ v = .slice none 0 0 ∧ e = (w : Int) ∧ q = 60)) := by
 obtain ⟨run, hl⟩ := j98 (N := N) (hk := hk) (d := d) (a := a) K hN hs hc hok s.length 0 (Nat.zero_le _) (by omega)
 exact j75 hG hr K.nil (by omega) hs run (by omega)
end Go.Am
namespace Go.Am
set_option maxRecDepth 100000
variable {H : Heap} {a : Option Addr} {s : List UInt8} {N d c b i : Nat} {hk : Hook} {R : RS} {E : Env} {Q : Am.R → Prop} {k : KOE}
theorem j8b (h : Brow H a s) {i j c : Nat} (hij : i < j) (hj : j ≤ s.length) (hc : s.length ≤ c) :
   ∃ a' c', sliceOpA PP 34 (.slice a s.length c) (some (.int .i64 (i : Int))) (some (.int .i64 (j : Int))) none H = some (.slice a' ((s.drop i).take (j - i)).length c') ∧ Brow H a' ((s.drop i).take (j - i)) ∧ ((s.drop i).take (j - i)).length ≤ c' := by
 have hl : ((s.drop i).take (j - i)).length = j - i := by simp; omega
 cases a with
 | none =>
   have := h.nil rfl
   subst this
   simp at hj; omega
 | some y =>
   obtain ⟨z, h1, h2, _⟩ := h.row y rfl
   refine ⟨some (y.add i), c - i, ?_, h.mid (by omega) hj, by rw [hl]; omega⟩
   rw [hl]
   simp only [sliceOpA, und34, size5, sliceA, h1, h2]
   rw [if_pos ⟨by omega, by omega, by omega⟩]
   simp
def TkOk (N : Nat) (hk : Hook) (d : Nat) : Prop := ∀ (H : Heap) (a : Option Addr) (c : Nat) (s : List UInt8), Ext GE H → Brow H a s → s.length ≤ 1048576 → s.length ≤ c → okP s → 
 ∃ H', Ext H H' ∧ ∃ v e q, CH N hk d 12 #[.slice a s.length c] H = some (.ret (.tuple #[v, .int .i64 e, .int .i64 q]), H') ∧
   (((toksI s (s.length + 1) 0).2 = none ∧ TkRow H' v (toksI s (s.length + 1) 0).1 (H.next + 1) ∧ e = 0 ∧ q = 0) ∨ (∃ w : Nat, (toksI s (s.length + 1) 0).2 = some w ∧ v = .slice none 0 0 ∧ e = (w : Int) ∧ q = 60))
theorem exA (x y z : Value) : extractA (.tuple #[x, y, z]) 0 = some x := rfl
theorem exB (x y z : Value) : extractA (.tuple #[x, y, z]) 1 = some y := rfl
theorem exC (x y z : Value) : extractA (.tuple #[x, y, z]) 2 = some z := rfl
theorem y2t {v : Value} {ts : List Tk} {lo : Nat} (h : TkRow H v ts lo) : ∃ y m, v = .slice y ts.length m := by
 rcases h with ⟨rfl, rfl⟩ | ⟨_, q, rfl, _⟩
 · exact ⟨_, _, rfl⟩
 · exact ⟨_, _, rfl⟩
theorem y2u {v : Value} {tk : Tk} {lo : Nat} (h : TkRow H v [tk] lo) : ∃ q, v = .slice (some ⟨q, 0, none⟩) 1 1 ∧ H.get q = some ⟨tk.cells, true, 5, none⟩ ∧ lo ≤ q := by
 rcases h with ⟨e, _⟩ | ⟨_, q, rfl, h1, h2⟩
 · cases e
 · exact ⟨q, rfl, by simpa using h1, h2⟩
theorem yp0 (q : Nat) : indexAddrA PP 44 (.slice (some ⟨q, 0, none⟩) 1 1) (.int .i64 0) = some (.pointer (some ⟨q, 0, none⟩)) := by
 simp [indexAddrA, size29, at_, Addr.add]
theorem fx4 (q : Nat) : fieldAddrA PP 49 (.pointer (some ⟨q, 0, none⟩)) 4 = some (.pointer (some ⟨q, 4, none⟩)) := by kernel_rfl
theorem yp1 {q : Nat} {tk : Tk} (h : H.get q = some ⟨tk.cells, true, 5, none⟩) : loadA PP 3 (.pointer (some ⟨q, 4, none⟩)) H = some (.int .i64 (tk.to_ : Int), H) := by
 simp only [loadA, jm3]
 simp [ld1, look, h, Tk.cells]
def runW (s : List UInt8) : Nat → Nat → Nat
 | 0, i => i
 | n + 1, i => if i < s.length ∧ wbI (s.getD i 0) = true then runW s n (i + 1) else i
def qend (s : List UInt8) : Nat → Nat → Nat
 | 0, i => i
 | n + 1, i => if i < s.length ∧ s.getD i 0 ≠ 34 then (if s.getD i 0 = 92 then qend s n (i + 2) else qend s n (i + 1)) else i
def lex1 (w : List UInt8) : Option Tk := match toksI w (w.length + 1) 0 with | ([tk], none) => some tk | _ => none
def twoI (s : List UInt8) (i : Nat) : Bool := match lex1 ((s.drop i).take 2) with | some tk => tk.to_ == 2 | none => false
def reachI (s : List UInt8) (i : Nat) : Nat :=
 if wbI (s.getD i 0) = true then runW s (s.length - (i + 1)) (i + 1)
 else if s.getD i 0 = 34 then min (qend s (s.length - (i + 1)) (i + 1) + 1) s.length
 else if i + 1 < s.length then (if twoI s i = true then i + 2 else i + 1) else i + 1
theorem yp2 (s : List UInt8) : ∀ n i, i ≤ s.length → i ≤ runW s n i ∧ runW s n i ≤ s.length
 | 0, i, h => ⟨Nat.le_refl _, h⟩
 | n + 1, i, h => by
   unfold runW
   split
   · rename_i h1
     have := yp2 s n (i + 1) h1.1
     omega
   · exact ⟨Nat.le_refl _, h⟩
theorem j4p (s : List UInt8) : ∀ n i, i ≤ s.length + 1 → i ≤ qend s n i ∧ qend s n i ≤ s.length + 1
 | 0, i, h => ⟨Nat.le_refl _, h⟩
 | n + 1, i, h => by
   unfold qend
   split
   · rename_i h1
     split
     · have := j4p s n (i + 2) (by omega); omega
     · have := j4p s n (i + 1) (by omega); omega
   · exact ⟨Nat.le_refl _, h⟩
theorem jw6 (s : List UInt8) {i : Nat} (h : i < s.length) : i < reachI s i ∧ reachI s i ≤ s.length := by
 unfold reachI
 split
 · have := yp2 s (s.length - (i + 1)) (i + 1) (by omega); omega
 · split
   · have := j4p s (s.length - (i + 1)) (i + 1) (by omega); omega
   · split
     · split <;> omega
     · omega
theorem code35 : codeOf Tryz.f35 = .seq (rF Tryz.f35 0) (.seq (rF Tryz.f35 1) (.seq (.seq (rT Tryz.f35 2) (.block 0 (.seq (rF Tryz.f35 7) (.cond (.tmp 62) (.block 1 (.loop (.seq (.seq (rF Tryz.f35 8) (.cond (.tmp 81) .skip (.exit 1))) (.block 2 (rF Tryz.f35 9))))) (.seq (rF Tryz.f35 10) (.cond (.tmp 84) (.seq (.block 3 (.loop (.seq (.seq (rF Tryz.f35 11) (.cond (.tmp 103) .skip (.exit 3))) (.block 4 (.seq (.seq (rF Tryz.f35 12) (.cond (.tmp 111) (rF Tryz.f35 13) .skip)) (rF Tryz.f35 14)))))) (rF Tryz.f35 15)) (.seq (rF Tryz.f35 3) (.cond (.tmp 29) (.seq (rT Tryz.f35 4) (.seq (rF Tryz.f35 5) (.cond (.tmp 59) (rF Tryz.f35 6) .skip))) .skip)))))))) (.seq (rF Tryz.f35 16) .ret))) := by kernel_rfl
theorem j4q : ((rgn Tryz.f35 8)[7]?).bind (·.dst) = some 72 := by kernel_rfl
theorem jw7 : ((rgn Tryz.f35 11)[7]?).bind (·.dst) = some 94 := by kernel_rfl
theorem j0z : ((rgn Tryz.f35 5)[2]?).bind (·.dst) = some 48 := by kernel_rfl
theorem j00 : ((rgn Tryz.f35 5)[7]?).bind (·.dst) = some 53 := by kernel_rfl
theorem y4f (x : Rd a c s b H R) (e : E 0 = .pointer (some ⟨b, 0, none⟩) ∧ E 3 = .int .i64 ((i : Nat) : Int)) (hi : ¬ i < s.length) (hx : ∀ E', E' 0 = .pointer (some ⟨b, 0, none⟩) ∧ E' 3 = .int .i64 ((i : Nat) : Int) → Q (k (.exit 1) E' [] H)) :
   Q (execG PP XX (CH N hk d) N noPr (.seq (.seq (rF Tryz.f35 8) (.cond (.tmp 81) .skip (.exit 1))) (.block 2 (rF Tryz.f35 9))) none E [] H k) := by
 obtain ⟨e0, e3⟩ := e
 have hlt : decide ((i : Int) < (s.length : Int)) = false := decide_eq_false (by omega)
 have lL := lX2 Tryz.f35 8 9
 conv at lL in (occs := *) (rgnX _ _) => all_goals simp only [rX, opsAt, Tryz.f35, dL.o, reduceIte, Nat.reduceEqDiff]
 obtain ⟨l8, l9⟩ := lL
 simp (decide := true) only [↓uR.o, dG.o, ja1, reduceIte, Bool.not_true, ↓ja0 l8, ↓r_no _ 7 true 72 _ j4q, rfsrc, je2 x.blk, ja7 (ts := #[34]) rfl und34, e0, e3, hlt]
 exact hx _ ⟨e0, e3⟩
theorem y02 (x : Rd a c s b H R) (hh : NH hk) (e : E 0 = .pointer (some ⟨b, 0, none⟩) ∧ E 3 = .int .i64 ((i : Nat) : Int)) (hi : i < s.length) (hw : wbI s[i] = false) (hx : ∀ E', E' 0 = .pointer (some ⟨b, 0, none⟩) ∧ E' 3 = .int .i64 ((i : Nat) : Int) → Q (k (.exit 1) E' [] H)) :
   Q (execG PP XX (CH N hk (d + 1)) N noPr (.seq (.seq (rF Tryz.f35 8) (.cond (.tmp 81) .skip (.exit 1))) (.block 2 (rF Tryz.f35 9))) none E [] H k) := by
 obtain ⟨e0, e3⟩ := e
 have hlt : decide ((i : Int) < (s.length : Int)) = true := decide_eq_true (by omega)
 have r1 := j74 (N := N) (d := d) (H := H) hh s[i]
 rw [hw] at r1
 obtain ⟨y, rfl, hl⟩ := x.row.bts.cell i hi
 have hix := jc1 (n := s.length) (c := c) (a := y) hi
 have lL := lX2 Tryz.f35 8 9
 conv at lL in (occs := *) (rgnX _ _) => all_goals simp only [rX, opsAt, Tryz.f35, dL.o, reduceIte, Nat.reduceEqDiff]
 obtain ⟨l8, l9⟩ := lL
 simp (decide := true) only [↓uR.o, dG.o, ja1, reduceIte, ↓ja0 l8, ↓jb7 _ 7 true 72 _ j4q, rfsrc, je2 x.blk, ja7 (ts := #[34]) rfl und34, e0, e3, hlt, hix, ja9 hl, ja3 Tryz.func54 rfl rfl r1]
 exact hx _ ⟨e0, e3⟩
theorem y4g (x : Rd a c s b H R) (hh : NH hk) (e : E 0 = .pointer (some ⟨b, 0, none⟩) ∧ E 3 = .int .i64 ((i : Nat) : Int)) (hi : i < s.length) (hw : wbI s[i] = true) (hx : ∀ E', E' 0 = .pointer (some ⟨b, 0, none⟩) ∧ E' 3 = .int .i64 ((i + 1 : Nat) : Int) → Q (k .norm E' [] H)) :
   Q (execG PP XX (CH N hk (d + 1)) N noPr (.seq (.seq (rF Tryz.f35 8) (.cond (.tmp 81) .skip (.exit 1))) (.block 2 (rF Tryz.f35 9))) none E [] H k) := by
 obtain ⟨e0, e3⟩ := e
 have hsm := x.row.small
 have w : IntKind.i64.wrap ((i : Int) + 1) = ((i + 1 : Nat) : Int) := by rw [jb2 (by omega) (by omega)]; omega
 have hlt : decide ((i : Int) < (s.length : Int)) = true := decide_eq_true (by omega)
 have r1 := j74 (N := N) (d := d) (H := H) hh s[i]
 rw [hw] at r1
 obtain ⟨y, rfl, hl⟩ := x.row.bts.cell i hi
 have hix := jc1 (n := s.length) (c := c) (a := y) hi
 have lL := lX2 Tryz.f35 8 9
 conv at lL in (occs := *) (rgnX _ _) => all_goals simp only [rX, opsAt, Tryz.f35, dL.o, reduceIte, Nat.reduceEqDiff]
 obtain ⟨l8, l9⟩ := lL
 simp (decide := true) only [↓uR.o, dG.o, ja1, reduceIte, ↓ja0 l8, ↓ja0 l9, ↓jb7 _ 7 true 72 _ j4q, rfsrc, je2 x.blk, ja7 (ts := #[34]) rfl und34, e0, e3, hlt, hix, ja9 hl, ja3 Tryz.func54 rfl rfl r1, w]
 exact hx _ ⟨e0, rfl⟩
theorem yp3 (x : Rd a c s b H R) (hh : NH hk) : ∀ (n i m : Nat) (_ : i + n = s.length) (_ : n < m) {E : Env} (_ : E 0 = .pointer (some ⟨b, 0, none⟩) ∧ E 3 = .int .i64 ((i : Nat) : Int)) (_ : ∀ E', E' 0 = .pointer (some ⟨b, 0, none⟩) ∧ E' 3 = .int .i64 ((runW s n i : Nat) : Int) → Q (k (.exit 1) E' [] H)),
   Q (loopE (execG PP XX (CH N hk (d + 1)) N noPr (.seq (.seq (rF Tryz.f35 8) (.cond (.tmp 81) .skip (.exit 1))) (.block 2 (rF Tryz.f35 9))) none) m E [] H k)
 | 0, i, m + 1, hn, hm, E, e, hx => by
   rw [jb5]
   exact y4f x e (by omega) fun E' e' => by rw [je3]; exact hx E' e'
 | n + 1, i, m + 1, hn, hm, E, e, hx => by
   rw [jb5]
   have hi : i < s.length := by omega
   have hg : s.getD i 0 = s[i] := by simp [List.getD, hi]
   cases hw : wbI s[i] with
   | true =>
     have er : runW s (n + 1) i = runW s n (i + 1) := by rw [runW, if_pos ⟨hi, by rw [hg]; exact hw⟩]
     rw [er] at hx
     refine y4g x hh e hi hw fun E' e' => ?_
     rw [jc4]
     exact yp3 x hh n (i + 1) m (by omega) (by omega) e' hx
   | false =>
     have er : runW s (n + 1) i = i := by rw [runW, if_neg (fun h => by rw [hg, hw] at h; exact absurd h.2 (by decide))]
     rw [er] at hx
     exact y02 x hh e hi hw fun E' e' => by rw [je3]; exact hx E' e'
end Go.Am
namespace Go.Am
set_option maxRecDepth 100000
variable {N d c b i : Nat} {hk : Hook} {a : Option Addr} {s : List UInt8} {H : Heap} {R : RS} {E : Env} {Q : Am.R → Prop} {k : KOE}
theorem eqB (u z : UInt8) (n : Int) (hn : (z.toNat : Int) = n) : (((u.toNat : Int) == n) : Bool) = decide (u = z) := by rw [← hn]; exact jo3 u z
theorem neB (u z : UInt8) (n : Int) (hn : (z.toNat : Int) = n) : (((u.toNat : Int) != n) : Bool) = !decide (u = z) := by rw [← eqB u z n hn]; rfl
theorem y2v (x : Rd a c s b H R) (e : E 0 = .pointer (some ⟨b, 0, none⟩) ∧ E 3 = .int .i64 ((i : Nat) : Int)) (hi : ¬ i < s.length) (hx : ∀ E', E' 0 = .pointer (some ⟨b, 0, none⟩) ∧ E' 3 = .int .i64 ((i : Nat) : Int) → Q (k (.exit 3) E' [] H)) :
   Q (execG PP XX (CH N hk d) N noPr (.seq (.seq (rF Tryz.f35 11) (.cond (.tmp 103) .skip (.exit 3))) (.block 4 (.seq (.seq (rF Tryz.f35 12) (.cond (.tmp 111) (rF Tryz.f35 13) .skip)) (rF Tryz.f35 14)))) none E [] H k) := by
 obtain ⟨e0, e3⟩ := e
 have hlt : decide ((i : Int) < (s.length : Int)) = false := decide_eq_false (by omega)
 have lL := lX4 Tryz.f35 11 12 13 14
 conv at lL in (occs := *) (rgnX _ _) => all_goals simp only [rX, opsAt, Tryz.f35, dL.o, reduceIte, Nat.reduceEqDiff]
 obtain ⟨l11, l12, l13, l14⟩ := lL
 simp (decide := true) only [↓uR.o, dG.o, ja1, reduceIte, Bool.not_true, ↓ja0 l11, ↓r_no _ 7 true 94 _ jw7, rfsrc, je2 x.blk, ja7 (ts := #[34]) rfl und34, e0, e3, hlt]
 exact hx _ ⟨e0, e3⟩
theorem y4h (x : Rd a c s b H R) (e : E 0 = .pointer (some ⟨b, 0, none⟩) ∧ E 3 = .int .i64 ((i : Nat) : Int)) (hi : i < s.length) (hw : s[i] = 34) (hx : ∀ E', E' 0 = .pointer (some ⟨b, 0, none⟩) ∧ E' 3 = .int .i64 ((i : Nat) : Int) → Q (k (.exit 3) E' [] H)) :
   Q (execG PP XX (CH N hk d) N noPr (.seq (.seq (rF Tryz.f35 11) (.cond (.tmp 103) .skip (.exit 3))) (.block 4 (.seq (.seq (rF Tryz.f35 12) (.cond (.tmp 111) (rF Tryz.f35 13) .skip)) (rF Tryz.f35 14)))) none E [] H k) := by
 obtain ⟨e0, e3⟩ := e
 have hlt : decide ((i : Int) < (s.length : Int)) = true := decide_eq_true (by omega)
 obtain ⟨y, rfl, hl⟩ := x.row.bts.cell i hi
 have hix := jc1 (n := s.length) (c := c) (a := y) hi
 have h34 : ((s[i].toNat : Int) != 34) = false := by rw [neB s[i] 34 34 rfl]; simp [hw]
 have lL := lX4 Tryz.f35 11 12 13 14
 conv at lL in (occs := *) (rgnX _ _) => all_goals simp only [rX, opsAt, Tryz.f35, dL.o, reduceIte, Nat.reduceEqDiff]
 obtain ⟨l11, l12, l13, l14⟩ := lL
 simp (decide := true) only [↓uR.o, dG.o, ja1, reduceIte, ↓ja0 l11, ↓jb7 _ 7 true 94 _ jw7, rfsrc, je2 x.blk, ja7 (ts := #[34]) rfl und34, e0, e3, hlt, hix, ja9 hl, h34]
 exact hx _ ⟨e0, e3⟩
theorem y72 (x : Rd a c s b H R) (e : E 0 = .pointer (some ⟨b, 0, none⟩) ∧ E 3 = .int .i64 ((i : Nat) : Int)) (hi : i < s.length) (hw : s[i] ≠ 34) (hz : s[i] ≠ 92) (hx : ∀ E', E' 0 = .pointer (some ⟨b, 0, none⟩) ∧ E' 3 = .int .i64 ((i + 1 : Nat) : Int) → Q (k .norm E' [] H)) :
   Q (execG PP XX (CH N hk d) N noPr (.seq (.seq (rF Tryz.f35 11) (.cond (.tmp 103) .skip (.exit 3))) (.block 4 (.seq (.seq (rF Tryz.f35 12) (.cond (.tmp 111) (rF Tryz.f35 13) .skip)) (rF Tryz.f35 14)))) none E [] H k) := by
 have hsm := x.row.small
 have w : IntKind.i64.wrap ((i : Int) + 1) = ((i + 1 : Nat) : Int) := by rw [jb2 (by omega) (by omega)]; omega
 obtain ⟨e0, e3⟩ := e
 have hlt : decide ((i : Int) < (s.length : Int)) = true := decide_eq_true (by omega)
 obtain ⟨y, rfl, hl⟩ := x.row.bts.cell i hi
 have hix := jc1 (n := s.length) (c := c) (a := y) hi
 have h34 : ((s[i].toNat : Int) != 34) = true := by rw [neB s[i] 34 34 rfl]; simp [hw]
 have h92 : ((s[i].toNat : Int) == 92) = false := by rw [eqB s[i] 92 92 rfl]; simp [hz]
 have lL := lX4 Tryz.f35 11 12 13 14
 conv at lL in (occs := *) (rgnX _ _) => all_goals simp only [rX, opsAt, Tryz.f35, dL.o, reduceIte, Nat.reduceEqDiff]
 obtain ⟨l11, l12, l13, l14⟩ := lL
 simp (decide := true) only [↓uR.o, dG.o, ja1, reduceIte, ↓ja0 l11, ↓ja0 l12, ↓ja0 l14, ↓jb7 _ 7 true 94 _ jw7, rfsrc, je2 x.blk, ja7 (ts := #[34]) rfl und34, e0, e3, hlt, hix, ja9 hl, h34, h92, w]
 exact hx _ ⟨e0, rfl⟩
theorem y73 (x : Rd a c s b H R) (e : E 0 = .pointer (some ⟨b, 0, none⟩) ∧ E 3 = .int .i64 ((i : Nat) : Int)) (hi : i < s.length) (hw : s[i] ≠ 34) (hz : s[i] = 92) (hx : ∀ E', E' 0 = .pointer (some ⟨b, 0, none⟩) ∧ E' 3 = .int .i64 ((i + 2 : Nat) : Int) → Q (k .norm E' [] H)) :
   Q (execG PP XX (CH N hk d) N noPr (.seq (.seq (rF Tryz.f35 11) (.cond (.tmp 103) .skip (.exit 3))) (.block 4 (.seq (.seq (rF Tryz.f35 12) (.cond (.tmp 111) (rF Tryz.f35 13) .skip)) (rF Tryz.f35 14)))) none E [] H k) := by
 have hsm := x.row.small
 have hsl := x.short
 have w2 : IntKind.i64.wrap (((i + 1 : Nat) : Int) + 1) = ((i + 2 : Nat) : Int) := by rw [jb2 (by omega) (by omega)]; omega
 have w : IntKind.i64.wrap ((i : Int) + 1) = ((i + 1 : Nat) : Int) := by rw [jb2 (by omega) (by omega)]; omega
 obtain ⟨e0, e3⟩ := e
 have hlt : decide ((i : Int) < (s.length : Int)) = true := decide_eq_true (by omega)
 obtain ⟨y, rfl, hl⟩ := x.row.bts.cell i hi
 have hix := jc1 (n := s.length) (c := c) (a := y) hi
 have h34 : ((s[i].toNat : Int) != 34) = true := by rw [neB s[i] 34 34 rfl]; simp [hw]
 have h92 : ((s[i].toNat : Int) == 92) = true := by rw [eqB s[i] 92 92 rfl]; simp [hz]
 have lL := lX4 Tryz.f35 11 12 13 14
 conv at lL in (occs := *) (rgnX _ _) => all_goals simp only [rX, opsAt, Tryz.f35, dL.o, reduceIte, Nat.reduceEqDiff]
 obtain ⟨l11, l12, l13, l14⟩ := lL
 simp (decide := true) only [↓uR.o, dG.o, ja1, reduceIte, ↓ja0 l11, ↓ja0 l12, ↓ja0 l13, ↓ja0 l14, ↓jb7 _ 7 true 94 _ jw7, rfsrc, je2 x.blk, ja7 (ts := #[34]) rfl und34, e0, e3, hlt, hix, ja9 hl, h34, h92, w, w2]
 exact hx _ ⟨e0, rfl⟩
theorem yp4 (x : Rd a c s b H R) : ∀ (n i m : Nat) (_ : s.length ≤ i + n) (_ : n < m) {E : Env} (_ : E 0 = .pointer (some ⟨b, 0, none⟩) ∧ E 3 = .int .i64 ((i : Nat) : Int)) (_ : ∀ E', E' 0 = .pointer (some ⟨b, 0, none⟩) ∧ E' 3 = .int .i64 ((qend s n i : Nat) : Int) → Q (k (.exit 3) E' [] H)),
   Q (loopE (execG PP XX (CH N hk d) N noPr (.seq (.seq (rF Tryz.f35 11) (.cond (.tmp 103) .skip (.exit 3))) (.block 4 (.seq (.seq (rF Tryz.f35 12) (.cond (.tmp 111) (rF Tryz.f35 13) .skip)) (rF Tryz.f35 14)))) none) m E [] H k)
 | 0, i, m + 1, hn, hm, E, e, hx => by
   rw [jb5]
   exact y2v x e (by omega) fun E' e' => by rw [je3]; exact hx E' e'
 | n + 1, i, m + 1, hn, hm, E, e, hx => by
   rw [jb5]
   by_cases hi : i < s.length
   · have hg : s.getD i 0 = s[i] := by simp [List.getD, hi]
     by_cases hw : s[i] = 34
     · have er : qend s (n + 1) i = i := by rw [qend, if_neg (fun h => by rw [hg] at h; exact h.2 hw)]
       rw [er] at hx
       exact y4h x e hi hw fun E' e' => by rw [je3]; exact hx E' e'
     · by_cases hz : s[i] = 92
       · have er : qend s (n + 1) i = qend s n (i + 2) := by rw [qend, if_pos ⟨hi, by rw [hg]; exact hw⟩, if_pos (by rw [hg]; exact hz)]
         rw [er] at hx
         refine y73 x e hi hw hz fun E' e' => ?_
         rw [jc4]
         exact yp4 x n (i + 2) m (by omega) (by omega) e' hx
       · have er : qend s (n + 1) i = qend s n (i + 1) := by rw [qend, if_pos ⟨hi, by rw [hg]; exact hw⟩, if_neg (by rw [hg]; exact hz)]
         rw [er] at hx
         refine y72 x e hi hw hz fun E' e' => ?_
         rw [jc4]
         exact yp4 x n (i + 1) m (by omega) (by omega) e' hx
   · have er : qend s (n + 1) i = i := by rw [qend, if_neg (fun h => hi h.1)]
     rw [er] at hx
     exact y2v x e hi fun E' e' => by rw [je3]; exact hx E' e'
end Go.Am
namespace Go.Am
set_option maxRecDepth 100000
theorem z60 : ((60 : Int) == 0) = false := rfl
theorem z00 : ((0 : Int) == 0) = true := rfl
theorem z11 : (((1 : Nat) : Int) == 1) = true := rfl
theorem j18 {H : Heap} (a : Option Addr) (n c : Nat) (k : Value → Heap → Am.R) : builtinK PP .len #[44] #[.slice a n c] H k = k (.int .i64 n) H := ja7 (ts := #[44]) rfl undTs a n c H k
set_option maxHeartbeats 2000000 in
theorem yg4 {N : Nat} {hk : Hook} {d : Nat} {a : Option Addr} {c : Nat} {s : List UInt8} {b : Nat} {H : Heap} {R : RS} (x : Rd a c s b H R) (hh : NH hk) (K : TkOk N hk (d + 1)) (hN : 2 * s.length + 100 < N) (hi : R.at_ < s.length) :
   ∃ H', CH N hk (d + 2) 35 #[.pointer (some ⟨b, 0, none⟩)] H = some (.ret (.int .i64 (reachI s R.at_ : Int)), H') ∧ Ext H H' := by
 have main : ∃ R0 : Am.R, CH N hk (d + 2) 35 #[.pointer (some ⟨b, 0, none⟩)] H = R0 ∧ ∃ H', R0 = some (.ret (.int .i64 (reachI s R.at_ : Int)), H') ∧ Ext H H' := by
   have hU := jb8 (P := PP) (okf := okC) (prf := prS) (X := XX) (N := N) (hk := hk) (d := d + 1) (args := #[.pointer (some ⟨b, 0, none⟩)]) (H := H) (hh _ _ _ rfl) Tryz.func35 (c := codeOf Tryz.f35) rfl rfl rfl (pr := noPr) rfl
   rw [code35] at hU
   generalize hF : finG PP okC prS XX (CH N hk (d + 1)) N Tryz.f35 = F at hU
   refine ⟨_, hU, ?_⟩
   have hsm := x.row.small
   have hsl : s.length ≤ 1048576 := x.short.1
   have w2 : IntKind.i64.wrap (((R.at_ + 1 : Nat) : Int) + 1) = ((R.at_ + 2 : Nat) : Int) := by rw [jb2 (by omega) (by omega)]; omega
   have w : IntKind.i64.wrap ((R.at_ : Int) + 1) = ((R.at_ + 1 : Nat) : Int) := by clear w2; rw [jb2 (by omega) (by omega)]; omega
   have hcap : s.length ≤ c := x.cap
   have hg : s.getD R.at_ 0 = s[R.at_] := by simp [List.getD, hi]
   have r1 := j74 (N := N) (d := d) (H := H) hh s[R.at_]
   obtain ⟨y, hy, hl⟩ := x.row.bts.cell R.at_ hi
   have hix : indexAddrA PP 34 (.slice a s.length c) (.int .i64 (R.at_ : Int)) = some (.pointer (some (y.add R.at_))) := by rw [hy]; exact jc1 (n := s.length) (c := c) (a := y) hi
   have lL : _ ∧ _ ∧ _ := ⟨lX8 Tryz.f35 0 1 2 3 4 5 6 7, lX8 Tryz.f35 8 9 10 11 12 13 14 15, lX Tryz.f35 16⟩
   conv at lL in (occs := *) (rgnX _ _) => all_goals simp only [rX, opsAt, Tryz.f35, dL.o, reduceIte, Nat.reduceEqDiff]
   obtain ⟨⟨l0, l1, l2, l3, l4, l5, l6, l7⟩, ⟨l8, l9, l10, l11, l12, l13, l14, l15⟩, l16⟩ := lL
   have self : Ext H H := ⟨Nat.le_refl _, fun _ _ h => h, x.fresh⟩
   cases hw : wbI s[R.at_] with
   | true =>
     rw [hw] at r1
     have er : reachI s R.at_ = runW s (s.length - (R.at_ + 1)) (R.at_ + 1) := by unfold reachI; rw [hg, hw]; rfl
     rw [er]
     simp (decide := true) only [↓uR.o, dG.o, ja1, reduceIte, ↓ja0 l0, ↓ja0 l1, ↓ja0 l2, ↓ja0 l7, dA.o, je2 x.blk, jg0 x.blk, w, hix, ja9 hl, ja3 Tryz.func54 rfl rfl r1, ↓jc8]
     refine yp3 (Q := fun r => ∃ H', r = some (.ret (.int .i64 (runW s (s.length - (R.at_ + 1)) (R.at_ + 1) : Int)), H') ∧ Ext H H') x hh (s.length - (R.at_ + 1)) (R.at_ + 1) N (by omega) (by omega) ⟨by simp (decide := true) only [ja1, reduceIte, jd4], rfl⟩ fun E' e' => ?_
     obtain ⟨e0, e3⟩ := e'
     simp (decide := true) only [↓uR.o, dG.o, ja1, reduceIte, ↓ja0 l16, e3]
     rw [← hF, ja4 (l := [.int .i64 (runW s (s.length - (R.at_ + 1)) (R.at_ + 1) : Int)]) (by simp (decide := true) [Tryz.f35, resE, ja1])]
     exact ⟨H, rfl, self⟩
   | false =>
     rw [hw] at r1
     by_cases h34 : s[R.at_] = 34
     · have er : reachI s R.at_ = min (qend s (s.length - (R.at_ + 1)) (R.at_ + 1) + 1) s.length := by unfold reachI; rw [hg, hw, if_neg (by decide), if_pos h34]
       have z34 : ((s[R.at_].toNat : Int) == 34) = true := by rw [eqB s[R.at_] 34 34 rfl]; simp [h34]
       rw [er]
       have hq := j4p s (s.length - (R.at_ + 1)) (R.at_ + 1) (by omega)
       generalize hz : qend s (s.length - (R.at_ + 1)) (R.at_ + 1) = z at hq ⊢
       have wz : IntKind.i64.wrap ((z : Int) + 1) = ((z + 1 : Nat) : Int) := by clear w w2; rw [jb2 (by omega) (by omega)]; omega
       simp (decide := true) only [↓uR.o, dG.o, ja1, reduceIte, ↓ja0 l0, ↓ja0 l1, ↓ja0 l2, ↓ja0 l7, ↓ja0 l10, dA.o, je2 x.blk, jg0 x.blk, w, hix, ja9 hl, ja3 Tryz.func54 rfl rfl r1, z34, ↓jc8]
       refine yp4 (Q := fun r => ∃ H', r = some (.ret (.int .i64 (min (z + 1) s.length : Nat)), H') ∧ Ext H H') x (s.length - (R.at_ + 1)) (R.at_ + 1) N (by omega) (by omega) ⟨by simp (decide := true) only [ja1, reduceIte, jd4], rfl⟩ fun E' e' => ?_
       rw [hz] at e'
       obtain ⟨e0, e3⟩ := e'
       have hm : (if (s.length : Int) < ((z + 1 : Nat) : Int) then (s.length : Int) else ((z + 1 : Nat) : Int)) = ((min (z + 1) s.length : Nat) : Int) := by
         by_cases q : (s.length : Int) < ((z + 1 : Nat) : Int)
         · rw [if_pos q, Nat.min_eq_right (by omega)]
         · rw [if_neg q, Nat.min_eq_left (by omega)]
       simp (decide := true) only [↓uR.o, dG.o, ja1, reduceIte, ↓ja0 l15, ↓ja0 l16, rfsrc, je2 x.blk, ja7 (ts := #[34]) rfl und34, e0, e3, wz, yk6]
       rw [hm]
       rw [← hF, ja4 (l := [.int .i64 (min (z + 1) s.length : Nat)]) (by simp (decide := true) [Tryz.f35, resE, ja1])]
       exact ⟨H, rfl, self⟩
     · have z34 : ((s[R.at_].toNat : Int) == 34) = false := by rw [eqB s[R.at_] 34 34 rfl]; simp [h34]
       by_cases h1 : R.at_ + 1 < s.length
       · have hlt : decide (((R.at_ + 1 : Nat) : Int) < (s.length : Int)) = true := decide_eq_true (by omega)
         have er : reachI s R.at_ = if twoI s R.at_ = true then R.at_ + 2 else R.at_ + 1 := by unfold reachI; rw [hg, hw, if_neg (by decide), if_neg h34, if_pos h1]
         rw [er]
         have hsz : R.at_ + 2 - R.at_ = 2 := by omega
         obtain ⟨a', c', hs, hr, hc'⟩ := j8b x.row (i := R.at_) (j := R.at_ + 2) (c := c) (by omega) (by omega) hcap
         rw [hsz] at hs hr hc'
         have hl2 : ((s.drop R.at_).take 2).length ≤ 1048576 := by simp; omega
         obtain ⟨H', xe, v, e, q, ht, hv⟩ := K H a' c' _ x.gg hr hl2 hc' (x.short.2.sub _ _)
         have go : ∀ res : Bool, twoI s R.at_ = res → (∀ Q : Am.R → Prop, (∀ E' : Env, E' 2 = .int .i64 ((if res = true then R.at_ + 2 else R.at_ + 1 : Nat) : Int) → Q (F .ret E' [] H')) → Q (execG PP XX (CH N hk (d + 1)) N noPr (codeOf Tryz.f35) none (startE #[.pointer (some ⟨b, 0, none⟩)]) [] H F)) → ∃ H', execG PP XX (CH N hk (d + 1)) N noPr (codeOf Tryz.f35) none (startE #[.pointer (some ⟨b, 0, none⟩)]) [] H F = some (.ret (.int .i64 ((if twoI s R.at_ = true then R.at_ + 2 else R.at_ + 1 : Nat) : Int)), H') ∧ Ext H H' := fun res hres h => by
           refine ⟨H', h (fun r => r = some (.ret (.int .i64 ((if twoI s R.at_ = true then R.at_ + 2 else R.at_ + 1 : Nat) : Int)), H')) fun E' h2 => ?_, xe⟩
           rw [hres, ← hF, ja4 (l := [.int .i64 ((if res = true then R.at_ + 2 else R.at_ + 1 : Nat) : Int)]) (by simp (decide := true) only [Tryz.f35, resE, h2])]
           rfl
         rw [code35] at go
         rcases hv with ⟨g1, g2, rfl, rfl⟩ | ⟨wr, g1, rfl, rfl, rfl⟩
         · obtain ⟨y2, m2, rfl⟩ := y2t g2
           by_cases hone : ((toksI ((s.drop R.at_).take 2) (((s.drop R.at_).take 2).length + 1) 0).1.length : Int) = 1
           · have zone : (((toksI ((s.drop R.at_).take 2) (((s.drop R.at_).take 2).length + 1) 0).1.length : Int) == 1) = true := by rw [hone]; rfl
             obtain ⟨tk, htk⟩ : ∃ tk, (toksI ((s.drop R.at_).take 2) (((s.drop R.at_).take 2).length + 1) 0).1 = [tk] := List.length_eq_one_iff.mp (by omega)
             rw [htk] at g2
             obtain ⟨q2, e2, hq2, _⟩ := y2u g2
             have ht2 : twoI s R.at_ = (tk.to_ == 2) := by
               unfold twoI lex1
               rw [show toksI ((s.drop R.at_).take 2) (((s.drop R.at_).take 2).length + 1) 0 = ([tk], none) from Prod.ext htk g1]
             have zt : ((tk.to_ : Int) == 2) = (tk.to_ == 2) := by
               rw [Bool.eq_iff_iff]
               simp only [beq_iff_eq]
               omega
             have ez : (([tk] : List Tk).length : Int) = 1 := rfl
             rw [htk] at zone ht
             rw [e2] at ht
             cases hb2 : (tk.to_ == 2) with
             | true =>
               rw [hb2] at zt ht2
               refine go true ht2 fun Q hx => ?_
               simp (decide := true) only [↓uR.o, dG.o, ja1, reduceIte, ↓ja0 l0, ↓ja0 l1, ↓ja0 l2, ↓ja0 l3, ↓ja0 l4, ↓ja0 l5, ↓ja0 l6, ↓ja0 l7, ↓ja0 l10, ↓ja0 l16, ↓jb7 _ 2 true 48 _ j0z, ↓jb7 _ 7 true 53 _ j00, dA.o, je2 x.blk, jg0 x.blk, ja7 (ts := #[34]) rfl und34, w, w2, hix, ja9 hl, ja3 Tryz.func54 rfl rfl r1, z34, hlt, hs, ja3 Tryz.func12 rfl rfl ht, exA, exB, exC, z00, j18, z11, yp0, fx4, yp1 hq2, zt, Option.map_some, Option.map_none]
               exact hx _ (by simp (decide := true) only [ja1, reduceIte])
             | false =>
               rw [hb2] at zt ht2
               refine go false ht2 fun Q hx => ?_
               simp (decide := true) only [↓uR.o, dG.o, ja1, reduceIte, ↓ja0 l0, ↓ja0 l1, ↓ja0 l2, ↓ja0 l3, ↓ja0 l4, ↓ja0 l5, ↓ja0 l7, ↓ja0 l10, ↓ja0 l16, ↓jb7 _ 2 true 48 _ j0z, ↓jb7 _ 7 true 53 _ j00, dA.o, je2 x.blk, jg0 x.blk, ja7 (ts := #[34]) rfl und34, w, w2, hix, ja9 hl, ja3 Tryz.func54 rfl rfl r1, z34, hlt, hs, ja3 Tryz.func12 rfl rfl ht, exA, exB, exC, z00, j18, z11, yp0, fx4, yp1 hq2, zt, Option.map_some, Option.map_none]
               exact hx _ (by simp (decide := true) only [ja1, reduceIte])
           · have zone : (((toksI ((s.drop R.at_).take 2) (((s.drop R.at_).take 2).length + 1) 0).1.length : Int) == 1) = false := by simpa using hone
             have ht2 : twoI s R.at_ = false := by
               unfold twoI lex1
               split
               · rename_i tk he
                 split at he
                 · rename_i tk' e'
                   rw [e'] at hone
                   exact absurd rfl hone
                 · cases he
               · rfl
             refine go false ht2 fun Q hx => ?_
             simp (decide := true) only [↓uR.o, dG.o, ja1, reduceIte, Bool.not_true, ↓ja0 l0, ↓ja0 l1, ↓ja0 l2, ↓ja0 l3, ↓ja0 l4, ↓ja0 l5, ↓ja0 l7, ↓ja0 l10, ↓ja0 l16, ↓jb7 _ 2 true 48 _ j0z, ↓r_no _ 7 true 53 _ j00, dA.o, je2 x.blk, jg0 x.blk, ja7 (ts := #[34]) rfl und34, w, hix, ja9 hl, ja3 Tryz.func54 rfl rfl r1, z34, hlt, w2, hs, ja3 Tryz.func12 rfl rfl ht, exA, exB, exC, z00, j18, zone, Option.map_some, Option.map_none]
             exact hx _ (by simp (decide := true) only [ja1, reduceIte])
         · have ht2 : twoI s R.at_ = false := by
             unfold twoI lex1
             split
             · rename_i tk he
               split at he
               · rename_i tk' e'
                 rw [e'] at g1
                 cases g1
               · cases he
             · rfl
           refine go false ht2 fun Q hx => ?_
           simp (decide := true) only [↓uR.o, dG.o, ja1, reduceIte, Bool.not_true, ↓ja0 l0, ↓ja0 l1, ↓ja0 l2, ↓ja0 l3, ↓ja0 l4, ↓ja0 l5, ↓ja0 l7, ↓ja0 l10, ↓ja0 l16, ↓r_no _ 2 true 48 _ j0z, ↓r_no _ 7 true 53 _ j00, dA.o, je2 x.blk, jg0 x.blk, ja7 (ts := #[34]) rfl und34, w, hix, ja9 hl, ja3 Tryz.func54 rfl rfl r1, z34, hlt, w2, hs, ja3 Tryz.func12 rfl rfl ht, exA, exB, exC, z60, Option.map_some, Option.map_none]
           exact hx _ (by simp (decide := true) only [ja1, reduceIte])
       · have hlt : decide (((R.at_ + 1 : Nat) : Int) < (s.length : Int)) = false := decide_eq_false (by omega)
         have er : reachI s R.at_ = R.at_ + 1 := by unfold reachI; rw [hg, hw, if_neg (by decide), if_neg h34, if_neg h1]
         rw [er]
         simp (decide := true) only [↓uR.o, dG.o, ja1, reduceIte, ↓ja0 l0, ↓ja0 l1, ↓ja0 l2, ↓ja0 l3, ↓ja0 l7, ↓ja0 l10, ↓ja0 l16, dA.o, je2 x.blk, jg0 x.blk, ja7 (ts := #[34]) rfl und34, w, hix, ja9 hl, ja3 Tryz.func54 rfl rfl r1, z34, hlt]
         rw [← hF, ja4 (l := [.int .i64 ((R.at_ + 1 : Nat) : Int)]) (by simp (decide := true) [Tryz.f35, resE, ja1])]
         exact ⟨H, rfl, self⟩
 obtain ⟨R0, e, H', h1, h2⟩ := main
 exact ⟨H', e.trans h1, h2⟩
end Go.Am
