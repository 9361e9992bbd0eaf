/- Readers as data. -/
import Derived.Test.YtmliebodadgpbaaGreatDoorM09
open Go.Proofs
namespace Go.Am
set_option maxRecDepth 100000
theorem ja0 {α β : Type} {x : Ou α} {f : α → PS → Ou β} {v : β} {q : PS} (h : x.bind f = .ok v q) : ∃ u p, x = .ok u p ∧ f u p = .ok v q := by
 cases x with
 | ok u p => exact ⟨u, p, rfl, h⟩
 | er e => cases h
theorem Sp.run_e {y : Pz} {p p' : PS} {x : It} {v : Bool × It} : ∀ t : Sp, t.one = true → t.run y p x = .ok v p' → v.2.e.length ≤ x.e.length + 1
 | .must _, _, h => by simp only [Sp.run] at h; obtain ⟨_, _, _, h⟩ := ja0 h; cases h; simp
 | .take _ _, _, h => by simp only [Sp.run] at h; obtain ⟨_, _, _, h⟩ := ja0 h; cases h; simp
 | .see _ _, _, h => by simp only [Sp.run] at h; cases h; simp
 | .num _, _, h => by simp only [Sp.run, exE, jc6, Ou.bind_ok] at h; obtain ⟨_, _, _, h⟩ := ja0 h; obtain ⟨_, _, _, h⟩ := ja0 h; cases h; simp
 | .flag _ _, _, h => by simp only [Sp.run] at h; obtain ⟨t, _, _, h⟩ := ja0 h; cases h; cases t <;> exact Nat.le_succ _
 | .ends, _, h => by simp only [Sp.run] at h; obtain ⟨_, _, _, h⟩ := ja0 h; obtain ⟨_, _, _, h⟩ := ja0 h; obtain ⟨_, _, _, h⟩ := ja0 h; obtain ⟨_, _, _, h⟩ := ja0 h; obtain ⟨_, _, _, h⟩ := ja0 h; cases h; simp
 | .ref fd, _, h => by simp only [Sp.run] at h; obtain ⟨_, _, _, h⟩ := ja0 h; cases h; cases fd <;> exact Nat.le_succ _
 | .e, _, h => by simp only [Sp.run, exE, jc6, Ou.bind_ok] at h; obtain ⟨_, _, _, h⟩ := ja0 h; cases h; simp
 | .kids _, _, h => by simp only [Sp.run] at h; obtain ⟨_, _, _, h⟩ := ja0 h; cases h; simp
 | .how _, _, h => by simp only [Sp.run] at h; cases h; simp
 | .orf _, _, h => by simp only [Sp.run] at h; cases h; simp
 | .text, _, h => by simp only [Sp.run] at h; cases h; simp
 | .nxt, _, h => by simp only [Sp.run] at h; cases h; simp
 | .word fd, _, h => by simp only [Sp.run] at h; obtain ⟨_, _, _, h⟩ := ja0 h; cases h; cases fd <;> exact Nat.le_succ _
 | .e1, _, h => by simp only [Sp.run] at h; obtain ⟨_, _, _, h⟩ := ja0 h; cases h; simp
 | .eB, _, h => by simp only [Sp.run, exE, jc6, Ou.bind_ok] at h; obtain ⟨_, _, _, h⟩ := ja0 h; cases h; simp
 | .same _ l, _, h => by simp only [Sp.run] at h; obtain ⟨_, _, _, h⟩ := ja0 h; cases h; cases l <;> exact Nat.le_succ _
 | .setf _, _, h => by simp only [Sp.run] at h; cases h; simp
 | .args, h, _ => by cases h
 | .pars, h, _ => by cases h
def Rc.req (b : Nat) (V : Value) : Rc → Prop
 | .sp _ s => s.req b V
 | .br _ s x y => s.req b V ∧ x.req b V ∧ y.req b V
 | .sq x y => x.req b V ∧ y.req b V
 | .blk _ x => x.req b V
 | _ => True
theorem yk0 {f : Func} {m r : Nat} {pr : Nat → List (Nat × Nat)} {s : Sp} (h : s.okr f m pr r = true) : s.one = true ∧ m < tb f r + 2 ∧ (s.draw = true → pr r = s.prs) := by
 simp only [Sp.okr, Bool.and_eq_true] at h
 exact ⟨h.1, Nat.blt_eq.mp h.2.1, fun e => by have := h.2.2; rw [e] at this; simpa using this⟩
theorem Sp.res_some {s : Sp} {n : Nat} (h : (s.res 0).isSome = true) : s.res n = some ((s.res n).getD 0) := by
 cases s <;> first | rfl | cases h
section
variable {z : Cx} {T : Tc} {y : Pz} {nn M : Nat} {H0 : Heap} {q xi ki m : Nat} {V W : Value} {pr : Nat → List (Nat × Nat)} {f : Func}
def RcK (z : Cx) (T : Tc) (H0 : Heap) (q xi ki : Nat) (V W : Value) (p : PS) (w l : Nat) (it : It) (K : KO) : Ou (Bool × It) → Prop
 | .ok v p' => ∀ E' H' L', Fa z.b q xi ki V W E' → St z T H0 H' L' p' (w + 128 * l) q v.2 → Go p p' → p'.opened = p.opened → v.2.e.length ≤ it.e.length + l → K (cond v.1 .ret .norm) E' [] (H'.plus L')
 | .er e => ∀ i E' H', Fle H0 H' → K (.pan [haltE i e.code]) E' [] H'
theorem RcK.of {p1 p2 : PS} {w1 w2 l1 l2 : Nat} {it1 it2 : It} {K : KO} {r : Ou (Bool × It)} (h : RcK z T H0 q xi ki V W p1 w1 l1 it1 K r) (g : Go p1 p2) (o : p2.opened = p1.opened) (hw : w2 + 128 * l2 ≤ w1 + 128 * l1) (he : it2.e.length + l2 ≤ it1.e.length + l1) : RcK z T H0 q xi ki V W p2 w2 l2 it2 K r := by
 cases r with
 | er e => exact h
 | ok v p' => exact fun E' H' L' a b c d e => h E' H' L' a (b.mono hw) (g.trans c) (d.trans o) (by omega)
theorem jq7 (C : Cz z T y nn M) (hm : xi ≤ m ∧ ki ≤ m) : ∀ (x : Rc), x.ok f m pr = true → x.req z.b V → ∀ {H : Heap} {L : List (Nat × Blk)} {p : PS} {w : Nat} {it : It} {E : Env} {K : KO}, St z T H0 H L p w q it → w + 128 * x.len < 2 ^ 15 → it.e.length + x.len ≤ 2 ^ 20 → z.s.length < p.at_ + M → Fa z.b q xi ki V W E →
   RcK z T H0 q xi ki V W p w x.len it K (x.run y p it) → execW PP pr (x.code f xi) none E [] (H.plus L) K
 | .sp r t, hok, hq, H, L, p, w, it, E, K, s, hw, hl, hM, e, hk => by
   obtain ⟨h1, h2, h3⟩ := yk0 hok
   simp only [Rc.len] at hw hl
   refine yj9 C s (by omega) (by omega) hM e ⟨by omega, by omega⟩ t h1 rfl h3 hq ?_
   simp only [Rc.run] at hk
   cases h : t.run y p it with
   | er er => rw [h] at hk; exact hk
   | ok v p1 =>
     rw [h] at hk
     have := t.run_e h1 h
     exact fun E' H' L' a _ b c d => hk E' H' L' a b c d (by simpa [Rc.len] using this)
 | .br r t x1 x2, hok, hq, H, L, p, w, it, E, K, s, hw, hl, hM, e, hk => by
   simp only [Rc.ok, Bool.and_eq_true] at hok
   obtain ⟨h1, h2, h3⟩ := yk0 hok.1
   simp only [Rc.len] at hw hl hk
   simp only [Rc.code]
   rw [execW]
   refine yj9 C s (by omega) (by omega) hM e ⟨by omega, by omega⟩ t h1 rfl h3 hq.1 ?_
   simp only [Rc.run] at hk
   cases h : t.run y p it with
   | er er => rw [h] at hk; exact hk
   | ok v p1 =>
     rw [h, Ou.bind_ok] at hk
     have he := t.run_e h1 h
     intro E' H' L' a hb s1 g1 o1
     have hb := hb _ (Sp.res_some hok.2.1)
     rw [jr4, execW]
     have hM1 : z.s.length < p1.at_ + M := by have := g1.le; omega
     cases hv : v.1 with
     | true =>
       rw [hv] at hk hb
       rw [show evalE E' (.tmp _) = _ from hb]
       exact jq7 C hm x1 hok.2.2.1 hq.2.1 s1 (by omega) (by omega) hM1 a (hk.of g1 o1 (by omega) (by omega))
     | false =>
       rw [hv] at hk hb
       rw [show evalE E' (.tmp _) = _ from hb]
       exact jq7 C hm x2 hok.2.2.2 hq.2.2 s1 (by omega) (by omega) hM1 a (hk.of g1 o1 (by omega) (by omega))
 | .sq x1 x2, hok, hq, H, L, p, w, it, E, K, s, hw, hl, hM, e, hk => by
   simp only [Rc.ok, Bool.and_eq_true] at hok
   simp only [Rc.len] at hw hl hk
   simp only [Rc.code]
   rw [execW]
   refine jq7 C hm x1 hok.1 hq.1 s (by omega) (by omega) hM e ?_
   simp only [Rc.run] at hk
   cases h : x1.run y p it with
   | er er => rw [h] at hk; exact hk
   | ok v p1 =>
     rw [h, Ou.bind_ok] at hk
     intro E' H' L' a s1 g1 o1 he
     cases hv : v.1 with
     | true =>
       rw [hv] at hk
       have hk' := hk.of (l2 := 0) (w2 := w + 128 * x1.len) (it2 := v.2) g1 o1 (by omega) (by omega)
       have := hk' E' H' L' a s1 (.refl _) rfl (by omega)
       rw [hv] at this
       exact this
     | false =>
       rw [hv] at hk
       exact jq7 C hm x2 hok.2 hq.2 s1 (by omega) (by omega) (by have := g1.le; omega) a (hk.of g1 o1 (by omega) (by omega))
 | .blk i x1, hok, hq, H, L, p, w, it, E, K, s, hw, hl, hM, e, hk => by
   simp only [Rc.code]
   rw [execW]
   refine jq7 C hm x1 hok hq s hw hl hM e ?_
   simp only [Rc.run] at hk
   simp only [Rc.len] at hk
   cases h : x1.run y p it with
   | er er => rw [h] at hk; exact hk
   | ok v p1 =>
     rw [h] at hk
     intro E' H' L' a s1 g1 o1 he
     have := hk E' H' L' a s1 g1 o1 he
     cases hv : v.1 <;> rw [hv] at this <;> exact this
 | .skip, hok, hq, H, L, p, w, it, E, K, s, hw, hl, hM, e, hk => by
   simp only [Rc.code]
   rw [execW]
   exact hk E H L e s (.refl p) rfl (Nat.le_refl _)
 | .ret, hok, hq, H, L, p, w, it, E, K, s, hw, hl, hM, e, hk => by
   simp only [Rc.code]
   rw [execW]
   exact hk E H L e s (.refl p) rfl (Nat.le_refl _)
end
def Rc.rd (x : Rc) (y : Pz) (p : PS) (it : It) : Ou It := (x.run y p it).bind fun v p => .ok v.2 p
structure RdC (g : FuncId) (x : Rc) : Prop where
 ex : ∃ (fn : Func) (pr : Nat → List (Nat × Nat)), PP.funcs[g]? = some fn ∧ goodF PP pr fn 2 = true ∧ codeOf fn = x.code fn 1 ∧ fn.results.toList = [] ∧ x.ok fn 1 pr = true
 req : ∀ b V, x.req b V
 len : x.len ≤ 40
theorem rd_w {z : Cx} {T : Tc} {y : Pz} {nn M : Nat} {H0 H : Heap} {L : List (Nat × Blk)} {p : PS} {w q : Nat} {it : It} {k : KV} {kp : KP} {g : FuncId} {x : Rc} (R : RdC g x) (C : Cz z T y nn M) (s : St z T H0 H L p w q it) (hw : w < 2 ^ 13) (hl : it.e.length ≤ 2 ^ 19) (hM : z.s.length < p.at_ + M) (hk : AnI z T H0 q p (2 ^ 14) k kp (x.rd y p it)) :
   callW PP g #[pt z.b, pt q] (H.plus L) k kp := by
 obtain ⟨fn, pr, h1, h2, h3, h4, h5⟩ := R.ex
 have hlen := R.len
 refine j1e mixed (jk0 h1 h2) ?_
 rw [h3]
 refine jq7 (V := pt q) (W := pt z.b) (xi := 1) (ki := 0) (m := 1) C ⟨by omega, by omega⟩ x h5 (R.req _ _) s (by omega) (by omega) hM ⟨rfl, rfl, rfl, rfl⟩ ?_
 unfold Rc.rd at hk
 cases h : x.run y p it with
 | er er =>
   rw [h] at hk
   intro i E' H' f
   show finW PP fn k kp (.pan _) E' [] H'
   rw [j30]
   exact hk i H' f
 | ok v p1 =>
   rw [h, Ou.bind_ok] at hk
   intro E' H' L' _ s1 g1 o1 _
   have := hk H' L' (s1.mono (by omega)) g1 o1
   cases v.1
   · show finW PP fn k kp .norm E' [] _
     rw [j1j, h4, jj9]; exact this
   · show finW PP fn k kp .ret E' [] _
     rw [jn0, h4, jj9]; exact this
def prE (l : List Nat) : Nat → List (Nat × Nat) := fun i => if l.contains i then [(4, 6), (4, 7)] else []
def ramR : Rc := .sq (.sp 0 .e) (.sq (.sp 1 (.num 40)) (.sp 2 (.must 10)))
theorem yk1 : RdC 75 ramR := ⟨⟨Tryz.f75, prE [0], Tryz.func75, by decide +kernel, by kernel_rfl, by kernel_rfl, by kernel_rfl⟩, fun _ _ => by repeat' constructor, by decide⟩
def irqR : Rc := .sq (.sp 0 .ends) (.sq (.sp 1 (.num 58)) (.sq (.sp 2 (.flag 65 256)) (.sp 3 (.must 10))))
theorem yk2 : RdC 80 irqR := ⟨⟨Tryz.f80, prE [], Tryz.func80, by decide +kernel, by kernel_rfl, by kernel_rfl, by kernel_rfl⟩, fun _ _ => by repeat' constructor, by decide⟩
def queueR : Rc := .sq (.sp 0 .ends) (.sq (.sp 1 (.num 76)) (.sq (.sp 2 (.flag 77 8192)) (.sp 3 (.must 10))))
theorem j62 : RdC 83 queueR := ⟨⟨Tryz.f83, prE [], Tryz.func83, by decide +kernel, by kernel_rfl, by kernel_rfl, by kernel_rfl⟩, fun _ _ => by repeat' constructor, by decide⟩
def sampleR : Rc := .sq (.sp 0 .ends) (.sp 1 (.must 10))
theorem j4k : RdC 84 sampleR := ⟨⟨Tryz.f84, prE [], Tryz.func84, by decide +kernel, by kernel_rfl, by kernel_rfl, by kernel_rfl⟩, fun _ _ => by repeat' constructor, by decide⟩
def forbidR : Rc := .sq (.sp 0 (.ref .f)) (.sq (.sp 1 (.must 61)) (.sq (.sp 2 (.ref .t)) (.sp 3 (.must 10))))
theorem j4l : RdC 85 forbidR := ⟨⟨Tryz.f85, prE [], Tryz.func85, by decide +kernel, by kernel_rfl, by kernel_rfl, by kernel_rfl⟩, fun _ _ => by repeat' constructor, by decide⟩
def pickR : Rc := .sq (.sp 0 (.ref .n)) (.sp 1 (.must 10))
theorem j95 : RdC 82 pickR := ⟨⟨Tryz.f82, prE [], Tryz.func82, by decide +kernel, by kernel_rfl, by kernel_rfl, by kernel_rfl⟩, fun _ _ => by repeat' constructor, by decide⟩
def runsR : Rc := .sq (.sp 0 (.ref .n)) (.sq (.sp 1 .e) (.sp 2 (.must 10)))
theorem j96 : RdC 135 runsR := ⟨⟨Tryz.f135, prE [1], Tryz.func135, by decide +kernel, by kernel_rfl, by kernel_rfl, by kernel_rfl⟩, fun _ _ => by repeat' constructor, by decide⟩
def idleR : Rc := .sq (.sp 0 .e) (.sp 1 (.must 10))
theorem j97 : RdC 136 idleR := ⟨⟨Tryz.f136, prE [0], Tryz.func136, by decide +kernel, by kernel_rfl, by kernel_rfl, by kernel_rfl⟩, fun _ _ => by repeat' constructor, by decide⟩
def needsR : Rc := .sq (.sp 0 (.ref .n)) (.sq (.sp 1 .e) (.sq (.sp 2 (.num 72)) (.sp 3 (.must 10))))
theorem j63 : RdC 134 needsR := ⟨⟨Tryz.f134, prE [1], Tryz.func134, by decide +kernel, by kernel_rfl, by kernel_rfl, by kernel_rfl⟩, fun _ _ => by repeat' constructor, by decide⟩
def mappingR : Rc := .sq (.sp 0 (.ref .n)) (.sq (.sp 1 (.num 42)) (.sq (.sp 2 (.flag 52 32)) (.sq (.sp 3 (.flag 53 64)) (.sp 4 (.must 10)))))
theorem js0 : RdC 115 mappingR := ⟨⟨Tryz.f115, prE [], Tryz.func115, by decide +kernel, by kernel_rfl, by kernel_rfl, by kernel_rfl⟩, fun _ _ => by repeat' constructor, by decide⟩
def subjectR : Rc := .sq (.sp 0 (.ref .n)) (.sq (.sp 1 (.num 49)) (.sq (.sp 2 (.flag 50 128)) (.sp 3 (.kids 2))))
theorem j2n : RdC 78 subjectR := ⟨⟨Tryz.f78, prE [], Tryz.func78, by decide +kernel, by kernel_rfl, by kernel_rfl, by kernel_rfl⟩, fun _ _ => by repeat' constructor, by decide⟩
def planR : Rc := .sq (.sp 0 (.ref .n)) (.sq (.sp 1 (.num 67)) (.sp 2 (.kids 3)))
theorem j98 : RdC 81 planR := ⟨⟨Tryz.f81, prE [], Tryz.func81, by decide +kernel, by kernel_rfl, by kernel_rfl, by kernel_rfl⟩, fun _ _ => by repeat' constructor, by decide⟩
def deviceR : Rc := .sq (.sp 0 (.ref .n)) (.sq (.sp 1 (.num 42)) (.sq (.sp 2 (.num 40)) (.sq (.br 3 (.flag 43 512) (.sq (.sp 4 (.kids 1)) .ret) .skip) (.sp 5 (.must 10)))))
theorem j4m : RdC 76 deviceR := ⟨⟨Tryz.f76, prE [], Tryz.func76, by decide +kernel, by kernel_rfl, by kernel_rfl, by kernel_rfl⟩, fun _ _ => by repeat' constructor, by decide⟩
def cpuR : Rc := .sq (.sp 0 .e) (.sq (.br 1 (.flag 70 1024) (.sq (.sp 2 (.kids 5)) .ret) .skip) (.sp 3 (.kids 4)))
theorem yk3 : RdC 117 cpuR := ⟨⟨Tryz.f117, prE [0], Tryz.func117, by decide +kernel, by kernel_rfl, by kernel_rfl, by kernel_rfl⟩, fun _ _ => by repeat' constructor, by decide⟩
def faultR : Rc := .sq (.blk 0 (.br 4 (.take true 55) (.sp 5 (.how 3)) (.br 6 (.take true 56) (.sp 7 (.how 2)) (.sq (.sp 0 (.must 57)) (.sq (.sp 1 (.how 1)) (.sq (.sp 2 (.ref .t)) (.sp 3 (.num 58)))))))) (.sp 8 (.must 10))
theorem j64 : RdC 116 faultR := ⟨⟨Tryz.f116, prE [], Tryz.func116, by decide +kernel, by kernel_rfl, by kernel_rfl, by kernel_rfl⟩, fun _ _ => by repeat' constructor, by decide⟩
def channelR : Rc := .sq (.sp 0 .ends) (.sq (.br 1 (.flag 62 2048) (.sp 2 (.ref .o)) .skip) (.sq (.blk 0 (.br 5 (.see true 58) (.sq (.sp 6 (.how 1)) (.sp 7 (.num 58))) (.br 8 (.take true 56) (.sp 9 (.how 2)) (.br 10 (.take true 55) (.sp 11 (.how 3)) (.sq (.sp 3 (.how 4)) (.sp 4 (.must 63))))))) (.sp 12 (.must 10))))
theorem j2o : RdC 79 channelR := ⟨⟨Tryz.f79, prE [], Tryz.func79, by decide +kernel, by kernel_rfl, by kernel_rfl, by kernel_rfl⟩, fun _ _ => by repeat' constructor, by decide⟩
def regionR : Rc := .sq (.sp 0 (.ref .n)) (.sq (.sp 1 (.num 40)) (.sq (.br 2 (.flag 42 1) (.sp 3 .e) .skip) (.sq (.sp 4 (.flag 45 2)) (.sq (.sp 5 (.flag 46 4)) (.sq (.br 6 (.take false 47) (.br 7 (.see false 3) (.sq (.sp 8 (.orf 16)) (.sq (.sp 9 .text) (.sp 10 .nxt))) (.sq (.sp 11 (.orf 8)) (.sp 12 .e))) .skip) (.sp 13 (.must 10)))))))
theorem j4n : RdC 77 regionR := ⟨⟨Tryz.f77, prE [3, 12], Tryz.func77, by decide +kernel, by kernel_rfl, by kernel_rfl, by kernel_rfl⟩, fun _ _ => by repeat' constructor, by decide⟩
def addIt (p : PS) (x : It) : PS := { p with its := p.its ++ [x] }
def setIt (p : PS) (k : Nat) (x : It) : PS := { p with its := p.its.set k x }
theorem infoT2 : (PP.info? 40).map (fun i => (i.size, i.bytes)) = some (21, 336) := by kernel_rfl
abbrev itC (kd : Int) (i : Int) : List Value := [.int .i64 kd, .int .i64 i, .string .empty, .int .i64 0, .slice none 0 0, .string .empty, .int .i64 0, .slice none 0 0, .string .empty, .int .i64 0, .slice none 0 0, .string .empty, .int .i64 0, .slice none 0 0, .slice none 0 0, .slice none 0 0, .int .i64 0, .int .i64 0, .string .empty, .slice none 0 0, .slice none 0 0]
theorem zrItem : zeroT PP 40 = some (itC 0 0) := by kernel_rfl
theorem j99 (k i : Int) : buildA PP 40 #[(0, .int .i64 k), (1, .int .i64 i)] = some (.agg (itC k i).toArray) := by kernel_rfl
theorem ya0 (k i : Int) (H : Heap) : buildSliceA PP 25 1 #[(0, .agg (itC k i).toArray)] H = some (.slice (some ⟨H.next, 0, none⟩) 1 1, H.alloc 21 (itC k i)) := by kernel_rfl
theorem tyT : lk PP 40 = 23 ∧ esT PP 40 = 1 ∧ sizeT PP 40 = some 21 := by decide +kernel
theorem yk4 (H : Heap) (k : Int) (i : Nat) : Vds H (it0 k i).dv (itC k i) := by
 have z1 : Vd H (rowD []) (.slice none 0 0) := .z 1
 have z3 : Vd H (.r 3 []) (.slice none 0 0) := .z 3
 have p := fun v : Value => Vd.p (H := H) v
 exact .cons (p _) (.cons (p _) (.cons (p _) (.cons (p _) (.cons z1 (.cons (p _) (.cons (p _) (.cons z1 (.cons (p _) (.cons (p _) (.cons z1 (.cons (p _) (.cons (p _) (.cons z1 (.cons z3 (.cons z1 (.cons (p _) (.cons (p _) (.cons (p _) (.cons z1 (.cons z1 (.nil H)))))))))))))))))))))
theorem Vd.nil_inv {H : Heap} {es : Nat} {v : Value} (h : Vd H (.r es []) v) : v = .slice none 0 0 := by
 cases h with
 | z => rfl
 | r _ hn => exact absurd rfl hn
def detB : DV → Bool | .p _ => true | .r _ l => l.isEmpty
def valD : DV → Value | .p v => v | .r _ _ => .slice none 0 0
theorem Vds.det {H : Heap} : ∀ {l : List DV} {cs : List Value}, Vds H l cs → l.all detB = true → cs = l.map valD
 | [], cs, h, _ => h.nil_inv
 | d :: l, cs, h, hd => by
   obtain ⟨v, r, e, h1, h2⟩ := h.cons_inv
   simp only [List.all_cons, Bool.and_eq_true] at hd
   rw [e, h2.det hd.2, List.map_cons]
   congr 1
   cases d with
   | p u => exact h1.p_inv
   | r es l =>
     have : l = [] := by simpa [detB] using hd.1
     subst this
     exact h1.nil_inv
theorem ya1 {H : Heap} {k : Int} {i : Nat} {cs : List Value} (h : Vds H (it0 k i).dv cs) : cs = itC k i := h.det rfl
theorem jo4 (x : It) : x.dv.length = 21 := rfl
theorem j1r : ∀ l : List It, (l.flatMap It.dv).length = l.length * 21
 | [] => rfl
 | x :: l => by rw [List.flatMap_cons, List.length_append, j1r l, jo4, List.length_cons]; omega
theorem j8o : ∀ (l : List It) (k : Nat) (x : It), k < l.length → (l.set k x).flatMap It.dv = (l.flatMap It.dv).take (k * 21) ++ x.dv ++ (l.flatMap It.dv).drop (k * 21 + 21)
 | [], k, x, h => by cases h
 | y :: l, 0, x, h => by
   simp only [List.set_cons_zero, List.flatMap_cons, Nat.zero_mul, List.take_zero, List.nil_append, Nat.zero_add]
   rw [List.drop_append_of_le_length (Nat.le_of_eq (jo4 y).symm), List.drop_of_length_le (Nat.le_of_eq (jo4 y)), List.nil_append]
 | y :: l, k + 1, x, h => by
   simp only [List.set_cons_succ, List.flatMap_cons]
   rw [j8o l k x (by simpa using h), show (k + 1) * 21 = y.dv.length + k * 21 by rw [jo4]; omega, List.take_length_add_append, Nat.add_assoc, List.drop_length_add_append]
   simp
theorem j65 : ∀ (l : List It) (k : Nat) (h : k < l.length), ((l.flatMap It.dv).drop (k * 21)).take 21 = l[k].dv
 | [], k, h => by cases h
 | y :: l, 0, h => by
   simp only [List.flatMap_cons, Nat.zero_mul, List.drop_zero, List.getElem_cons_zero]
   rw [List.take_append_of_le_length (Nat.le_of_eq (jo4 y).symm), List.take_of_length_le (Nat.le_of_eq (jo4 y))]
 | y :: l, k + 1, h => by
   simp only [List.flatMap_cons, List.getElem_cons_succ]
   rw [show (k + 1) * 21 = y.dv.length + k * 21 by rw [jo4]; omega, List.drop_length_add_append]
   exact j65 l k (by simpa using h)
theorem j4o {xs vs : List Value} {i n : Nat} (h : i + vs.length ≤ n) (hn : n ≤ xs.length) : (over xs i vs).take n = over (xs.take n) i vs := by
 refine List.ext_getElem? fun j => ?_
 rw [List.getElem?_take, over_get (by omega), over_get (by simp; omega), List.getElem?_take]
 by_cases h1 : j < n
 · rw [if_pos h1, if_pos h1]
 · rw [if_neg h1, if_neg h1, if_neg (by omega), if_neg (by omega)]
section
variable {z : Cx} {T : Tc} {H H' : Heap} {p : PS} {w : Nat} {k : KV} {kp : KP}
theorem Rx.item {wv iv nv v : Value} {x : It} (r : Rx z H p w wv iv nv) (c : Ch (blkOf iv) H H') (o : OwnD H' v 21 (p.its.length + 1) (p.its.flatMap It.dv ++ x.dv)) (hs : p.its.length + 1 ≤ p.to_) : Rx z H' (addIt p x) w wv v nv := by
 obtain ⟨⟨w1, l, w2, w3⟩, h1, h2, h3, h4⟩ := r
 have wr := h1.blk
 exact ⟨⟨w1, l, w2, w3.chE c (by decide) wr⟩, by simpa [addIt] using o, h2.chE c (by decide) wr, ⟨by simpa [addIt] using hs, h3.2⟩, h4⟩
theorem jh4 (x : Rd z T H p w) (lv : Lv p) (hk0 : p.k.kind ≠ 0) (kd : Int) (hk : ∀ H', Fle H H' → Rd z T H' (nextP z.s (addIt p (it0 kd p.at_))) 0 → k (.int .i64 (p.its.length : Nat)) H') : callW PP 55 #[pt z.b, .int .i64 kd] H k kp := by
 refine run 2 rfl Tryz.func55 (pr := fun i => if i = 1 then [(5, 12)] else []) (by decide +kernel) (by kernel_rfl) ?_
 obtain ⟨f, t, bad, wv, nm, nu, iv, nv, hb, r⟩ := x.ex
 have lt := x.tok hk0
 have sz := x.sz
 have sh := x.base.short
 have hle : p.its.length ≤ 2 ^ 20 := by have := sz.1; have := sz.2.2.2.2; omega
 obtain ⟨v', H2, e1, o2, c2, b2, s2, a2, m2, rfl⟩ := j8m (n := p.its.length) Tryz.underlying25 infoT2 zrItem rfl (by decide) (by decide) r.its x.fresh (yk4 H kd p.at_) rfl rfl (by omega)
 have hb2 := c2.keep _ _ hb (r.its.ne hb (by decide))
 have r2 := r.item c2 o2 (by have := lv.1; omega)
 have f2 := c2.fle fun q e => let ⟨y, hy⟩ := r.its.blk q e; ⟨y, 21, hy⟩
 have hb1 : (H.alloc 21 (itC kd p.at_)).get z.b = some (rdB z T p f t bad wv nm nu iv nv) := by
   rw [Heap.get_alloc, if_neg (Nat.ne_of_lt (x.fresh.lt hb))]; exact hb
 have x2 := Rd.set (T := T) (f := f) (t := t) (bad := bad) (nm := nm) (nu := nu) (x.base.fle f2) x.low hb2 r2 rfl
 simp +decide only [fx Tryz.f55.eq_1, ↓GI.o, reduceIte, hb, hb1, j99, ya0, e1, hb2]
 refine jn9 x2 fun H3 f3 x3 => ?_
 obtain ⟨f', t', bad', wv', nm', nu', iv', nv', hb3, r3⟩ := x3.ex
 have hl : (nextP z.s (addIt p (it0 kd p.at_))).its.length = p.its.length + 1 := by rw [(jd1 _ _).2.1]; simp [addIt]
 obtain ⟨ci, i1, _⟩ := r3.its
 obtain ⟨⟨a3, m3, rfl⟩, _⟩ := i1.sc
 simp +decide only [fx Tryz.f55.eq_1, ↓GI.o, reduceIte, hb3, jd8 Tryz.underlying25, hl, show IntKind.i64.wrap (((p.its.length + 1 : Nat) : Int) - 1) = ((p.its.length : Nat) : Int) by rw [ja8 (by omega) (by omega)]; omega]
 exact hk H3 (f2.trans ((Fle.set c2.fresh hb2 _).trans f3)) x3
end
theorem ixIt : ixT PP 25 = some (none, 21) := by decide +kernel
theorem jb4 {P : Program} {t q es off n : Nat} {cs vs : List Value} {H : Heap} (hq : H.get q = some ⟨cs, true, es, none⟩) (ht : sizeT P t = some n) (hl : vs.length = n) (ho : off + n ≤ cs.length) (hv : vs.all Value.oneCell' = true) :
   storeA P t (.pointer (some ⟨q, off, none⟩)) (.agg vs.toArray) H = some (undef, H.set q ⟨over cs off vs, true, es, none⟩) := by
 subst hl
 simp only [storeA, ht, stV, Value.cells, st, look, hq]
 simp [hv, ho]
theorem Fr.none {H0 H : Heap} {L : List (Nat × Blk)} (f : Fr H0 H L) {q : Nat} {y : Blk} (h : H.get q = some y) : L.lookup q = none := by
 cases e : L.lookup q with
 | none => rfl
 | some b => have := (f.keys _ _ e).2.2; rw [h] at this; cases this
section
variable {z : Cx} {T : Tc} {H H0 : Heap} {p : PS} {w : Nat} {k : KV} {kp : KP}
theorem j4p {iv : Value} (o : OwnD H iv 21 p.its.length (p.its.flatMap It.dv)) {i : Nat} (hi : i < p.its.length) : ∃ q m cs, iv = .slice (some ⟨q, 0, none⟩) p.its.length m ∧ indexAddrA PP 25 iv (.int .i64 (i : Int)) = some (.pointer (some ⟨q, i * 21, none⟩)) ∧ H.get q = some ⟨cs, true, 21, none⟩ ∧
   cs.length = m * 21 ∧ p.its.length ≤ m ∧ Vds H (p.its.flatMap It.dv) (cs.take (p.its.length * 21)) := by
 obtain ⟨cells, o1, o2, _⟩ := o
 rcases o1 with ⟨_, h, _⟩ | ⟨q, m, cs, rfl, h1, h2, h3, rfl⟩
 · omega
 · refine ⟨q, m, cs, rfl, ?_, h1, h2, h3, o2⟩
   have := je4 ixIt hi q 0 m .i64
   simpa using this
theorem ya2 {cs : List Value} {i : Nat} (hi : i < p.its.length) {m : Nat} (h2 : cs.length = m * 21) (h3 : p.its.length ≤ m) (hv : Vds H (p.its.flatMap It.dv) (cs.take (p.its.length * 21))) : inL (i * 21 + 20) cs = true ∧ Vds H p.its[i].dv ((cs.drop (i * 21)).take (20 + 1)) := by
 have hm : (i + 1) * 21 ≤ p.its.length * 21 := Nat.mul_le_mul_right _ hi
 have hm' : p.its.length * 21 ≤ m * 21 := Nat.mul_le_mul_right _ h3
 refine ⟨(jc9 _ _).2 (by omega), ?_⟩
 rw [← j65 _ _ hi]
 have := (hv.drop (i * 21)).take 21
 rwa [List.drop_take, List.take_take, Nat.min_eq_left (by omega)] at this
theorem yk5 (x : Rd z T H p w) {i : Nat} (hi : i < p.its.length) {it : It} {cells : List Value} (hd : Vds H it.dv cells) (hc : cells.all Value.oneCell' = true) (hk : ∀ H', Fle H H' → Rd z T H' (setIt p i it) w → k (.int .i64 (i : Int)) H') :
   callW PP 56 #[pt z.b, .int .i64 (i : Int), .agg cells.toArray] H k kp := by
 refine run 3 rfl Tryz.func56 (pr := noPr) (by decide +kernel) (by kernel_rfl) ?_
 have c1 := Ch.alloc x.fresh 1 cells
 have x1 := x.ch c1
 have f1 := c1.fle fun q e => by cases e
 have hl : cells.length = 21 := hd.1.symm
 have hq1 := Heap.get_new H 1 cells
 obtain ⟨f, t, bad, wv, nm, nu, iv, nv, hb, r⟩ := x1.ex
 obtain ⟨q, m, cs, rfl, ix, hq, h2, h3, hv⟩ := j4p r.its hi
 have hm : (i + 1) * 21 ≤ p.its.length * 21 := Nat.mul_le_mul_right _ hi
 have hm' : p.its.length * 21 ≤ m * 21 := Nat.mul_le_mul_right _ h3
 have e1 := jb4 hq tyT.2.2 hl (off := i * 21) (by omega) hc
 have hin : inL (0 + 20) cells = true := (jc9 _ _).2 (by omega)
 have htk : cells.take (20 + 1) = cells := List.take_of_length_le (by omega)
 have hA : (cells.toArray : Array Value) = ⟨cells⟩ := rfl
 simp +decide only [fx Tryz.f56.eq_1, ↓GI.o, reduceIte, hA, jn5, tyT, hb, ix, hq1, hin, htk]
 rw [← hA, e1]
 simp +decide only [fx Tryz.f56.eq_1, ↓GI.o, reduceIte]
 have c2 := Ch.set x1.fresh hq ⟨over cs (i * 21) cells, true, 21, none⟩
 have f2 : Fle _ ((H.alloc 1 cells).set q ⟨over cs (i * 21) cells, true, 21, none⟩) := c2.fle fun q' e => by cases e; exact ⟨_, _, hq⟩
 have wr : ∀ q', some q = some q' → ∃ y, (H.alloc 1 cells).get q' = some ⟨y, true, 21, none⟩ := fun q' e => by cases e; exact ⟨_, hq⟩
 have bq : q ≠ z.b := fun e => by rw [e, hb] at hq; cases hq
 refine hk _ (f1.trans f2) ⟨x1.base.fle f2, x.low, f, t, bad, wv, nm, nu, _, nv, c2.keep _ _ hb (by simpa using bq), ?_⟩
 obtain ⟨⟨w1, l, w2, w3⟩, h4, h5, h6, h7⟩ := r
 have hlen : (over cs (i * 21) cells).length = cs.length := over_length (by rw [hl]; omega)
 refine ⟨⟨w1, l, w2, w3.chE c2 (by decide) wr⟩, ⟨(over cs (i * 21) cells).take (p.its.length * 21), ?_, ?_, fun e => ?_⟩, h5.chE c2 (by decide) wr, ⟨by simpa [setIt] using h6.1, h6.2⟩, h7⟩
 · refine .inr ⟨q, m, _, by simp [setIt], by rw [Heap.get_set, if_pos rfl], by rw [hlen, h2], by simpa [setIt] using h3, by simp [setIt]⟩
 · rw [j4o (by rw [hl]; omega) (by omega)]
   show Vds _ ((p.its.set i it).flatMap It.dv) _
   rw [j8o _ _ _ hi]
   have g := (hv.mono f2.keep)
   have d2 := (hd.mono f1.keep).mono f2.keep
   have := ((g.take (i * 21)).append d2).append (g.drop (i * 21 + 21))
   simpa [over, hl] using this
 · have := congrArg List.length e
   rw [j1r] at this
   simp [setIt] at this
   omega
end
def beginP (s : List UInt8) (kd : Int) (p : PS) : PS := nextP s (addIt p (it0 kd p.at_))
def itemP (y : Pz) (kd : Int) (x : Rc) (p : PS) : Ou Nat := (x.rd y (beginP y.s kd p) (it0 kd p.at_)).bind fun it q => .ok p.its.length (setIt q p.its.length it)
def constI : Rc := .sq (.sp 7 (.word .n)) (.sq (.sp 8 (.must 13)) (.sq (.sp 9 .e1) (.sp 10 (.must 10))))
def assertI : Rc := .sq (.sp 14 .e1) (.sp 15 (.must 10))
def eachI (kd : Nat) : Rc := .sq (.sp 19 (.word .n)) (.sq (.sp 20 (.must 33)) (.sq (.sp 21 .eB) (.sq (.sp 22 (.must 12)) (.sq (.sp 23 .eB) (.sp 24 (.same kd false))))))
def ifI (kd : Nat) : Rc := .sq (.sp 28 .e1) (.sq (.sp 29 (.same kd false)) (.br 30 (.take false 35) (.sq (.sp 31 (.setf 4096)) (.sp 32 (.same kd true))) .skip))
def useR : Rc := .sq (.sp 0 (.word .n)) (.sq (.sp 1 .args) (.sp 6 (.must 10)))
def groupR : Rc := .sq (.sp 3 (.word .n)) (.sq (.sp 4 .pars) (.sp 9 (.kids 0)))
def innerT (kd : Nat) : List (Int × Int × Rc) := [(31, 1, constI), (36, 4, assertI), (32, 2, eachI kd), (34, 3, ifI kd)]
def itemT : List (Int × Int × Rc) := [(38, 6, useR), (39, 7, ramR), (41, 8, deviceR), (44, 9, regionR), (48, 10, subjectR), (59, 11, channelR), (64, 12, irqR), (66, 13, planR), (73, 14, pickR), (63, 15, pickR), (74, 22, queueR), (75, 23, sampleR), (78, 24, pickR), (79, 25, forbidR)]
def ruleT : Nat → List (Int × Int × Rc)
 | 0 => innerT 0 ++ itemT
 | 1 => innerT 1 ++ [(51, 16, mappingR)]
 | 2 => innerT 2 ++ [(51, 16, mappingR), (54, 17, faultR)]
 | 3 => innerT 3 ++ [(49, 18, cpuR)]
 | 4 => innerT 4 ++ [(68, 19, runsR), (69, 20, idleR)]
 | 5 => innerT 5 ++ [(71, 21, needsR)]
 | _ => (37, 5, groupR) :: (innerT 0 ++ itemT)
def dclP (y : Pz) : List (Int × Int × Rc) → PS → Ou Nat
 | [], _ => .er .bad
 | (w, kd, x) :: r, p => if p.k.kind = w then itemP y kd x p else dclP y r p
def ruleP (s : List UInt8) (n : Nat) : Nat → Nat → PS → Ou Nat
 | 0, _, _ => .er .bad
 | m + 1, kd, p => dclP ⟨s, exprP s n, n, ruleP s n m⟩ (ruleT kd) p
def Rc.rt : Rc → Bool
 | .br _ _ x y => x.rt || y.rt
 | .sq x y => x.rt || y.rt
 | .blk _ x => x.rt
 | .ret => true
 | _ => false
theorem Rc.nort {y : Pz} : ∀ (x : Rc), x.rt = false → ∀ {p q : PS} {it : It} {v : Bool × It}, x.run y p it = .ok v q → v.1 = false
 | .sp _ _, _, p, q, it, v, h => by
   obtain ⟨_, _, _, h⟩ := ja0 h; cases h; rfl
 | .br _ _ a b, hr, p, q, it, v, h => by
   simp only [Rc.rt, Bool.or_eq_false_iff] at hr
   obtain ⟨u, _, _, h⟩ := ja0 h
   cases hu : u.1 <;> rw [hu] at h
   · exact b.nort hr.2 h
   · exact a.nort hr.1 h
 | .sq a b, hr, p, q, it, v, h => by
   simp only [Rc.rt, Bool.or_eq_false_iff] at hr
   obtain ⟨u, _, h1, h⟩ := ja0 h
   have hu := a.nort hr.1 h1
   rw [hu] at h
   exact b.nort hr.2 h
 | .blk _ a, hr, p, q, it, v, h => a.nort (p := p) (q := q) (it := it) hr h
 | .skip, _, p, q, it, v, h => by cases h; rfl
section
variable {z : Cx} {T : Tc} {H H0 : Heap} {L : List (Nat × Blk)} {p : PS} {w q : Nat} {it : It} {k : KV} {kp : KP}
theorem j2p (H : Heap) {x : It} (h : x.params = []) : Vd H (.r 3 (x.params.flatMap Rf.dv)) (.slice none 0 0) := by rw [h]; exact .z 3
theorem St.fin_w (s : St z T H0 H L p w q it) {nv fv tv ov ev kv lv : Value} (li : LI H L q it nv fv tv ov ev kv lv) {i : Nat} (hi : i < p.its.length) (hk : ∀ H', Fle H0 H' → Rd z T H' (setIt p i it) w → k (.int .i64 (i : Int)) H') :
   callW PP 56 #[pt z.b, .int .i64 (i : Int), .agg #[.int .i64 it.kind, .int .i64 (it.pos : Int), .string it.name.word, .int .i64 (it.name.at_ : Int), nv, .string it.from_.word, .int .i64 (it.from_.at_ : Int), fv, .string it.to_.word, .int .i64 (it.to_.at_ : Int), tv, .string it.over_.word, .int .i64 (it.over_.at_ : Int), ov, .slice none 0 0, ev, .int .i64 it.flags, .int .i64 it.how, .string it.text, kv, lv]] (H.plus L) k kp := by
 obtain ⟨ff, gg⟩ := s.fr.frz
 have m := ff.hle.frz
 have oc : ∀ {l : List DV} {v : Value}, Vd H (.r 1 l) v → Value.oneCell' v = true := fun h => (jd6 h.sc).2
 have p1 := fun v : Value => Vd.p (H := H.plus (frzL L)) v
 refine ja4 gg (yk5 (s.rd.hle ff.hle) hi (it := it) (cells := [.int .i64 it.kind, .int .i64 (it.pos : Int), .string it.name.word, .int .i64 (it.name.at_ : Int), nv, .string it.from_.word, .int .i64 (it.from_.at_ : Int), fv, .string it.to_.word, .int .i64 (it.to_.at_ : Int), tv, .string it.over_.word, .int .i64 (it.over_.at_ : Int), ov, .slice none 0 0, ev, .int .i64 it.flags, .int .i64 it.how, .string it.text, kv, lv]) ?_ ?_ fun H' f x => ⟨H', .refl _, hk H' (ff.out.trans f) x⟩)
 · exact .cons (p1 _) (.cons (p1 _) (.cons (p1 _) (.cons (p1 _) (.cons (li.n.mono m) (.cons (p1 _) (.cons (p1 _) (.cons (li.f.mono m) (.cons (p1 _) (.cons (p1 _) (.cons (li.t.mono m) (.cons (p1 _) (.cons (p1 _) (.cons (li.o.mono m) (.cons (j2p _ li.par) (.cons (li.e.frz s.fr (jm1 _ _)) (.cons (p1 _) (.cons (p1 _) (.cons (p1 _) (.cons (li.k.mono m) (.cons (li.l.mono m) (.nil _)))))))))))))))))))))
 · have he := (jd6 li.e.sc.1).2
   simp [List.all_cons, oc li.n, oc li.f, oc li.t, oc li.o, oc li.k, oc li.l, he]
   simp [Value.oneCell']
end
theorem ju3 {pr : Nat → List (Nat × Nat)} {f : Func} {i : Nat} {rest code : Code} {E : Env} {ds : List Deferred} {H : Heap} {K : KO} (h : un f (.seq (.region i #[] false) rest) = code) (hk : execW PP pr code none E ds H K) : opsU PP f i (rgX f i) E ds H (normK (thenU PP pr f rest K)) (panU PP f i false (thenU PP pr f rest K)) := by
 rw [← h] at hk
 have : exU PP pr f (.seq (.region i #[] false) rest) none E ds H K := hk
 rw [jt6, j0a] at this
 exact this
def innerP (y : Pz) (kd : Nat) (p : PS) : Option (Ou Nat) :=
 if p.k.kind = 31 then some (itemP y 1 constI p) else if p.k.kind = 36 then some (itemP y 4 assertI p) else if p.k.kind = 32 then some (itemP y 2 (eachI kd) p) else if p.k.kind = 34 then some (itemP y 3 (ifI kd) p) else none
def prI : Nat → List (Nat × Nat) := fun i => if i = 21 then [(1, 3), (1, 4)] else if i = 23 then [(1, 3), (1, 4)] else []
theorem jf3 {s : List UInt8} {p : PS} (sz : Sz s p) (lv : Lv p) (lt : p.at_ < p.to_) (kd : Int) : Go p (beginP s kd p) ∧ p.at_ < (beginP s kd p).at_ ∧ (beginP s kd p).opened = p.opened ∧ Lv (beginP s kd p) ∧ (beginP s kd p).its = p.its ++ [it0 kd p.at_] := by
 have e : beginP s kd p = { nextP s p with opened := p.opened, its := p.its ++ [it0 kd p.at_], nds := p.nds } := j0k s p p.opened (p.its ++ [it0 kd p.at_]) p.nds
 obtain ⟨g1, g2, g3, g4⟩ := jd3 sz
 have e3 := (jd1 s p).2.2
 rw [e]
 refine ⟨⟨g1.le, by show p.its.length ≤ (p.its ++ [_]).length; simp, by show (p.its ++ [_]).length + p.at_ ≤ p.its.length + (nextP s p).at_; simp; omega, by show p.nds.length + p.at_ ≤ p.nds.length + (nextP s p).at_; have := g1.le; omega⟩, by show p.at_ < (nextP s p).at_; omega, rfl, ⟨by show (p.its ++ [_]).length ≤ (nextP s p).at_; have := lv.1; simp; omega, by show p.nds.length ≤ (nextP s p).at_; have := lv.2; omega⟩, rfl⟩
theorem jf4 {z : Cx} {T : Tc} {H0 H : Heap} {L : List (Nat × Blk)} {p : PS} {w : Nat} {kd : Int} (fr : Fr H0 H L) (x : Rd z T H (beginP z.s kd p) w) (hi : (beginP z.s kd p).its = p.its ++ [it0 kd p.at_]) :
   ∃ f t bad wv nm nu iv nv q cs, H.get z.b = some (rdB z T (beginP z.s kd p) f t bad wv nm nu iv nv) ∧ indexAddrA PP 25 iv (.int .i64 (p.its.length : Int)) = some (.pointer (some ⟨q, p.its.length * 21, none⟩)) ∧ H.get q = some ⟨cs, true, 21, none⟩ ∧ inL (p.its.length * 21 + 20) cs = true ∧ (cs.drop (p.its.length * 21)).take (20 + 1) = itC kd p.at_ ∧ L.lookup z.b = none ∧ L.lookup q = none ∧ z.b < H.next ∧ q < H.next := by
 obtain ⟨f, t, bad, wv, nm, nu, iv, nv, hb, r⟩ := x.ex
 have hl : p.its.length < (beginP z.s kd p).its.length := by rw [hi]; simp
 obtain ⟨q, m, cs, e, ix, hq, h2, h3, hv⟩ := j4p r.its hl
 obtain ⟨hin, hd⟩ := ya2 hl h2 h3 hv
 have hz : (beginP z.s kd p).its[p.its.length] = it0 kd p.at_ := by simp [hi]
 rw [hz] at hd
 exact ⟨f, t, bad, wv, nm, nu, iv, nv, q, cs, hb, ix, hq, hin, ya1 hd, fr.none hb, fr.none hq, x.fresh.lt hb, x.fresh.lt hq⟩
theorem St.new {z : Cx} {T : Tc} {H0 H : Heap} {L : List (Nat × Blk)} {p : PS} {w q : Nat} {kd : Int} {i : Nat} (fr : Fr H0 H L) (x : Rd z T H p w) (lv : Lv p) (h : L.lookup q = some ⟨itC kd i, true, 1, none⟩) : St z T H0 H L p w q (it0 kd i) :=
 ⟨fr, x, lv, .slice none 0 0, .slice none 0 0, .slice none 0 0, .slice none 0 0, .slice none 0 0, .slice none 0 0, .slice none 0 0, h, rfl, .z 1, .z 1, .z 1, .z 1, .z 1, .z 1, .inl ⟨rfl, rfl, rfl⟩, by simp [blkOf]⟩
section
variable {z : Cx} {T : Tc} {y : Pz} {n M : Nat} {H : Heap} {p : PS} {w : Nat} {k : KV} {kp : KP}
set_option maxHeartbeats 1000000 in
theorem j4q (C : Cz z T y n M) {kd : Nat} (x : Rd z T H p w) (lv : Lv p) (hw : w < 2 ^ 17) (hM : z.s.length < p.at_ + M + 1) (hn : innerP y kd p = none → ∀ H', Fle H H' → Rd z T H' p (w + 4) → k (.tuple #[.int .i64 0, .bool false]) H')
   (hk : ∀ o, innerP y kd p = some o → AnS z T H p p.opened (2 ^ 13) (fun _ v u => u = .tuple #[.int .i64 ((v : Nat) : Int), .bool true]) k kp o) : callW PP 57 #[pt z.b, .func (.func (fnK kd)) #[pt z.b] #[]] H k kp := by
 have lb : z.b < H.next := let ⟨_, _, _, _, _, _, _, _, hb, _⟩ := x.ex; x.fresh.lt hb
 show callW PP 57 _ (H.plus []) k kp
 refine run 2 rfl Tryz.func57 (pr := prI) (by decide +kernel) (by kernel_rfl) ?_
 have g := (zf57.o).1
 have hs := C.s
 have f0 : Fr H (H.to (H.next + 1)) [(H.next, ⟨itC 0 0, true, 1, none⟩)] := (Fr.start x.fresh).new _
 simp +decide only [zf57.o, ↓GI.o, reduceIte, je5 zrItem, tyT]
 refine f0.in (jg9 (x.to (Nat.le_succ _)) (by omega) 31 fun G1 f1 x1 => ?_)
 have fr1 := f0.call f1
 unfold innerP at hn hk
 clear f0
 by_cases h0 : p.k.kind = 31
 · have hk := hk (itemP y 1 (constI) p) (by simp [h0])
   have lt := x.tok (by omega)
   obtain ⟨bg, blt, bo, blv, bi⟩ := jf3 x.sz lv lt 1
   have hb := g 5
   have hc := g 6
   simp +decide only [↓dG.o] at hb hc
   simp +decide only [hb, ↓GI.o, reduceIte, show (p.k.kind == 31) = true by simpa using h0]
   refine fr1.in (jh4 x1 lv (by omega) 1 fun H2 f2 x2 => ?_)
   have fr2 := fr1.call f2
   have x2 : Rd z T H2 (beginP z.s 1 p) 0 := x2
   obtain ⟨f, t, bad, wv, nm, nu, iv, nv, q, cs, e1, e2, e3, e4, e5, e6, e7, e8, e9⟩ := jf4 fr2 x2 bi
   have est := jb4 (P := PP) (t := 40) (H := H2.plus [(H.next, ⟨itC 0 0, true, 1, none⟩)]) (q := H.next) (off := 0) (cs := itC 0 0) (vs := itC 1 p.at_) (by rw [ja2, ja5]; rfl) tyT.2.2 rfl (by simp) rfl
   simp +decide only [hc, ↓GI.o, reduceIte, e1, e2, e3, e4, e5, e6, e7, tyT]
   rw [est]
   simp +decide only [↓GI.o]
   have s2 : St z T H H2 [(H.next, ⟨itC 1 p.at_, true, 1, none⟩)] (beginP z.s 1 p) 0 H.next (it0 1 p.at_) := St.new (fr2.as (by rfl)) x2 blv (ja5 _ _ _)
   refine ju3 (rest := .seq (.region 8 #[] false) (.seq (.region 9 #[] false) (.region 10 #[] false))) (code := Rc.code Tryz.f57 6 (constI)) (by kernel_rfl) ?_
   refine jq7 (V := .func (.func (fnK kd)) #[pt z.b] #[]) (W := .int .i64 (p.its.length : Int)) (xi := 6) (ki := 7) (m := 7) C ⟨by omega, by omega⟩ _ (by kernel_rfl) (by repeat' constructor) s2 (by have : (constI).len = 4 := rfl; omega) (by have : (constI).len = 4 := rfl; show 0 + (constI).len ≤ _; omega) (by omega) ⟨?_, ?_, ?_, ?_⟩ ?_
   · simp +decide only [↓G.o, reduceIte]
   · simp +decide only [↓G.o, reduceIte]
   · simp +decide only [↓G.o, reduceIte]
   · simp +decide only [↓G.o, reduceIte]
   unfold itemP Rc.rd at hk
   rw [hs] at hk
   cases h : (constI).run y (beginP z.s 1 p) (it0 1 p.at_) with
   | er er =>
     rw [h] at hk
     intro i E' H' f
     simp +decide only [↓GI.o]
     exact hk i H' f
   | ok v p3 =>
     rw [h] at hk
     have hf := Rc.nort (constI) rfl h
     intro E' H' L' fa s3 g3 o3 _
     rw [hf, cond_false]
     obtain ⟨nv3, fv3, tv3, ov3, ev3, kv3, lv3, li⟩ := s3.li
     simp +decide only [zf57.o, ↓GI.o, reduceIte, fa.e0, fa.ex, fa.ek, li.blk, tyT]
     refine s3.fin_w li (i := p.its.length) (by have := g3.its; rw [bi] at this; simp at this; omega) fun H4 f4 x4 => ?_
     simp +decide only [zf57.o, ↓GI.o, reduceIte]
     exact hk H4 _ f4 (x4.mono (by have : (constI).len = 4 := rfl; omega)) ⟨Nat.le_trans bg.le g3.le, by have := (bg.trans g3).its; simpa [setIt] using this, by have := (bg.trans g3).its'; simpa [setIt] using this, (bg.trans g3).nds'⟩ (by have := g3.le; show p.at_ < p3.at_; omega) (o3.trans bo) rfl
 simp +decide only [zf57.o, ↓GI.o, reduceIte, show (p.k.kind == 31) = false by simpa using h0]
 refine fr1.in (jg9 x1 (by omega) 36 fun G2 f2 x2 => ?_)
 have fr2 := fr1.call f2
 by_cases h1 : p.k.kind = 36
 · have hk := hk (itemP y 4 (assertI) p) (by simp [h1])
   have lt := x.tok (by omega)
   obtain ⟨bg, blt, bo, blv, bi⟩ := jf3 x.sz lv lt 4
   have hb := g 12
   have hc := g 13
   simp +decide only [↓dG.o] at hb hc
   simp +decide only [hb, ↓GI.o, reduceIte, show (p.k.kind == 36) = true by simpa using h1]
   refine fr2.in (jh4 x2 lv (by omega) 4 fun H2 f2 x2 => ?_)
   have fr2 := fr2.call f2
   have x2 : Rd z T H2 (beginP z.s 4 p) 0 := x2
   obtain ⟨f, t, bad, wv, nm, nu, iv, nv, q, cs, e1, e2, e3, e4, e5, e6, e7, e8, e9⟩ := jf4 fr2 x2 bi
   have est := jb4 (P := PP) (t := 40) (H := H2.plus [(H.next, ⟨itC 0 0, true, 1, none⟩)]) (q := H.next) (off := 0) (cs := itC 0 0) (vs := itC 4 p.at_) (by rw [ja2, ja5]; rfl) tyT.2.2 rfl (by simp) rfl
   simp +decide only [hc, ↓GI.o, reduceIte, e1, e2, e3, e4, e5, e6, e7, tyT]
   rw [est]
   simp +decide only [↓GI.o]
   have s2 : St z T H H2 [(H.next, ⟨itC 4 p.at_, true, 1, none⟩)] (beginP z.s 4 p) 0 H.next (it0 4 p.at_) := St.new (fr2.as (by rfl)) x2 blv (ja5 _ _ _)
   refine ju3 (rest := .region 15 #[] false) (code := Rc.code Tryz.f57 6 (assertI)) (by kernel_rfl) ?_
   refine jq7 (V := .func (.func (fnK kd)) #[pt z.b] #[]) (W := .int .i64 (p.its.length : Int)) (xi := 6) (ki := 7) (m := 7) C ⟨by omega, by omega⟩ _ (by kernel_rfl) (by repeat' constructor) s2 (by have : (assertI).len = 2 := rfl; omega) (by have : (assertI).len = 2 := rfl; show 0 + (assertI).len ≤ _; omega) (by omega) ⟨?_, ?_, ?_, ?_⟩ ?_
   · simp +decide only [↓G.o, reduceIte]
   · simp +decide only [↓G.o, reduceIte]
   · simp +decide only [↓G.o, reduceIte]
   · simp +decide only [↓G.o, reduceIte]
   unfold itemP Rc.rd at hk
   rw [hs] at hk
   cases h : (assertI).run y (beginP z.s 4 p) (it0 4 p.at_) with
   | er er =>
     rw [h] at hk
     intro i E' H' f
     simp +decide only [↓GI.o]
     exact hk i H' f
   | ok v p3 =>
     rw [h] at hk
     have hf := Rc.nort (assertI) rfl h
     intro E' H' L' fa s3 g3 o3 _
     rw [hf, cond_false]
     obtain ⟨nv3, fv3, tv3, ov3, ev3, kv3, lv3, li⟩ := s3.li
     simp +decide only [zf57.o, ↓GI.o, reduceIte, fa.e0, fa.ex, fa.ek, li.blk, tyT]
     refine s3.fin_w li (i := p.its.length) (by have := g3.its; rw [bi] at this; simp at this; omega) fun H4 f4 x4 => ?_
     simp +decide only [zf57.o, ↓GI.o, reduceIte]
     exact hk H4 _ f4 (x4.mono (by have : (assertI).len = 2 := rfl; omega)) ⟨Nat.le_trans bg.le g3.le, by have := (bg.trans g3).its; simpa [setIt] using this, by have := (bg.trans g3).its'; simpa [setIt] using this, (bg.trans g3).nds'⟩ (by have := g3.le; show p.at_ < p3.at_; omega) (o3.trans bo) rfl
 simp +decide only [zf57.o, ↓GI.o, reduceIte, show (p.k.kind == 36) = false by simpa using h1]
 refine fr2.in (jg9 x2 (by omega) 32 fun G3 f3 x3 => ?_)
 have fr3 := fr2.call f3
 by_cases h2 : p.k.kind = 32
 · have hk := hk (itemP y 2 (eachI kd) p) (by simp [h2])
   have lt := x.tok (by omega)
   obtain ⟨bg, blt, bo, blv, bi⟩ := jf3 x.sz lv lt 2
   have hb := g 17
   have hc := g 18
   simp +decide only [↓dG.o] at hb hc
   simp +decide only [hb, ↓GI.o, reduceIte, show (p.k.kind == 32) = true by simpa using h2]
   refine fr3.in (jh4 x3 lv (by omega) 2 fun H2 f2 x2 => ?_)
   have fr2 := fr3.call f2
   have x2 : Rd z T H2 (beginP z.s 2 p) 0 := x2
   obtain ⟨f, t, bad, wv, nm, nu, iv, nv, q, cs, e1, e2, e3, e4, e5, e6, e7, e8, e9⟩ := jf4 fr2 x2 bi
   have est := jb4 (P := PP) (t := 40) (H := H2.plus [(H.next, ⟨itC 0 0, true, 1, none⟩)]) (q := H.next) (off := 0) (cs := itC 0 0) (vs := itC 2 p.at_) (by rw [ja2, ja5]; rfl) tyT.2.2 rfl (by simp) rfl
   simp +decide only [hc, ↓GI.o, reduceIte, e1, e2, e3, e4, e5, e6, e7, tyT]
   rw [est]
   simp +decide only [↓GI.o]
   have s2 : St z T H H2 [(H.next, ⟨itC 2 p.at_, true, 1, none⟩)] (beginP z.s 2 p) 0 H.next (it0 2 p.at_) := St.new (fr2.as (by rfl)) x2 blv (ja5 _ _ _)
   refine ju3 (rest := .seq (.region 20 #[] false) (.seq (.region 21 #[] true) (.seq (.region 22 #[] false) (.seq (.region 23 #[] true) (.region 24 #[] false))))) (code := Rc.code Tryz.f57 6 (eachI kd)) (by kernel_rfl) ?_
   refine jq7 (V := .func (.func (fnK kd)) #[pt z.b] #[]) (W := .int .i64 (p.its.length : Int)) (xi := 6) (ki := 7) (m := 7) C ⟨by omega, by omega⟩ _ (by kernel_rfl) (by repeat' constructor) s2 (by have : (eachI kd).len = 6 := rfl; omega) (by have : (eachI kd).len = 6 := rfl; show 0 + (eachI kd).len ≤ _; omega) (by omega) ⟨?_, ?_, ?_, ?_⟩ ?_
   · simp +decide only [↓G.o, reduceIte]
   · simp +decide only [↓G.o, reduceIte]
   · simp +decide only [↓G.o, reduceIte]
   · simp +decide only [↓G.o, reduceIte]
   unfold itemP Rc.rd at hk
   rw [hs] at hk
   cases h : (eachI kd).run y (beginP z.s 2 p) (it0 2 p.at_) with
   | er er =>
     rw [h] at hk
     intro i E' H' f
     simp +decide only [↓GI.o]
     exact hk i H' f
   | ok v p3 =>
     rw [h] at hk
     have hf := Rc.nort (eachI kd) rfl h
     intro E' H' L' fa s3 g3 o3 _
     rw [hf, cond_false]
     obtain ⟨nv3, fv3, tv3, ov3, ev3, kv3, lv3, li⟩ := s3.li
     simp +decide only [zf57.o, ↓GI.o, reduceIte, fa.e0, fa.ex, fa.ek, li.blk, tyT]
     refine s3.fin_w li (i := p.its.length) (by have := g3.its; rw [bi] at this; simp at this; omega) fun H4 f4 x4 => ?_
     simp +decide only [zf57.o, ↓GI.o, reduceIte]
     exact hk H4 _ f4 (x4.mono (by have : (eachI kd).len = 6 := rfl; omega)) ⟨Nat.le_trans bg.le g3.le, by have := (bg.trans g3).its; simpa [setIt] using this, by have := (bg.trans g3).its'; simpa [setIt] using this, (bg.trans g3).nds'⟩ (by have := g3.le; show p.at_ < p3.at_; omega) (o3.trans bo) rfl
 simp +decide only [zf57.o, ↓GI.o, reduceIte, show (p.k.kind == 32) = false by simpa using h2]
 refine fr3.in (jg9 x3 (by omega) 34 fun G4 f4 x4 => ?_)
 have fr4 := fr3.call f4
 by_cases h3 : p.k.kind = 34
 · have hk := hk (itemP y 3 (ifI kd) p) (by simp [h3])
   have lt := x.tok (by omega)
   obtain ⟨bg, blt, bo, blv, bi⟩ := jf3 x.sz lv lt 3
   have hb := g 26
   have hc := g 27
   simp +decide only [↓dG.o] at hb hc
   simp +decide only [hb, ↓GI.o, reduceIte, show (p.k.kind == 34) = true by simpa using h3]
   refine fr4.in (jh4 x4 lv (by omega) 3 fun H2 f2 x2 => ?_)
   have fr2 := fr4.call f2
   have x2 : Rd z T H2 (beginP z.s 3 p) 0 := x2
   obtain ⟨f, t, bad, wv, nm, nu, iv, nv, q, cs, e1, e2, e3, e4, e5, e6, e7, e8, e9⟩ := jf4 fr2 x2 bi
   have est := jb4 (P := PP) (t := 40) (H := H2.plus [(H.next, ⟨itC 0 0, true, 1, none⟩)]) (q := H.next) (off := 0) (cs := itC 0 0) (vs := itC 3 p.at_) (by rw [ja2, ja5]; rfl) tyT.2.2 rfl (by simp) rfl
   simp +decide only [hc, ↓GI.o, reduceIte, e1, e2, e3, e4, e5, e6, e7, tyT]
   rw [est]
   simp +decide only [↓GI.o]
   have s2 : St z T H H2 [(H.next, ⟨itC 3 p.at_, true, 1, none⟩)] (beginP z.s 3 p) 0 H.next (it0 3 p.at_) := St.new (fr2.as (by rfl)) x2 blv (ja5 _ _ _)
   refine ju3 (rest := .seq (.region 29 #[] false) (.seq (.region 30 #[] false) (.cond (.tmp 111) (.seq (.region 31 #[] false) (.region 32 #[] false)) .skip))) (code := Rc.code Tryz.f57 6 (ifI kd)) (by kernel_rfl) ?_
   refine jq7 (V := .func (.func (fnK kd)) #[pt z.b] #[]) (W := .int .i64 (p.its.length : Int)) (xi := 6) (ki := 7) (m := 7) C ⟨by omega, by omega⟩ _ (by kernel_rfl) (by repeat' constructor) s2 (by have : (ifI kd).len = 5 := rfl; omega) (by have : (ifI kd).len = 5 := rfl; show 0 + (ifI kd).len ≤ _; omega) (by omega) ⟨?_, ?_, ?_, ?_⟩ ?_
   · simp +decide only [↓G.o, reduceIte]
   · simp +decide only [↓G.o, reduceIte]
   · simp +decide only [↓G.o, reduceIte]
   · simp +decide only [↓G.o, reduceIte]
   unfold itemP Rc.rd at hk
   rw [hs] at hk
   cases h : (ifI kd).run y (beginP z.s 3 p) (it0 3 p.at_) with
   | er er =>
     rw [h] at hk
     intro i E' H' f
     simp +decide only [↓GI.o]
     exact hk i H' f
   | ok v p3 =>
     rw [h] at hk
     have hf := Rc.nort (ifI kd) rfl h
     intro E' H' L' fa s3 g3 o3 _
     rw [hf, cond_false]
     obtain ⟨nv3, fv3, tv3, ov3, ev3, kv3, lv3, li⟩ := s3.li
     simp +decide only [zf57.o, ↓GI.o, reduceIte, fa.e0, fa.ex, fa.ek, li.blk, tyT]
     refine s3.fin_w li (i := p.its.length) (by have := g3.its; rw [bi] at this; simp at this; omega) fun H4 f4 x4 => ?_
     simp +decide only [zf57.o, ↓GI.o, reduceIte]
     exact hk H4 _ f4 (x4.mono (by have : (ifI kd).len = 5 := rfl; omega)) ⟨Nat.le_trans bg.le g3.le, by have := (bg.trans g3).its; simpa [setIt] using this, by have := (bg.trans g3).its'; simpa [setIt] using this, (bg.trans g3).nds'⟩ (by have := g3.le; show p.at_ < p3.at_; omega) (o3.trans bo) rfl
 simp +decide only [zf57.o, ↓GI.o, reduceIte, show (p.k.kind == 34) = false by simpa using h3]
 exact hn (by simp [h0, h1, h2, h3]) _ fr4.out (x4.hle fr4.hle)
end
theorem yk6 (y : Pz) (p : PS) (it : It) : useR.rd y p it = (wordP y.s p).bind fun f p => (openP y.s 8 p).bind fun _ p => (argL y y.m p { it with name := f }).bind fun it p => (shutP y.s 9 p).bind fun _ p => (mustP y.s 10 p).bind fun _ p => .ok it p := by
 simp only [Rc.rd, useR, Rc.run, Sp.run, jc6, Ou.bind_ok, Fd.set, cond_false]
section
variable {z : Cx} {T : Tc} {y : Pz} {n M : Nat} {H0 H : Heap} {L : List (Nat × Blk)} {p : PS} {w q : Nat} {it : It} {k : KV} {kp : KP}
theorem ys4 (C : Cz z T y n M) (s : St z T H0 H L p w q it) (hw : w < 2 ^ 13) (hl : it.e = []) (hk : AnI z T H0 q p (2 ^ 14) k kp (useR.rd y p it)) : callW PP 74 #[pt z.b, pt q] (H.plus L) k kp := by
 have sh := s.rd.base.short
 refine run 2 rfl Tryz.func74 (pr := fun i => if i = 3 then [(4, 6), (4, 7)] else []) (by decide +kernel) (by kernel_rfl) ?_
 rw [yk6, C.s] at hk
 simp +decide only [zf74.o, ↓GI.o, reduceIte]
 refine s.fr.in (je7 s.rd (by omega) ?_)
 cases h : wordP z.s p with
 | er er =>
   rw [h] at hk
   intro i H1 f1
   simp +decide only [↓GI.o]
   exact hk i _ (s.fr.call f1).out
 | ok f1 p1 =>
   rw [h, Ou.bind_ok] at hk
   have hix : f1.index = [] := by
     unfold wordP at h
     split at h <;> cases h; rfl
   rintro H1 _ fl x1 g1 o1 rfl
   have s1 := s.call fl x1 g1
   obtain ⟨nv, fv, tv, ov, ev, kv, lv, li⟩ := s1.li
   simp +decide only [zf74.o, ↓GI.o, reduceIte, li.blk]
   have s2 : St z T H0 H1 (upL q (itB { it with name := f1 } (.slice none 0 0) fv tv ov (.slice none 0 0) ev kv lv) L) p1 0 q { it with name := f1 } := ⟨s1.fr.up _ _, s1.rd, s1.lv, _, fv, tv, ov, ev, kv, lv, li.put rfl rfl rfl (by show Vd _ (rowD f1.index) _; rw [hix]; exact .z 1) li.f li.t li.o li.k li.l⟩
   clear li s1
   refine s2.fr.in (jy2 s2.rd (by omega) 8 ?_)
   have sz1 := x1.sz
   have tk1 := x1.tok
   cases hop : openP z.s 8 p1 with
   | er er =>
     rw [hop] at hk
     intro i H2 f2
     simp +decide only [↓GI.o]
     exact hk i _ (s2.fr.call f2).out
   | ok u p2 =>
     rw [hop, Ou.bind_ok] at hk
     rintro H2 _ f2 x2 g2 o2 rfl
     simp +decide only [↓GI.o]
     have s3 := s2.call f2 x2 g2
     have g12 := g1.trans g2
     have hm : z.s.length < p2.at_ + y.m := by have := C.m; omega
     generalize hR : argL y y.m p2 { it with name := f1 } = R at hk
     refine joinO (Q := fun k => loopW _ _ _ _ (leaveW 0 k)) (fun o E ds G => (o = .norm ∧ ds = [] ∧ E 0 = pt z.b ∧ ∃ x' p' H' L' w', R = .ok x' p' ∧ G = H'.plus L' ∧ St z T H0 H' L' p' w' q x' ∧ w' ≤ 2 ^ 13 ∧ Go p p' ∧ p'.opened = p.opened + 1) ∨ ∃ i er H', o = .pan [haltE i (Er.code er)] ∧ ds = [] ∧ R = .er er ∧ Fle H0 H' ∧ G = H') (fun Z hZ => ?_) ?_
     · refine ja6 (I := fun m E ds G => ds = [] ∧ E 0 = pt z.b ∧ E 1 = pt q ∧ ∃ x' p' H' L' w', G = H'.plus L' ∧ St z T H0 H' L' p' w' q x' ∧ w' ≤ 1 ∧ Go p p' ∧ p'.opened = p.opened + 1 ∧ z.s.length < p'.at_ + m ∧ x'.e.length ≤ p'.at_ ∧ argL y m p' x' = R) (i := y.m) ?_ ⟨rfl, ?_, ?_, { it with name := f1 }, p2, H2, _, 0, rfl, s3, by omega, g12, by omega, hm, by show it.e.length ≤ _; rw [hl]; exact Nat.zero_le _, hR⟩
       · clear s2 s3 f2 x2 g2 o2 hop g12 sz1 tk1 fl x1 g1 o1 h hix hm hR
         rintro L' m E _ _ ⟨rfl, e0, e1, x', p', H', L, w', rfl, s', hw', g', o', hm, hle, hR⟩ hL
         have hq1 := s'.rd.sz.2.2.2.1
         have hq2 := s'.rd.sz.2.2.2.2
         obtain ⟨m, rfl⟩ : ∃ m', m = m' + 1 := ⟨m - 1, by omega⟩
         rw [jt6]
         refine joinO (Q := fun k => exU PP _ Tryz.f74 _ none _ _ _ k) (fun o E ds G => ds = [] ∧ E 0 = pt z.b ∧ E 1 = pt q ∧ ∃ H3, G = H3.plus L ∧ St z T H0 H3 L p' 2 q x' ∧ ((o = .norm ∧ ¬ (p'.k.kind = 9 ∧ x'.e = [])) ∨ (o = .exit 0 ∧ p'.k.kind = 9 ∧ x'.e = []))) (fun Y hY => ?_) ?_
         · simp +decide only [zf74.o, ↓GI.o, reduceIte, e0]
           refine s'.fr.in (jg9 s'.rd (by omega) 9 fun H3 f3 x3 => ?_)
           have s3 := (s'.call f3 x3 (.refl _)).mono (show w' + 1 ≤ 2 by omega)
           obtain ⟨nv, fv, tv, ov, ev, kv, lv, li⟩ := s3.li
           obtain ⟨se, a, rfl⟩ := li.e.sc
           by_cases h9 : p'.k.kind = 9
           · by_cases he : x'.e = []
             · have hz : x'.e.length = 0 := by rw [he]; rfl
               simp +decide only [zf74.o, ↓GI.o, reduceIte, e1, show (p'.k.kind == 9) = true by simpa using h9, li.blk, hz]
               refine hY _ _ _ _ ⟨rfl, ?_, ?_, H3, rfl, s3, .inr ⟨rfl, h9, he⟩⟩ <;> simp +decide only [↓G.o, reduceIte, e0, e1]
             · have hz : 0 < x'.e.length := List.length_pos_iff.2 he
               have hz' : (x'.e.length : Int) > 0 := by omega
               simp +decide only [zf74.o, ↓GI.o, reduceIte, e1, show (p'.k.kind == 9) = true by simpa using h9, li.blk, hz']
               refine hY _ _ _ _ ⟨rfl, ?_, ?_, H3, rfl, s3, .inl ⟨rfl, fun c => he c.2⟩⟩ <;> simp +decide only [↓G.o, reduceIte, e0, e1]
           · simp +decide only [zf74.o, ↓GI.o, reduceIte, show (p'.k.kind == 9) = false by simpa using h9, Bool.not_false]
             refine hY _ _ _ _ ⟨rfl, ?_, ?_, H3, rfl, s3, .inl ⟨rfl, fun c => h9 c.1⟩⟩ <;> simp +decide only [↓G.o, reduceIte, e0, e1]
         clear e0 e1
         rintro o E _ _ ⟨rfl, e0, e1, H3, rfl, s3, ⟨rfl, hc⟩ | ⟨rfl, hc⟩⟩
         · unfold argL at hR
           rw [if_neg hc] at hR
           obtain ⟨nv, fv, tv, ov, ev, kv, lv, li⟩ := s3.li
           obtain ⟨se, a, rfl⟩ := li.e.sc
           simp +decide only [zf74.o, ↓GI.o, reduceIte, e0, e1, li.blk]
           refine s3.fr.in (exprN n (ab := 0) s3.rd (by omega) s3.lv (by have := C.n; omega) (by omega) ?_)
           unfold exE at hR
           rw [C.ex, C.s] at hR
           cases hx : exprP z.s n 0 p' with
           | er er =>
             rw [hx] at hR
             intro i H4 f4
             simp +decide only [↓GI.o]
             exact ⟨by decide +kernel, hZ _ _ _ _ (.inr ⟨i, er, _, rfl, rfl, hR.symm, (s3.fr.call f4).out, rfl⟩)⟩
           | ok v p4 =>
             rw [hx, Ou.bind_ok, Ou.bind_ok] at hR
             rintro H4 _ f4 x4 g4 o4 rfl
             have s4 := s3.call f4 x4 g4
             obtain ⟨nv', fv', tv', ov', ev', kv', lv', a', e2, L2, li', rfl, se', ea, lq, s5⟩ := s4.push (by omega) v
             have := li'.blk
             rw [li.blk] at this
             cases this
             have lt := (s4.fr.keys _ _ li.blk).2.1
             simp +decide only [zf74.o, ↓GI.o, reduceIte, e0, ea, lq, se', jc7 lt, li.blk]
             have ng := jd3 s5.rd.sz
             refine s5.fr.in (j1o s5.rd (by omega) 11 (fun h11 H6 f6 x6 => ?_) fun h11 H6 f6 x6 => ?_)
             · unfold takeP at hR
               rw [if_pos h11, Ou.bind_ok, if_pos rfl] at hR
               simp +decide only [↓GI.o, reduceIte]
               have lt4 := x4.tok (by omega)
               have ga := g4.le
               refine hL m _ _ _ (Nat.lt_succ_self m) ⟨rfl, ?_, ?_, _, _, H6, _, 0, rfl, s5.call f6 x6 ng.1, by omega, g'.trans (g4.trans ng.1), by rw [ng.2.2.1]; omega, by have := ng.2.1; omega, by have := ng.2.1; simp; omega, hR⟩
               all_goals simp +decide only [↓G.o, reduceIte, e0, e1]
             · unfold takeP at hR
               rw [if_neg h11, Ou.bind_ok, if_neg (by decide)] at hR
               simp +decide only [↓GI.o, reduceIte, Bool.not_false]
               refine hZ _ _ _ _ (.inl ⟨rfl, rfl, ?_, _, _, H6, _, _, hR.symm, rfl, s5.call f6 x6 (.refl _), by omega, g'.trans g4, by omega⟩)
               simp +decide only [↓G.o, reduceIte, e0]
         · unfold argL at hR
           rw [if_pos hc] at hR
           simp +decide only [↓GI.o]
           exact hZ _ _ _ _ (.inl ⟨rfl, rfl, e0, _, _, H3, _, _, hR.symm, rfl, s3, by omega, g', o'⟩)
       all_goals simp +decide only [↓G.o, reduceIte]
     rintro o E _ _ (⟨rfl, rfl, e0, x', p', H', L', w', rfl, rfl, s', hw', g', o'⟩ | ⟨i, er, H', rfl, rfl, rfl, f', rfl⟩)
     · simp +decide only [zf74.o, ↓GI.o, reduceIte, e0]
       refine s'.fr.in (jy3 s'.rd (by omega) (by omega) 9 ?_)
       rw [Ou.bind_ok] at hk
       cases hs9 : shutP z.s 9 p' with
       | er er =>
         rw [hs9] at hk
         intro i H5 f5
         simp +decide only [↓GI.o]
         exact hk i _ (s'.fr.call f5).out
       | ok u p5 =>
         rw [hs9, Ou.bind_ok] at hk
         rintro H5 _ f5 x5 g5 o5 rfl
         simp +decide only [zf74.o, ↓GI.o, reduceIte, e0]
         have s5 := s'.call f5 x5 g5
         refine s5.fr.in (jo1 s5.rd (by omega) 10 ?_)
         cases hs10 : mustP z.s 10 p5 with
         | er er =>
           rw [hs10] at hk
           intro i H6 f6
           simp +decide only [↓GI.o]
           exact hk i _ (s5.fr.call f6).out
         | ok u p6 =>
           rw [hs10, Ou.bind_ok] at hk
           rintro H6 _ f6 x6 g6 o6 rfl
           simp +decide only [zf74.o, ↓GI.o]
           exact hk H6 _ ((s5.call f6 x6 g6).mono (by omega)) (g'.trans (g5.trans g6)) (by omega)
     · simp +decide only [↓GI.o]
       exact hk i _ f'
end
theorem j66 (y : Pz) (p : PS) (it : It) : groupR.rd y p it = (wordP y.s p).bind fun f p => (openP y.s 8 p).bind fun _ p => (parL y y.m p { it with name := f }).bind fun it p => (shutP y.s 9 p).bind fun _ p => (blockP y.s (y.ru 0) y.m p).bind fun l p => .ok { it with kids := l } p := by
 simp only [Rc.rd, groupR, Rc.run, Sp.run, jc6, Ou.bind_ok, Fd.set, cond_false]
def parC (l : List Rf) : List Value := l.flatMap fun f => [.string f.word, .int .i64 (f.at_ : Int), .slice none 0 0]
theorem j4r (H : Heap) : ∀ l : List Rf, (∀ g ∈ l, g.index = []) → Vds H (l.flatMap Rf.dv) (parC l)
 | [], _ => .nil H
 | f :: l, h => by
   have hf := h f (by simp)
   have : Vds H f.dv [.string f.word, .int .i64 (f.at_ : Int), .slice none 0 0] := .cons (.p _) (.cons (.p _) (.cons (by rw [hf]; exact .z 1) (.nil H)))
   exact this.append (j4r H l fun g hg => h g (by simp [hg]))
theorem infoRf : (PP.info? 24).map (fun i => (i.size, i.bytes)) = some (3, 48) := by kernel_rfl
theorem yk7 (H : Heap) (w : ByteArray) (i : Int) : buildSliceA PP 38 1 #[(0, .agg #[.string w, .int .i64 i, .slice none 0 0])] H = some (.slice (some ⟨H.next, 0, none⟩) 1 1, H.alloc 3 [.string w, .int .i64 i, .slice none 0 0]) := by kernel_rfl
theorem yk8 {H0 H : Heap} {L : List (Nat × Blk)} (f : Fr H0 H L) {v : Value} {l : List Rf} (r : LRow L 3 v l.length (parC l)) (hn : l.length ≤ 2 ^ 21) (g : Rf) :
   ∃ v' L', appendA PP #[38, 38] v (.slice (some ⟨H.next, 0, none⟩) 1 1) ((H.to (H.next + 1)).plus ((H.next, ⟨[.string g.word, .int .i64 (g.at_ : Int), .slice none 0 0], true, 3, none⟩) :: L)) = some (v', (H.to (H.next + 1 + 1)).plus L') ∧ Fr H0 (H.to (H.next + 1 + 1)) L' ∧ LRow L' 3 v' (l ++ [g]).length (parC (l ++ [g])) ∧ blkOf v' = some (H.next + 1) ∧ ∀ q, blkOf v ≠ some q → q < H.next → L'.lookup q = L.lookup q := by
 obtain ⟨v', L', e1, e2, e3, e4, e5⟩ := j8n f r (bytes := 48) (news := [.string g.word, .int .i64 (g.at_ : Int), .slice none 0 0]) (by simp) rfl rfl (by decide) hn ⟨[.string g.word, .int .i64 (g.at_ : Int), .slice none 0 0], true, 3, none⟩
 refine ⟨v', L', ?_, e2, by simpa [parC] using e3, e4, e5⟩
 rw [← e1]
 refine je8 Tryz.underlying38 infoRf zrR rfl (by decide) ?_ rfl v
 rw [ja2, ja5]; rfl
theorem tyP : lk PP 38 = 1 ∧ sizeT PP 38 = some 1 := by decide +kernel
structure LG (L : List (Nat × Blk)) (q i : Nat) (f : Rf) (l : List Rf) (pv : Value) : Prop where
 blk : L.lookup q = some (itB { it0 5 i with name := f } (.slice none 0 0) (.slice none 0 0) (.slice none 0 0) (.slice none 0 0) pv (.slice none 0 0) (.slice none 0 0) (.slice none 0 0))
 r : LRow L 3 pv l.length (parC l)
 ne : blkOf pv ≠ some q
 fi : f.index = []
 li : ∀ g ∈ l, g.index = []
section
variable {z : Cx} {T : Tc} {y : Pz} {n M : Nat} {H : Heap} {p : PS} {w : Nat} {k : KV} {kp : KP}
set_option maxHeartbeats 1000000 in
theorem ya3 (C : Cz z T y n M) (x : Rd z T H p w) (lv : Lv p) (hw : w < 2 ^ 17) (hM : z.s.length < p.at_ + M + 1) (hkd : p.k.kind = 37) (hk : AnS z T H p p.opened (2 ^ 13) vN k kp (itemP y 5 groupR p)) :
   callW PP 40 #[pt z.b] H k kp := by
 have sh := x.base.short
 show callW PP 40 _ (H.plus []) k kp
 refine run 1 rfl Tryz.func40 (pr := fun i => if i = 6 then [(1, 3), (1, 4)] else []) (by decide +kernel) (by kernel_rfl) ?_
 unfold itemP at hk
 rw [j66, C.s] at hk
 have lt := x.tok (by omega)
 obtain ⟨bg, blt, bo, blv, bi⟩ := jf3 x.sz lv lt 5
 simp +decide only [zf40.o, ↓GI.o, reduceIte]
 have f0 := Fr.start x.fresh
 refine f0.in (jh4 x lv (by omega) 5 fun H2 f2 x2 => ?_)
 have fr2 := f0.call f2
 have x2 : Rd z T H2 (beginP z.s 5 p) 0 := x2
 obtain ⟨f, t, bad, wv, nm, nu, iv, nv, q, cs, e1, e2, e3, e4, e5, e6, e7, e8, e9⟩ := jf4 fr2 x2 bi
 have est := jb4 (P := PP) (t := 40) (H := (H2.to (H2.next + 1)).plus [(H2.next, ⟨itC 0 0, true, 1, none⟩)]) (q := H2.next) (off := 0) (cs := itC 0 0) (vs := itC 5 p.at_) (by rw [ja2, ja5]; rfl) tyT.2.2 rfl (by simp) rfl
 simp +decide only [zf40.o, ↓GI.o, reduceIte, e1, e2, e3, e4, e5, tyT, je5 zrItem]
 rw [est]
 simp +decide only [zf40.o, ↓GI.o, reduceIte]
 have fr3 : Fr H (H2.to (H2.next + 1)) [(H2.next, ⟨itC 5 p.at_, true, 1, none⟩)] := fr2.new _
 have x3 : Rd z T (H2.to (H2.next + 1)) (beginP z.s 5 p) 0 := x2.to (by omega)
 refine fr3.in (je7 x3 (by omega) ?_)
 generalize hb : beginP z.s 5 p = pb at *
 clear est e1 e2 e3 e4 e5 e6 e7 e8 e9
 cases h : wordP z.s pb with
 | er er =>
   rw [h] at hk
   intro i H1 f1
   simp +decide only [↓GI.o]
   exact hk i _ (fr3.call f1).out
 | ok f1 p1 =>
   rw [h, Ou.bind_ok] at hk
   have hix : f1.index = [] := by
     unfold wordP at h
     split at h <;> cases h; rfl
   rintro H4 _ f4 x4 g4 o4 rfl
   have fr4 := fr3.call f4
   simp +decide only [zf40.o, ↓GI.o, reduceIte]
   have fr5 : Fr H H4 [(H2.next, itB { it0 5 p.at_ with name := f1 } (.slice none 0 0) (.slice none 0 0) (.slice none 0 0) (.slice none 0 0) (.slice none 0 0) (.slice none 0 0) (.slice none 0 0) (.slice none 0 0))] := fr4.as (by rfl)
   refine fr5.in (jy2 x4 (by omega) 8 ?_)
   have sz4 := x4.sz
   have tk4 := x4.tok
   cases hop : openP z.s 8 p1 with
   | er er =>
     rw [hop] at hk
     intro i H2 f2
     simp +decide only [↓GI.o]
     exact hk i _ (fr5.call f2).out
   | ok u p2 =>
     rw [hop, Ou.bind_ok] at hk
     rintro H5 _ f5 x5 g5 o5 rfl
     simp +decide only [↓GI.o]
     have lg : LG [(H2.next, itB { it0 5 p.at_ with name := f1 } (.slice none 0 0) (.slice none 0 0) (.slice none 0 0) (.slice none 0 0) (.slice none 0 0) (.slice none 0 0) (.slice none 0 0) (.slice none 0 0))] H2.next p.at_ f1 [] (.slice none 0 0) := ⟨ja5 _ _ _, .inl ⟨rfl, rfl, rfl⟩, by simp [blkOf], hix, by simp⟩
     have fr6 := fr5.call f5
     have hm : z.s.length < p2.at_ + y.m := by have := C.m; omega
     have lv2 : Lv p2 := g5.lv (g4.lv blv)
     have g45 := g4.trans g5
     generalize hR : parL y y.m p2 { it0 5 p.at_ with name := f1 } = R at hk
     refine joinO (Q := fun k => loopW _ _ _ _ (leaveW 0 k)) (fun o E ds G => (o = .norm ∧ ds = [] ∧ E 0 = pt z.b ∧ E 3 = .int .i64 (p.its.length : Int) ∧ E 4 = pt H2.next ∧ ∃ l p' H' L pv w', R = .ok { it0 5 p.at_ with name := f1, params := l } p' ∧ G = H'.plus L ∧ Fr H H' L ∧ Rd z T H' p' w' ∧ Lv p' ∧ LG L H2.next p.at_ f1 l pv ∧ w' ≤ 2 ^ 12 ∧ Go pb p' ∧ p'.opened = p.opened + 1) ∨ ∃ i er H', o = .pan [haltE i (Er.code er)] ∧ ds = [] ∧ R = .er er ∧ Fle H H' ∧ G = H') (fun Z hZ => ?_) ?_
     · refine ja6 (I := fun m E ds G => ds = [] ∧ E 0 = pt z.b ∧ E 3 = .int .i64 (p.its.length : Int) ∧ E 4 = pt H2.next ∧ ∃ l p' H' L pv w', G = H'.plus L ∧ Fr H H' L ∧ Rd z T H' p' w' ∧ Lv p' ∧ LG L H2.next p.at_ f1 l pv ∧ w' ≤ 1 ∧ Go pb p' ∧ p'.opened = p.opened + 1 ∧ z.s.length < p'.at_ + m ∧ l.length ≤ p'.at_ ∧ parL y m p' { it0 5 p.at_ with name := f1, params := l } = R) (i := y.m) ?_ ⟨rfl, ?_, ?_, ?_, [], p2, H5, _, _, 0, rfl, fr6, x5, lv2, lg, by omega, g45, by omega, hm, Nat.zero_le _, hR⟩
       · clear fr6 fr5 lg f5 x5 g5 o5 hop sz4 tk4 f4 x4 g4 o4 h hm hR lv2 g45 fr4 fr3
         rintro L' m E _ _ ⟨rfl, e0, e3, e4, l, p', H', L, pv, w', rfl, fr, xr, lv', lg, hw', g', o', hm, hle, hR⟩ hL
         have hq1 := xr.sz.2.2.2.1
         have hq2 := xr.sz.2.2.2.2
         obtain ⟨m, rfl⟩ : ∃ m', m = m' + 1 := ⟨m - 1, by omega⟩
         obtain ⟨se, a, rfl⟩ := lg.r.sc
         rw [jt6]
         refine joinO (Q := fun k => exU PP _ Tryz.f40 _ none _ _ _ k) (fun o E ds G => ds = [] ∧ E 0 = pt z.b ∧ E 3 = .int .i64 (p.its.length : Int) ∧ E 4 = pt H2.next ∧ ∃ H3, G = H3.plus L ∧ Fr H H3 L ∧ Rd z T H3 p' 2 ∧ ((o = .norm ∧ ¬ (p'.k.kind = 9 ∧ l = [])) ∨ (o = .exit 0 ∧ p'.k.kind = 9 ∧ l = []))) (fun Y hY => ?_) ?_
         · simp +decide only [zf40.o, ↓GI.o, reduceIte, e0]
           refine fr.in (jg9 xr (by omega) 9 fun H3 f3 x3 => ?_)
           have fr3 := fr.call f3
           have x3 := x3.mono (show w' + 1 ≤ 2 by omega)
           by_cases h9 : p'.k.kind = 9
           · by_cases he : l = []
             · have hz : l.length = 0 := by rw [he]; rfl
               simp +decide only [zf40.o, ↓GI.o, reduceIte, e4, show (p'.k.kind == 9) = true by simpa using h9, lg.blk, hz, tyP, jd8 Tryz.underlying38]
               refine hY _ _ _ _ ⟨rfl, ?_, ?_, ?_, H3, rfl, fr3, x3, .inr ⟨rfl, h9, he⟩⟩ <;> simp +decide only [↓G.o, reduceIte, e0, e3, e4]
             · have hz : 0 < l.length := List.length_pos_iff.2 he
               have hz' : (l.length : Int) > 0 := by omega
               simp +decide only [zf40.o, ↓GI.o, reduceIte, e4, show (p'.k.kind == 9) = true by simpa using h9, lg.blk, hz', tyP, jd8 Tryz.underlying38]
               refine hY _ _ _ _ ⟨rfl, ?_, ?_, ?_, H3, rfl, fr3, x3, .inl ⟨rfl, fun c => he c.2⟩⟩ <;> simp +decide only [↓G.o, reduceIte, e0, e3, e4]
           · simp +decide only [zf40.o, ↓GI.o, reduceIte, show (p'.k.kind == 9) = false by simpa using h9, Bool.not_false]
             refine hY _ _ _ _ ⟨rfl, ?_, ?_, ?_, H3, rfl, fr3, x3, .inl ⟨rfl, fun c => h9 c.1⟩⟩ <;> simp +decide only [↓G.o, reduceIte, e0, e3, e4]
         clear e0 e3 e4 xr fr
         rintro o E _ _ ⟨rfl, e0, e3, e4, H3, rfl, fr, xr, ⟨rfl, hc⟩ | ⟨rfl, hc⟩⟩
         · unfold parL at hR
           rw [if_neg hc, C.s] at hR
           simp +decide only [zf40.o, ↓GI.o, reduceIte, e0, e4, lg.blk, tyP]
           refine fr.in (je7 xr (by omega) ?_)
           cases hx : wordP z.s p' with
           | er er =>
             rw [hx] at hR
             intro i H4 f4
             simp +decide only [↓GI.o]
             exact ⟨by decide +kernel, hZ _ _ _ _ (.inr ⟨i, er, _, rfl, rfl, hR.symm, (fr.call f4).out, rfl⟩)⟩
           | ok g p4 =>
             rw [hx, Ou.bind_ok] at hR
             have hgi : g.index = [] := by
               unfold wordP at hx
               split at hx <;> cases hx; rfl
             rintro H4 _ f4 x4 g4 o4 rfl
             have fr4 := fr.call f4
             obtain ⟨pv', L2, ea, fr5, lr, b5, k5⟩ := yk8 fr4 lg.r (by omega) g
             have lt := (fr4.keys _ _ lg.blk).2.1
             have lq := (k5 _ lg.ne lt).trans lg.blk
             have nq : blkOf pv' ≠ some H2.next := by rw [b5]; intro e; injection e with e; omega
             simp +decide only [zf40.o, ↓GI.o, reduceIte, e0, e4, yk7, ea, lq, lr.sc.1, jc7 lt, lg.blk, tyP, j1l tyP.2]
             have ng := jd3 x4.sz
             have lg5 : LG (upL H2.next (itB { it0 5 p.at_ with name := f1 } (.slice none 0 0) (.slice none 0 0) (.slice none 0 0) (.slice none 0 0) pv' (.slice none 0 0) (.slice none 0 0) (.slice none 0 0)) L2) H2.next p.at_ f1 (l ++ [g]) pv' := ⟨by rw [ja3, if_pos rfl, lq]; rfl, lr.up nq _, nq, hix, fun g' hg => by rcases List.mem_append.1 hg with h | h; exact lg.li g' h; cases List.mem_singleton.1 h; exact hgi⟩
             have fr6 := fr5.up H2.next (itB { it0 5 p.at_ with name := f1 } (.slice none 0 0) (.slice none 0 0) (.slice none 0 0) (.slice none 0 0) pv' (.slice none 0 0) (.slice none 0 0) (.slice none 0 0))
             refine fr6.in (j1o (x4.to (by omega)) (by omega) 11 (fun h11 H6 f6 x6 => ?_) fun h11 H6 f6 x6 => ?_)
             · unfold takeP at hR
               rw [if_pos h11, Ou.bind_ok, if_pos rfl] at hR
               simp +decide only [↓GI.o, reduceIte]
               have lt4 := x4.tok (by omega)
               have ga := g4.le
               refine hL m _ _ _ (Nat.lt_succ_self m) ⟨rfl, ?_, ?_, ?_, l ++ [g], _, H6, _, pv', 0, rfl, fr6.call f6, x6, ng.1.lv (g4.lv lv'), lg5, by omega, g'.trans (g4.trans ng.1), by rw [ng.2.2.1]; omega, by have := ng.2.1; omega, by have := ng.2.1; simp; omega, hR⟩
               all_goals simp +decide only [↓G.o, reduceIte, e0, e3, e4]
             · unfold takeP at hR
               rw [if_neg h11, Ou.bind_ok, if_neg (by decide)] at hR
               simp +decide only [↓GI.o, reduceIte, Bool.not_false]
               refine hZ _ _ _ _ (.inl ⟨rfl, rfl, ?_, ?_, ?_, l ++ [g], _, H6, _, pv', _, hR.symm, rfl, fr6.call f6, x6, g4.lv lv', lg5, by omega, g'.trans g4, by omega⟩)
               all_goals simp +decide only [↓G.o, reduceIte, e0, e3, e4]
         · unfold parL at hR
           rw [if_pos hc] at hR
           simp +decide only [↓GI.o]
           exact hZ _ _ _ _ (.inl ⟨rfl, rfl, e0, e3, e4, _, _, H3, _, _, _, hR.symm, rfl, fr, xr, lv', lg, by omega, g', o'⟩)
       all_goals simp +decide only [↓G.o, reduceIte]
     rintro o E _ _ (⟨rfl, rfl, e0, e3, e4, l, p', H', L, pv, w', rfl, rfl, fr, xr, lv', lg, hw', g', o'⟩ | ⟨i, er, H', rfl, rfl, rfl, f', rfl⟩)
     · simp +decide only [zf40.o, ↓GI.o, reduceIte, e0]
       refine fr.in (jy3 xr (by omega) (by omega) 9 ?_)
       rw [Ou.bind_ok] at hk
       cases hs9 : shutP z.s 9 p' with
       | er er =>
         rw [hs9] at hk
         intro i H5 f5
         simp +decide only [↓GI.o]
         exact hk i _ (fr.call f5).out
       | ok u p5 =>
         rw [hs9, Ou.bind_ok] at hk
         rintro H5 _ f5 x5 g5 o5 rfl
         have fr5 := fr.call f5
         have g25 := g'.trans g5
         have hg25 := g25.le
         have hCm := C.m
         simp +decide only [zf40.o, ↓GI.o, reduceIte, e0]
         refine fr5.in (ju2 (C.ru 0) x5 (by omega) (m := y.m) (by omega) (by omega) ?_)
         cases hbk : blockP z.s (y.ru 0) y.m p5 with
         | er er =>
           rw [hbk] at hk
           intro i H6 f6
           simp +decide only [↓GI.o]
           exact hk i _ (fr5.call f6).out
         | ok v p6 =>
           rw [hbk, Ou.bind_ok, Ou.bind_ok] at hk
           rintro H6 _ f6 x6 g6 o6 ⟨a, b, c, rfl, hv⟩
           have fr6 := fr5.call f6
           have hbl := lg.blk
           simp +decide only [zf40.o, ↓GI.o, reduceIte, e0, e3, e4, hbl, tyT, ja3, Option.map_some]
           generalize hX : (⟨_, true, 1, none⟩ : Blk) = X
           have fr7 := fr6.up H2.next X
           obtain ⟨ff, gg⟩ := fr7.frz
           have m := ff.hle.frz
           have oc : ∀ {l : List DV} {v : Value}, Vd H6 (.r 1 l) v → Value.oneCell' v = true := fun h => (jd6 h.sc).2
           have p1 := fun v : Value => Vd.p (H := H6.plus (frzL (upL H2.next X L))) v
           have z1 : Vd (H6.plus (frzL (upL H2.next X L))) (rowD []) (.slice none 0 0) := .z 1
           have ix1 : Vd (H6.plus (frzL (upL H2.next X L))) (rowD f1.index) (.slice none 0 0) := by rw [hix]; exact .z 1
           have hi6 : p.its.length < p6.its.length := by have := (g25.trans g6).its; rw [bi] at this; simp at this; omega
           refine ja4 gg (yk5 (x6.hle ff.hle) hi6 (it := { it0 5 p.at_ with name := f1, params := l, kids := v }) (cells := [.int .i64 5, .int .i64 (p.at_ : Int), .string f1.word, .int .i64 (f1.at_ : Int), .slice none 0 0, .string .empty, .int .i64 0, .slice none 0 0, .string .empty, .int .i64 0, .slice none 0 0, .string .empty, .int .i64 0, .slice none 0 0, pv, .slice none 0 0, .int .i64 0, .int .i64 0, .string .empty, .slice a b c, .slice none 0 0]) ?_ ?_ fun H8 f8 x8 => ⟨H8, .refl _, ?_⟩)
           · exact .cons (p1 _) (.cons (p1 _) (.cons (p1 _) (.cons (p1 _) (.cons ix1 (.cons (p1 _) (.cons (p1 _) (.cons z1 (.cons (p1 _) (.cons (p1 _) (.cons z1 (.cons (p1 _) (.cons (p1 _) (.cons z1 (.cons ((lg.r.up lg.ne X).frz fr7 (j4r _ l lg.li)) (.cons z1 (.cons (p1 _) (.cons (p1 _) (.cons (p1 _) (.cons (hv.mono m) (.cons z1 (.nil _)))))))))))))))))))))
           · have he := (jd6 lg.r.sc.1).2
             simp [List.all_cons, oc hv, he]
             simp [Value.oneCell']
           simp +decide only [zf40.o, ↓GI.o, reduceIte]
           have gt := bg.trans (g25.trans g6)
           exact hk H8 _ (ff.out.trans f8) (x8.mono (by omega)) ⟨gt.le, by have := gt.its; simpa [setIt] using this, by have := gt.its'; simpa [setIt] using this, gt.nds'⟩ (by have := g6.le; show p.at_ < p6.at_; omega) (by show p6.opened = _; omega) rfl
     · simp +decide only [↓GI.o]
       exact hk i _ f'
end
end Go.Am
