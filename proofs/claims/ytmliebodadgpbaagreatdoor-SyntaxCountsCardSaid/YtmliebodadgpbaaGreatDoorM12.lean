/- Expressions and references (plain). -/
import Derived.Test.YtmliebodadgpbaaGreatDoorM11
open Go.Proofs
namespace Go.Am
set_option maxRecDepth 100000
theorem Mv.add {s : List UInt8} {p : PS} (h : Ps s p) {nd : Nd} (hn : NdOk p.nds.length nd) : Mv s p (addNd p nd) [nd] [] [] := by
 refine ⟨.nil _, ⟨h.le, h.to_, h.tok, h.word⟩, Nat.le_refl _, rfl, by simp [addNd], fun i hi => ?_, (fun i h => by cases h), Nat.le_refl _⟩
 obtain rfl : i = 0 := by simpa using hi
 exact hn
theorem jd4 (a j : Nat) : rng a a j = 0 := if_neg (by omega)
def ExC (s : List UInt8) (c : Int → Bool) (ex : Nat → PS → Ou Nat) : Prop := ∀ ab p v q, Ps s p → ex ab p = .ok v q → ∃ nn l, Mv s p q nn [] l ∧ v + 1 = q.nds.length ∧ p.nds.length ≤ v ∧ (∀ j, (kidsN nn).count j = rng p.nds.length v j) ∧ l.countP c = wN c nn
section
variable {s : List UInt8} {c : Int → Bool}
theorem yl7 (hc : Cls c) {ex : Nat → PS → Ou Nat} (EX : ExC s c ex) {p q : PS} {v : Nat} (h : Ps s p) (e : atomP s ex p = .ok v q) : ∃ nn l, Mv s p q nn [] l ∧ v + 1 = q.nds.length ∧ p.nds.length ≤ v ∧ (∀ j, (kidsN nn).count j = rng p.nds.length v j) ∧ l.countP c = wN c nn := by
 unfold atomP at e
 split at e
 · obtain ⟨_, p1, e1, e⟩ := ja0 e
   obtain ⟨w, p2, e2, e⟩ := ja0 e
   obtain ⟨_, p3, e3, e⟩ := ja0 e
   cases e
   have m1 := jo9 h (by decide) e1
   obtain ⟨nn, l, m2, a1, a2, a3, a4⟩ := EX _ _ _ _ m1.ps e2
   have m3 := jp0 m2.ps (by decide) e3
   have n1 : p1.nds = p.nds := by simpa using m1.nds
   have n3 : q.nds = p2.nds := by simpa using m3.nds
   refine ⟨[] ++ (nn ++ []), [8] ++ (l ++ [9]), m1.app (m2.app m3), by rw [n3]; exact a1, by rw [← n1]; exact a2, fun j => ?_, ?_⟩
   · rw [← n1]; simpa using a3 j
   · have h8 := hc.no (k := 8) (by decide)
     have h9 := hc.no (k := 9) (by decide)
     simp [h8, h9, a4]
 have leaf : ∀ (nd : Nd), (nd.op = 1 ∨ nd.op = 2) → nd.kids = [] → nd.op = p.k.kind → (nextP s (addNd p nd)) = q → p.nds.length = v → ∃ nn l, Mv s p q nn [] l ∧ v + 1 = q.nds.length ∧ p.nds.length ≤ v ∧ (∀ j, (kidsN nn).count j = rng p.nds.length v j) ∧ l.countP c = wN c nn := by
   rintro nd h1 h2 h3 rfl rfl
   have m1 := Mv.add h (nd := nd) (.inl ⟨h1, h2⟩)
   have m2 := Mv.next m1.ps (by show p.k.kind ≠ 0; rcases h1 with h1 | h1 <;> rw [← h3, h1] <;> decide)
   have := m1.app m2
   refine ⟨_, _, this, ?_, Nat.le_refl _, fun j => ?_, ?_⟩
   · rw [this.nds]; simp
   · rw [jd4]; simp [kidsN, h2]
   · have : (addNd p nd).k.kind = nd.op := h3.symm
     simp [wN, this]
 split at e
 · rename_i hk
   cases e
   exact leaf _ (.inr rfl) rfl hk.symm rfl rfl
 split at e
 · rename_i hk
   cases e
   exact leaf _ (.inl rfl) rfl hk.symm rfl rfl
 · cases e
theorem j7e {k : Int} (h : rankN k ≠ 0) : 14 ≤ k ∧ k ≤ 29 := by
 unfold rankN at h
 repeat' split at h
 all_goals first | omega | exact absurd rfl h
theorem yl8 (hc : Cls c) {ex : Nat → PS → Ou Nat} (EX : ExC s c ex) (ab : Nat) : ∀ (n mo v : Nat) (p q : PS) (v' : Nat), Ps s p → v + 1 = p.nds.length → opsP s ex ab n mo v p = .ok v' q → ∃ nn l, Mv s p q nn [] l ∧ v' + 1 = q.nds.length ∧ v ≤ v' ∧ (∀ j, (kidsN nn).count j = rng v v' j) ∧ l.countP c = wN c nn
 | 0, _, _, _, _, _, _, _, e => by cases e
 | n + 1, mo, v, p, q, v', h, hv, e => by
   unfold opsP at e
   split at e
   · cases e
     exact ⟨[], [], .refl h, hv, Nat.le_refl _, fun j => by rw [jd4]; rfl, rfl⟩
   · rename_i hr
     obtain ⟨w, q1, e1, e⟩ := ja0 e
     have hk := j7e (k := p.k.kind) (by omega)
     have m1 := Mv.next h (by omega)
     obtain ⟨nn1, l1, m2, a1, a2, a3, a4⟩ := EX _ _ _ _ m1.ps e1
     have n1 : (nextP s p).nds = p.nds := by simpa using m1.nds
     rw [n1] at a2 a3
     have m3 := Mv.add m2.ps (nd := ⟨p.k.kind, 0, .empty, [v, w], p.at_⟩) (.inr ⟨hk, v, w, rfl, by omega, a1⟩)
     obtain ⟨nn2, l2, m4, b1, b2, b3, b4⟩ := yl8 hc EX ab n _ _ _ _ _ m3.ps (by simp [addNd]) e
     refine ⟨[] ++ (nn1 ++ ([⟨p.k.kind, 0, .empty, [v, w], p.at_⟩] ++ nn2)), [p.k.kind] ++ (l1 ++ ([] ++ l2)), m1.app (m2.app (m3.app m4)), b1, by omega, fun j => ?_, ?_⟩
     · rw [List.nil_append, jd2, jd2, List.count_append, List.count_append, a3, b3]
       have : (kidsN [⟨p.k.kind, 0, .empty, [v, w], p.at_⟩]).count j = (if v = j then 1 else 0) + (if w = j then 1 else 0) := by
         simp [kidsN, List.count_cons]
         omega
       rw [this]
       simp only [rng]
       repeat' split
       all_goals omega
     · simp only [List.nil_append, List.countP_append, List.countP_cons, List.countP_nil, wN, a4, b4]
       simp only [wN] at a4 b4
       omega
theorem j43 (hc : Cls c) : ∀ n, ExC s c (exprP s n)
 | 0 => fun _ _ _ _ _ e => by cases e
 | n + 1 => fun ab p v' q h e => by
   unfold exprP at e
   obtain ⟨v, q1, e1, e⟩ := ja0 e
   obtain ⟨nn1, l1, m1, a1, a2, a3, a4⟩ := yl7 hc (j43 hc n) h e1
   obtain ⟨nn2, l2, m2, b1, b2, b3, b4⟩ := yl8 hc (j43 hc n) ab _ _ _ _ _ _ m1.ps a1 e
   refine ⟨nn1 ++ nn2, l1 ++ l2, m1.app m2, b1, by omega, fun j => ?_, ?_⟩
   · rw [jd2, List.count_append, a3, b3]
     simp only [rng]
     repeat' split
     all_goals omega
   · rw [List.countP_append, j4y, a4, b4]
theorem j8q (hc : Cls c) {ex : Nat → PS → Ou Nat} (EX : ExC s c ex) : ∀ (n : Nat) (f : Rf) (p q : PS) (g : Rf), Ps s p → refL s ex n f p = .ok g q → ∃ nn l, Mv s p q nn [] l ∧ g.word = f.word ∧ (∀ j, (kidsN nn).count j + g.index.count j = f.index.count j + rng p.nds.length q.nds.length j) ∧ l.countP c = wN c nn
 | 0, _, _, _, _, _, e => by cases e
 | n + 1, f, p, q, g, h, e => by
   unfold refL at e
   split at e
   · obtain ⟨_, p1, e1, e⟩ := ja0 e
     obtain ⟨w, p2, e2, e⟩ := ja0 e
     obtain ⟨_, p3, e3, e⟩ := ja0 e
     have m1 := jo9 h (by decide) e1
     obtain ⟨nn1, l1, m2, a1, a2, a3, a4⟩ := EX _ _ _ _ m1.ps e2
     have m3 := jp0 m2.ps (by decide) e3
     obtain ⟨nn2, l2, m4, b1, b2, b3⟩ := j8q hc EX n _ _ _ _ m3.ps e
     have n1 : p1.nds = p.nds := by simpa using m1.nds
     have n3 : p3.nds = p2.nds := by simpa using m3.nds
     rw [n1] at a2 a3
     rw [n3] at b2
     have m := m1.app (m2.app (m3.app m4))
     have hle := m4.nds
     have hl := congrArg List.length hle
     rw [List.length_append, n3] at hl
     refine ⟨_, _, m, b1, fun j => ?_, ?_⟩
     · have b2 := b2 j
       rw [List.nil_append, List.nil_append, jd2, List.count_append, a3]
       have : (f.index ++ [w]).count j = f.index.count j + (if w = j then 1 else 0) := by
         simp [List.count_cons]
       rw [this] at b2
       simp only [rng] at b2 ⊢
       repeat' split at b2
       all_goals repeat' split
       all_goals omega
     · have h6 := hc.no (k := 6) (by decide)
       have h7 := hc.no (k := 7) (by decide)
       simp [h6, h7, a4, b3, wN]
   · cases e
     exact ⟨[], [], .refl h, rfl, fun j => by rw [jd4]; simp [kidsN], rfl⟩
theorem j7f (hc : Cls c) {ex : Nat → PS → Ou Nat} (EX : ExC s c ex) {n : Nat} {p q : PS} {f : Rf} (h : Ps s p) (e : refP s ex n p = .ok f q) : ∃ nn l, Mv s p q nn [] l ∧ (∀ j, (kidsN nn).count j + f.index.count j = rng p.nds.length q.nds.length j) ∧ l.countP c = wN c nn + wF c f := by
 unfold refP at e
 obtain ⟨g, p1, e1, e⟩ := ja0 e
 obtain ⟨m1, w1, w2⟩ := jv0 h e1
 obtain ⟨nn, l, m2, b1, b2, b3⟩ := j8q hc EX _ _ _ _ _ m1.ps e
 have n1 : p1.nds = p.nds := by simpa using m1.nds
 refine ⟨[] ++ nn, [1] ++ l, m1.app m2, fun j => ?_, ?_⟩
 · have := b2 j
   rw [w2, n1] at this
   simpa using this
 · rw [List.countP_append, b3, wF, if_neg (by rw [b1]; exact w1), List.nil_append]
   have : ([1] : List Int).countP c = (c 1).toNat := by
     rw [List.countP_cons, List.countP_nil]
     cases c 1 <;> rfl
   omega
end
def ItC (s : List UInt8) (c : Int → Bool) (F : PS → Ou Nat) : Prop := ∀ p v q, Ps s p → F p = .ok v q → ∃ nn ii l, Mv s p q nn ii l ∧ v = p.its.length ∧ v < q.its.length ∧ (∀ j, (kidsN nn).count j + (rowsIs ii).count j = rng p.nds.length q.nds.length j) ∧ (∀ j, (kidsIs ii).count j = rng (v + 1) q.its.length j) ∧ l.countP c = wN c nn + wIs c ii
section
variable {s : List UInt8} {c : Int → Bool}
theorem j1u (hc : Cls c) {F : PS → Ou Nat} (IT : ItC s c F) : ∀ (n : Nat) (l : List Nat) (p q : PS) (l' : List Nat), Ps s p → blockL F n l p = .ok l' q → ∃ nn ii tl b, Mv s p q nn ii tl ∧ l' = l ++ b ∧ b.Pairwise (· < ·) ∧ (∀ j ∈ b, p.its.length ≤ j ∧ j < q.its.length) ∧ (∀ j, (kidsN nn).count j + (rowsIs ii).count j = rng p.nds.length q.nds.length j) ∧ (∀ j, b.count j + (kidsIs ii).count j = rng p.its.length q.its.length j) ∧ tl.countP c = wN c nn + wIs c ii
 | 0, _, _, _, _, _, e => by cases e
 | n + 1, l, p, q, l', h, e => by
   unfold blockL at e
   split at e
   · cases e
     exact ⟨[], [], [], [], .refl h, by simp, .nil, (fun j hj => by cases hj), fun j => by rw [jd4]; rfl, fun j => by rw [jd4]; rfl, rfl⟩
   · obtain ⟨v, p1, e1, e⟩ := ja0 e
     obtain ⟨nn1, ii1, l1, m1, rfl, a2, a3, a4, a5⟩ := IT _ _ _ h e1
     obtain ⟨nn2, ii2, l2, b, m2, rfl, b1, b2, b3, b4, b5⟩ := j1u hc IT n _ _ _ _ m1.ps e
     have g1 := congrArg List.length m2.its
     have g2 := congrArg List.length m1.nds
     have g3 := congrArg List.length m2.nds
     rw [List.length_append] at g1 g2 g3
     refine ⟨_, _, _, p.its.length :: b, m1.app m2, by simp, ?_, ?_, fun j => ?_, fun j => ?_, ?_⟩
     · exact List.pairwise_cons.2 ⟨fun j hj => by have := (b2 j hj).1; omega, b1⟩
     · intro j hj
       rcases List.mem_cons.1 hj with rfl | hj
       · omega
       · have := b2 j hj; omega
     · have := a3 j
       have := b3 j
       rw [jd2, je9, List.count_append, List.count_append]
       simp only [rng] at *
       repeat' split at this
       all_goals repeat' split
       all_goals (repeat' split at *) <;> omega
     · have := a4 j
       have := b4 j
       rw [jg8, List.count_append, List.count_cons]
       simp only [rng, beq_iff_eq] at *
       repeat' split
       all_goals (repeat' split at *) <;> omega
     · rw [List.countP_append, j4y, ju8, a5, b5]; omega
theorem jv1 (hc : Cls c) {F : PS → Ou Nat} (IT : ItC s c F) {n : Nat} {p q : PS} {b : List Nat} (h : Ps s p) (e : blockP s F n p = .ok b q) : ∃ nn ii tl, Mv s p q nn ii tl ∧ b.Pairwise (· < ·) ∧ (∀ j ∈ b, p.its.length ≤ j ∧ j < q.its.length) ∧ (∀ j, (kidsN nn).count j + (rowsIs ii).count j = rng p.nds.length q.nds.length j) ∧ (∀ j, b.count j + (kidsIs ii).count j = rng p.its.length q.its.length j) ∧ tl.countP c = wN c nn + wIs c ii := by
 unfold blockP at e
 obtain ⟨_, p1, e1, e⟩ := ja0 e
 obtain ⟨l, p2, e2, e⟩ := ja0 e
 obtain ⟨_, p3, e3, e⟩ := ja0 e
 cases e
 have m1 := jo9 h (by decide) e1
 obtain ⟨nn, ii, tl, b', m2, rfl, b1, b2, b3, b4, b5⟩ := j1u hc IT _ _ _ _ _ m1.ps e2
 have m3 := jp0 m2.ps (by decide) e3
 have n1 : p1.nds = p.nds := by simpa using m1.nds
 have n3 : q.nds = p2.nds := by simpa using m3.nds
 have i1 : p1.its = p.its := by simpa using m1.its
 have i3 : q.its = p2.its := by simpa using m3.its
 rw [i1, ← i3] at b2 b4
 rw [n1, ← n3] at b3
 refine ⟨_, _, _, m1.app (m2.app m3), b1, b2, fun j => ?_, fun j => ?_, ?_⟩
 · simpa using b3 j
 · simpa using b4 j
 · have h4 := hc.no (k := 4) (by decide)
   have h5 := hc.no (k := 5) (by decide)
   simp [h4, h5, b5]
def Rn (s : List UInt8) (c : Int → Bool) (p : PS) (it : It) (q : PS) (it' : It) : Prop := ∃ nn ii l, Mv s p q nn ii l ∧
 (∀ j, (kidsN nn).count j + (rowsIs ii).count j + (rowsI it').count j = (rowsI it).count j + rng p.nds.length q.nds.length j) ∧
 (∀ j, (kidsIs ii).count j + (kidsI it').count j = (kidsI it).count j + rng p.its.length q.its.length j) ∧
 wN c nn + wIs c ii + wI c it' = wI c it + l.countP c ∧ it'.pos = it.pos ∧ (∀ K, K < p.its.length → ItOk K p.its.length it → ItOk K q.its.length it')
theorem Mv.len {p q : PS} {nn : List Nd} {ii : List It} {l : List Int} (m : Mv s p q nn ii l) : q.nds.length = p.nds.length + nn.length ∧ q.its.length = p.its.length + ii.length := by rw [m.nds, m.its]; simp
theorem Rn.trans {p q r : PS} {a b d : It} (h : Rn s c p a q b) (g : Rn s c q b r d) : Rn s c p a r d := by
 obtain ⟨nn, ii, l, m, h1, h2, h3, h4, h5⟩ := h
 obtain ⟨nn', ii', l', m', g1, g2, g3, g4, g5⟩ := g
 have e1 := m.len
 have e2 := m'.len
 refine ⟨_, _, _, m.app m', fun j => ?_, fun j => ?_, ?_, g4.trans h4, fun K hK hI => g5 K (by omega) (h5 K hK hI)⟩
 · have := h1 j
   have := g1 j
   rw [jd2, je9, List.count_append, List.count_append]
   simp only [rng] at *
   repeat' split
   all_goals (repeat' split at *) <;> omega
 · have := h2 j
   have := g2 j
   rw [jg8, List.count_append]
   simp only [rng] at *
   repeat' split
   all_goals (repeat' split at *) <;> omega
 · rw [j4y, ju8, List.countP_append]; omega
theorem Rn.un {p q : PS} {it it' : It} {l : List Int} (m : Mv s p q [] [] l) (hl : l.countP c = 0) (h1 : rowsI it' = rowsI it) (h2 : kidsI it' = kidsI it) (h3 : wI c it' = wI c it) (h4 : it'.pos = it.pos) (h5 : it'.params = it.params) : Rn s c p it q it' := by
 have e := m.len
 simp only [List.length_nil, Nat.add_zero] at e
 refine ⟨_, _, _, m, fun j => ?_, fun j => ?_, ?_, h4, fun K _ hI => ?_⟩
 · rw [e.1, jd4, h1]; simp [kidsN, rowsIs]
 · rw [e.2, jd4, h2]; simp [kidsIs]
 · rw [hl, h3]; simp [wN, wIs]
 · unfold ItOk at *
   rw [h2, e.2, h5]; exact hI
theorem Rn.refl {p : PS} {it : It} (h : Ps s p) : Rn s c p it p it := .un (.refl h) rfl rfl rfl rfl rfl rfl
theorem Rn.ex {p q : PS} {it : It} {nn : List Nd} {l : List Int} {v : Nat} (m : Mv s p q nn [] l) (h1 : v + 1 = q.nds.length) (h2 : p.nds.length ≤ v) (h3 : ∀ j, (kidsN nn).count j = rng p.nds.length v j) (h4 : l.countP c = wN c nn) : Rn s c p it q { it with e := it.e ++ [v] } := by
 have e := m.len
 simp only [List.length_nil, Nat.add_zero] at e
 refine ⟨_, _, _, m, fun j => ?_, fun j => ?_, ?_, rfl, fun K _ hI => ?_⟩
 · have := h3 j
   simp only [rowsI, rowsIs, List.flatMap_nil, List.count_nil, List.count_append, List.count_cons, beq_iff_eq, rng] at *
   repeat' split
   all_goals (repeat' split at *) <;> omega
 · rw [e.2, jd4]; simp [kidsIs, kidsI]
 · show wN c nn + 0 + wI c it = _
   rw [h4]; omega
 · rw [e.2]; exact hI
def Fd.get (it : It) : Fd → Rf | .n => it.name | .f => it.from_ | .t => it.to_ | .o => it.over_
theorem Rn.ref {p q : PS} {it : It} {nn : List Nd} {l : List Int} {f : Rf} (x : Fd) (m : Mv s p q nn [] l) (h3 : ∀ j, (kidsN nn).count j + f.index.count j = rng p.nds.length q.nds.length j) (h4 : l.countP c = wN c nn + wF c f) (h0 : x.get it = rf0) : Rn s c p it q (x.set it f) := by
 have e := m.len
 simp only [List.length_nil, Nat.add_zero] at e
 have hk : kidsI (x.set it f) = kidsI it := by cases x <;> rfl
 have z : wF c rf0 = 0 := by simp [wF, rf0]
 refine ⟨_, _, _, m, fun j => ?_, fun j => ?_, ?_, by cases x <;> rfl, fun K _ hI => ?_⟩
 · have := h3 j
   cases x <;> simp only [Fd.get] at h0 <;> simp only [Fd.set, rowsI, rowsIs, List.flatMap_nil, List.count_nil, List.count_append, h0, rf0] <;> omega
 · rw [e.2, jd4, hk]; simp [kidsIs]
 · cases x <;> simp only [Fd.get] at h0 <;> simp only [Fd.set, wI, wIs, List.map_nil, List.sum_nil, h0, z, h4] <;> omega
 · unfold ItOk at *
   rw [hk, e.2, show (x.set it f).params = it.params by cases x <;> rfl]; exact hI
theorem Rn.kids {p q : PS} {it : It} {nn : List Nd} {ii : List It} {l : List Int} {b : List Nat} (m : Mv s p q nn ii l) (h1 : b.Pairwise (· < ·)) (h2 : ∀ j ∈ b, p.its.length ≤ j ∧ j < q.its.length) (h3 : ∀ j, (kidsN nn).count j + (rowsIs ii).count j = rng p.nds.length q.nds.length j) (h4 : ∀ j, b.count j + (kidsIs ii).count j = rng p.its.length q.its.length j) (h5 : l.countP c = wN c nn + wIs c ii) {it' : It} (hk : kidsI it' = kidsI it ++ b) (hr : rowsI it' = rowsI it) (hw : wI c it' = wI c it) (hp : it'.pos = it.pos) (hm : it'.params = it.params) : Rn s c p it q it' := by
 have e := m.len
 refine ⟨_, _, _, m, fun j => ?_, fun j => ?_, ?_, hp, fun K hK hI => ?_⟩
 · rw [h3, hr]; omega
 · have := h4 j
   rw [hk, List.count_append]; omega
 · rw [hw, h5]; omega
 · unfold ItOk at *
   rw [hk, hm]
   obtain ⟨i1, i2, i3⟩ := hI
   refine ⟨List.pairwise_append.2 ⟨i1, h1, fun a ha d hd => ?_⟩, fun j hj => ?_, i3⟩
   · have := (i2 a ha).2; have := (h2 d hd).1; omega
   · rcases List.mem_append.1 hj with hj | hj
     · have := i2 j hj; omega
     · have := h2 j hj; omega
end
def Fd.at : Fd → Nat | .n => 0 | .f => 1 | .t => 2 | .o => 3
def free (u : List Nat) (l : List Nat) : Bool := l.all fun x => !u.contains x
def Sp.chk (kn : Option Int) (u : List Nat) : Sp → Option (List Nat)
 | .must k => bif okk k then some u else none
 | .take _ k => bif okk k then some u else none
 | .see _ _ => some u
 | .num w => bif okk w then some (6 :: u) else none
 | .flag w _ => bif okk w then some u else none
 | .ends => bif free u [0, 1, 2] then some (0 :: 1 :: 2 :: u) else none
 | .ref x => bif free u [x.at] then some (x.at :: u) else none
 | .e => some (6 :: u)
 | .kids _ => bif free u [4, 5] then some (4 :: u) else none
 | .how _ => some u
 | .orf _ => some u
 | .text => some u
 | .nxt => match kn with | some k => bif okk k then some u else none | none => none
 | .word x => bif free u [x.at] then some (x.at :: u) else none
 | .e1 => bif free u [6] then some (6 :: u) else none
 | .eB => some (6 :: u)
 | .same _ l => bif l then (bif free u [5] then some (5 :: u) else none) else (bif free u [4, 5] then some (4 :: u) else none)
 | .setf _ => some u
 | .args => some (6 :: u)
 | .pars => some u
def Sp.kn (kn : Option Int) : Sp → Option Int
 | .see _ _ => kn
 | .how _ => kn
 | .orf _ => kn
 | .text => kn
 | .setf _ => kn
 | _ => none
def mrg : Option (List Nat) → Option (List Nat) → Option (List Nat)
 | some a, some b => some (a ++ b)
 | none, b => b
 | a, none => a
def Rc.chk : Option Int → List Nat → Rc → Option (Option Int × Option (List Nat))
 | kn, u, .sp _ t => (t.chk kn u).map fun u' => (t.kn kn, some u')
 | kn, u, .br _ t x y => (t.chk kn u).bind fun u1 => (x.chk (match t with | .see _ k => some k | _ => none) u1).bind fun a => (y.chk none u1).map fun b => (none, mrg a.2 b.2)
 | kn, u, .sq x y => (x.chk kn u).bind fun a => match a.2 with | some u1 => y.chk a.1 u1 | none => some (none, none)
 | kn, u, .blk _ x => x.chk kn u
 | kn, u, .skip => some (kn, some u)
 | kn, _, .ret => some (kn, none)
def Un (u : List Nat) (x : It) : Prop := (0 ∉ u → x.name = rf0) ∧ (1 ∉ u → x.from_ = rf0) ∧ (2 ∉ u → x.to_ = rf0) ∧ (3 ∉ u → x.over_ = rf0) ∧ (4 ∉ u → x.kids = []) ∧ (5 ∉ u → x.els = []) ∧ (6 ∉ u → x.e = [])
theorem Un.sub {u u' : List Nat} {x : It} (h : Un u x) (hs : u ⊆ u') : Un u' x := by
 obtain ⟨a, b, c, d, e, f, g⟩ := h
 exact ⟨fun n => a fun m => n (hs m), fun n => b fun m => n (hs m), fun n => c fun m => n (hs m), fun n => d fun m => n (hs m), fun n => e fun m => n (hs m), fun n => f fun m => n (hs m), fun n => g fun m => n (hs m)⟩
theorem jc8 {u l : List Nat} (h : free u l = true) {x : Nat} (hx : x ∈ l) : x ∉ u := by
 have := List.all_eq_true.1 h x hx
 simpa using this
def Kn (kn : Option Int) (p : PS) : Prop := ∀ k, kn = some k → p.k.kind = k
theorem Kn.none (p : PS) : Kn none p := fun _ e => by cases e
theorem jc3 {b : Bool} {α : Type} {x y : α} (h : (bif b then some x else none) = some y) : b = true ∧ x = y := by
 cases b with
 | true => exact ⟨rfl, Option.some.inj h⟩
 | false => cases h
section
variable {s : List UInt8} {c : Int → Bool} {y : Pz}
theorem jd5 (hc : Cls c) {k : Int} (h : okk k = true) : ([k] : List Int).countP c = 0 := by simp [hc.no h]
theorem j7g {p q : PS} {it it' : It} (EX : ExC s c y.ex) (h : Ps s p) (e : exE y p it = .ok it' q) : Rn s c p it q it' ∧ Ps s q ∧ ∃ v, it' = { it with e := it.e ++ [v] } := by
 unfold exE at e
 obtain ⟨v, p1, e1, e⟩ := ja0 e
 cases e
 obtain ⟨nn, l, m, a1, a2, a3, a4⟩ := EX _ _ _ _ h e1
 exact ⟨.ex m a1 a2 a3 a4, m.ps, v, rfl⟩
theorem j8r (hc : Cls c) (hs : y.s = s) (EX : ExC s c y.ex) : ∀ (n : Nat) (p q : PS) (it it' : It), Ps s p → argL y n p it = .ok it' q → Rn s c p it q it' ∧ Ps s q ∧ ∃ l, it' = { it with e := it.e ++ l }
 | 0, _, _, _, _, _, e => by cases e
 | n + 1, p, q, it, it', h, e => by
   unfold argL at e
   split at e
   · cases e; exact ⟨.refl h, h, [], by simp⟩
   · obtain ⟨it1, p1, e1, e⟩ := ja0 e
     obtain ⟨t, p2, e2, e⟩ := ja0 e
     obtain ⟨r1, h1, v, rfl⟩ := j7g EX h e1
     rw [hs] at e2
     have m2 := ju9 h1 (by decide) e2
     have r2 : Rn s c p1 { it with e := it.e ++ [v] } p2 { it with e := it.e ++ [v] } := .un m2 (by cases t <;> simp [hc.no (k := 11) (by decide)]) rfl rfl rfl rfl rfl
     split at e
     · obtain ⟨r3, h3, l, rfl⟩ := j8r hc hs EX n _ _ _ _ m2.ps e
       exact ⟨r1.trans (r2.trans r3), h3, v :: l, by simp⟩
     · cases e; exact ⟨r1.trans r2, m2.ps, [v], rfl⟩
theorem yl9 {p q : PS} {it : It} {f : Rf} {l : List Int} (m : Mv s p q [] [] l) (h1 : f.index = []) (h2 : l.countP c = wF c f) (h0 : f.word ≠ .empty) : Rn s c p it q { it with params := it.params ++ [f] } := by
 have e := m.len
 simp only [List.length_nil, Nat.add_zero] at e
 refine ⟨_, _, _, m, fun j => ?_, fun j => ?_, ?_, rfl, fun K _ hI => ?_⟩
 · rw [e.1, jd4]; simp [kidsN, rowsIs, rowsI, h1]
 · rw [e.2, jd4]; simp [kidsIs, kidsI]
 · simp only [wI, j4z, wN, wIs, List.map_nil, List.sum_nil, List.countP_nil, h2]
   have : wFs c [f] = wF c f := by simp [wFs]
   omega
 · rw [e.2]
   exact ⟨hI.1, hI.2.1, fun g hg => (List.mem_append.1 hg).elim (hI.2.2 g) fun hg => by
     rw [List.mem_singleton.1 hg]; exact h0⟩
theorem j8s (hc : Cls c) (hs : y.s = s) : ∀ (n : Nat) (p q : PS) (it it' : It), Ps s p → parL y n p it = .ok it' q → Rn s c p it q it' ∧ Ps s q ∧ ∃ l, it' = { it with params := it.params ++ l }
 | 0, _, _, _, _, _, e => by cases e
 | n + 1, p, q, it, it', h, e => by
   unfold parL at e
   split at e
   · cases e; exact ⟨.refl h, h, [], by simp⟩
   · obtain ⟨f, p1, e1, e⟩ := ja0 e
     obtain ⟨t, p2, e2, e⟩ := ja0 e
     rw [hs] at e1 e2
     obtain ⟨m1, w1, w2⟩ := jv0 h e1
     have r1 : Rn s c p it p1 { it with params := it.params ++ [f] } := yl9 m1 w2 (by rw [wF, if_neg w1, List.countP_cons, List.countP_nil]; cases c 1 <;> rfl) w1
     have m2 := ju9 m1.ps (by decide) e2
     have r2 : Rn s c p1 { it with params := it.params ++ [f] } p2 { it with params := it.params ++ [f] } := .un m2 (by cases t <;> simp [hc.no (k := 11) (by decide)]) rfl rfl rfl rfl rfl
     split at e
     · obtain ⟨r3, h3, l, rfl⟩ := j8s hc hs n _ _ _ _ m2.ps e
       exact ⟨r1.trans (r2.trans r3), h3, f :: l, by simp⟩
     · cases e; exact ⟨r1.trans r2, m2.ps, [f], rfl⟩
theorem j44 {u : List Nat} {it : It} (x : Fd) (hU : Un u it) (h : x.at ∉ u) : x.get it = rf0 := by
 obtain ⟨a, b, c, d, _⟩ := hU
 cases x
 · exact a h
 · exact b h
 · exact c h
 · exact d h
theorem Un.fd {u : List Nat} {it : It} (x : Fd) (f : Rf) (hU : Un u it) : Un (x.at :: u) (x.set it f) := by
 obtain ⟨a, b, c, d, e, g, i⟩ := hU
 cases x <;> simp only [Un, Fd.set, Fd.at, List.mem_cons, not_or] <;> exact ⟨fun n => by first | exact a n.2 | exact absurd trivial n.1 | exact absurd rfl n.1, fun n => by first | exact b n.2 | exact absurd trivial n.1 | exact absurd rfl n.1, fun n => by first | exact c n.2 | exact absurd trivial n.1 | exact absurd rfl n.1, fun n => by first | exact d n.2 | exact absurd trivial n.1 | exact absurd rfl n.1, fun n => e n.2, fun n => g n.2, fun n => i n.2⟩
theorem Un.e {u : List Nat} {it : It} (l : List Nat) (hU : Un u it) : Un (6 :: u) { it with e := l } := by
 obtain ⟨a, b, c, d, e, g, i⟩ := hU
 simp only [Un, List.mem_cons, not_or]
 exact ⟨fun n => a n.2, fun n => b n.2, fun n => c n.2, fun n => d n.2, fun n => e n.2, fun n => g n.2, fun n => absurd trivial n.1⟩
theorem sp_c (hc : Cls c) (hs : y.s = s) (EX : ExC s c y.ex) (RU : ∀ kd, ItC s c (y.ru kd)) {kn : Option Int} {u u' : List Nat} {p q : PS} {it : It} {v : Bool × It} : ∀ t : Sp, t.chk kn u = some u' → Kn kn p → Un u it → Ps s p → t.run y p it = .ok v q → Rn s c p it q v.2 ∧ Ps s q ∧ Un u' v.2 ∧ Kn (t.kn kn) q ∧ u ⊆ u' := by
 subst hs
 intro t hk hK hU h e
 have keep : u ⊆ u := fun _ h => h
 cases t with
 | must k =>
   obtain ⟨ok, rfl⟩ := jc3 hk
   obtain ⟨_, p1, e1, e⟩ := ja0 e
   cases e
   have m := jo8 h (jh5 ok).1 e1
   exact ⟨.un m (jd5 hc ok) rfl rfl rfl rfl rfl, m.ps, hU, .none _, keep⟩
 | take _ k =>
   obtain ⟨ok, rfl⟩ := jc3 hk
   obtain ⟨t, p1, e1, e⟩ := ja0 e
   cases e
   have m := ju9 h (jh5 ok).1 e1
   exact ⟨.un m (by cases t; rfl; exact jd5 hc ok) rfl rfl rfl rfl rfl, m.ps, hU, .none _, keep⟩
 | see _ k =>
   cases hk
   cases e
   exact ⟨.refl h, h, hU, hK, keep⟩
 | num w =>
   obtain ⟨ok, rfl⟩ := jc3 hk
   obtain ⟨_, p1, e1, e⟩ := ja0 e
   obtain ⟨it1, p2, e2, e⟩ := ja0 e
   cases e
   have m := jo8 h (jh5 ok).1 e1
   obtain ⟨r2, h2, v, rfl⟩ := j7g EX m.ps e2
   exact ⟨(Rn.un m (jd5 hc ok) rfl rfl rfl rfl rfl).trans r2, h2, hU.e _, .none _, fun _ h => List.mem_cons_of_mem _ h⟩
 | flag w f =>
   obtain ⟨ok, rfl⟩ := jc3 hk
   obtain ⟨t, p1, e1, e⟩ := ja0 e
   cases e
   have m := ju9 h (jh5 ok).1 e1
   refine ⟨.un m (by cases t; rfl; exact jd5 hc ok) ?_ ?_ ?_ ?_ ?_, m.ps, ?_, .none _, keep⟩ <;> cases t <;> first | rfl | exact hU
 | ends =>
   obtain ⟨ok, rfl⟩ := jc3 hk
   obtain ⟨f, p1, e1, e⟩ := ja0 e
   obtain ⟨_, p2, e2, e⟩ := ja0 e
   obtain ⟨g, p3, e3, e⟩ := ja0 e
   obtain ⟨_, p4, e4, e⟩ := ja0 e
   obtain ⟨k, p5, e5, e⟩ := ja0 e
   cases e
   obtain ⟨_, _, m1, a1, a2⟩ := j7f hc EX h e1
   have m2 := jo8 m1.ps (by decide) e2
   obtain ⟨_, _, m3, b1, b2⟩ := j7f hc EX m2.ps e3
   have m4 := jo8 m3.ps (by decide) e4
   obtain ⟨_, _, m5, d1, d2⟩ := j7f hc EX m4.ps e5
   have r1 := Rn.ref (it := it) .n m1 a1 a2 (j44 .n hU (jc8 ok (by decide)))
   have u1 := Un.fd .n f hU
   have r2 : Rn _ c p1 (Fd.n.set it f) p2 (Fd.n.set it f) := .un m2 (jd5 hc (by decide)) rfl rfl rfl rfl rfl
   have r3 := Rn.ref (it := Fd.n.set it f) .f m3 b1 b2 (show Fd.f.get it = rf0 from j44 .f hU (jc8 ok (by decide)))
   have r4 : Rn _ c p3 (Fd.f.set (Fd.n.set it f) g) p4 (Fd.f.set (Fd.n.set it f) g) := .un m4 (jd5 hc (by decide)) rfl rfl rfl rfl rfl
   have r5 := Rn.ref (it := Fd.f.set (Fd.n.set it f) g) .t m5 d1 d2 (show Fd.t.get it = rf0 from j44 .t hU (jc8 ok (by decide)))
   have u5 := Un.fd .t k (Un.fd .f g u1)
   exact ⟨r1.trans (r2.trans (r3.trans (r4.trans r5))), m5.ps, u5.sub fun x hx => by simp [Fd.at] at hx ⊢; rcases hx with h | h | h | h <;> simp [h], .none _, fun _ h => List.mem_cons_of_mem _ (List.mem_cons_of_mem _ (List.mem_cons_of_mem _ h))⟩
 | ref x =>
   obtain ⟨ok, rfl⟩ := jc3 hk
   obtain ⟨f, p1, e1, e⟩ := ja0 e
   cases e
   obtain ⟨_, _, m1, a1, a2⟩ := j7f hc EX h e1
   exact ⟨.ref x m1 a1 a2 (j44 x hU (jc8 ok (by simp))), m1.ps, hU.fd x f, .none _, fun _ h => List.mem_cons_of_mem _ h⟩
 | e =>
   cases hk
   obtain ⟨it1, p2, e2, e⟩ := ja0 e
   cases e
   obtain ⟨r2, h2, v, rfl⟩ := j7g EX h e2
   exact ⟨r2, h2, hU.e _, .none _, fun _ h => List.mem_cons_of_mem _ h⟩
 | kids kd =>
   obtain ⟨ok, rfl⟩ := jc3 hk
   obtain ⟨b, p1, e1, e⟩ := ja0 e
   cases e
   obtain ⟨_, _, _, m, a1, a2, a3, a4, a5⟩ := jv1 hc (RU kd) h e1
   have z4 := hU.2.2.2.2.1 (jc8 ok (by decide))
   have z5 := hU.2.2.2.2.2.1 (jc8 ok (by decide))
   refine ⟨.kids m a1 a2 a3 a4 a5 (by simp [kidsI, z4, z5]) rfl rfl rfl rfl, m.ps, ?_, .none _, fun _ h => List.mem_cons_of_mem _ h⟩
   obtain ⟨a, b, c, d, e, g, i⟩ := hU
   simp only [Un, List.mem_cons, not_or]
   exact ⟨fun n => a n.2, fun n => b n.2, fun n => c n.2, fun n => d n.2, fun n => absurd trivial n.1, fun n => g n.2, fun n => i n.2⟩
 | how v => cases hk; cases e; exact ⟨.un (.refl h) rfl rfl rfl rfl rfl rfl, h, hU, hK, keep⟩
 | orf v => cases hk; cases e; exact ⟨.un (.refl h) rfl rfl rfl rfl rfl rfl, h, hU, hK, keep⟩
 | text => cases hk; cases e; exact ⟨.un (.refl h) rfl rfl rfl rfl rfl rfl, h, hU, hK, keep⟩
 | nxt =>
   cases e
   cases kn with
   | none => cases hk
   | some k =>
     obtain ⟨ok, rfl⟩ := jc3 hk
     have e := hK k rfl
     have m := Mv.next h (by rw [e]; exact (jh5 ok).1)
     rw [e] at m
     exact ⟨.un m (jd5 hc ok) rfl rfl rfl rfl rfl, m.ps, hU, .none _, keep⟩
 | word x =>
   obtain ⟨ok, rfl⟩ := jc3 hk
   obtain ⟨f, p1, e1, e⟩ := ja0 e
   cases e
   obtain ⟨m1, w1, w2⟩ := jv0 h e1
   have e := m1.len
   simp only [List.length_nil, Nat.add_zero] at e
   exact ⟨.ref x m1 (fun j => by rw [e.1, jd4, w2]; rfl) (by rw [wF, if_neg w1, List.countP_cons, List.countP_nil]; cases c 1 <;> rfl) (j44 x hU (jc8 ok (by simp))), m1.ps, hU.fd x f, .none _, fun _ h => List.mem_cons_of_mem _ h⟩
 | e1 =>
   obtain ⟨ok, rfl⟩ := jc3 hk
   obtain ⟨v, p1, e1, e⟩ := ja0 e
   cases e
   obtain ⟨nn, l, m, a1, a2, a3, a4⟩ := EX _ _ _ _ h e1
   have z := hU.2.2.2.2.2.2 (jc8 ok (by decide))
   have := Rn.ex (it := it) m a1 a2 a3 a4
   rw [z] at this
   exact ⟨this, m.ps, hU.e _, .none _, fun _ h => List.mem_cons_of_mem _ h⟩
 | eB =>
   cases hk
   obtain ⟨it1, p2, e2, e⟩ := ja0 e
   cases e
   obtain ⟨r2, h2, v, rfl⟩ := j7g EX h e2
   exact ⟨r2, h2, hU.e _, .none _, fun _ h => List.mem_cons_of_mem _ h⟩
 | same kd l =>
   obtain ⟨b, p1, e1, e⟩ := ja0 e
   cases e
   obtain ⟨_, _, _, m, a1, a2, a3, a4, a5⟩ := jv1 hc (RU kd) h e1
   cases l with
   | true =>
     obtain ⟨ok, rfl⟩ := jc3 hk
     have z5 := hU.2.2.2.2.2.1 (jc8 ok (by decide))
     refine ⟨.kids m a1 a2 a3 a4 a5 (by simp [kidsI, z5]) rfl rfl rfl rfl, m.ps, ?_, .none _, fun _ h => List.mem_cons_of_mem _ h⟩
     obtain ⟨a, b, c, d, e, g, i⟩ := hU
     simp only [Un, List.mem_cons, not_or]
     exact ⟨fun n => a n.2, fun n => b n.2, fun n => c n.2, fun n => d n.2, fun n => e n.2, fun n => absurd trivial n.1, fun n => i n.2⟩
   | false =>
     obtain ⟨ok, rfl⟩ := jc3 hk
     have z4 := hU.2.2.2.2.1 (jc8 ok (by decide))
     have z5 := hU.2.2.2.2.2.1 (jc8 ok (by decide))
     refine ⟨.kids m a1 a2 a3 a4 a5 (by simp [kidsI, z4, z5]) rfl rfl rfl rfl, m.ps, ?_, .none _, fun _ h => List.mem_cons_of_mem _ h⟩
     obtain ⟨a, b, c, d, e, g, i⟩ := hU
     simp only [Un, List.mem_cons, not_or]
     exact ⟨fun n => a n.2, fun n => b n.2, fun n => c n.2, fun n => d n.2, fun n => absurd trivial n.1, fun n => g n.2, fun n => i n.2⟩
 | setf v => cases hk; cases e; exact ⟨.un (.refl h) rfl rfl rfl rfl rfl rfl, h, hU, hK, keep⟩
 | args =>
   cases hk
   obtain ⟨_, p1, e1, e⟩ := ja0 e
   obtain ⟨it1, p2, e2, e⟩ := ja0 e
   obtain ⟨_, p3, e3, e⟩ := ja0 e
   cases e
   have m1 := jo9 h (by decide) e1
   obtain ⟨r2, h2, l, rfl⟩ := j8r hc rfl EX _ _ _ _ _ m1.ps e2
   have m3 := jp0 h2 (by decide) e3
   exact ⟨(Rn.un m1 (jd5 hc (by decide)) rfl rfl rfl rfl rfl).trans (r2.trans (.un m3 (jd5 hc (by decide)) rfl rfl rfl rfl rfl)), m3.ps, hU.e _, .none _, fun _ h => List.mem_cons_of_mem _ h⟩
 | pars =>
   cases hk
   obtain ⟨_, p1, e1, e⟩ := ja0 e
   obtain ⟨it1, p2, e2, e⟩ := ja0 e
   obtain ⟨_, p3, e3, e⟩ := ja0 e
   cases e
   have m1 := jo9 h (by decide) e1
   obtain ⟨r2, h2, l, rfl⟩ := j8s hc rfl _ _ _ _ _ m1.ps e2
   have m3 := jp0 h2 (by decide) e3
   exact ⟨(Rn.un m1 (jd5 hc (by decide)) rfl rfl rfl rfl rfl).trans (r2.trans (.un m3 (jd5 hc (by decide)) rfl rfl rfl rfl rfl)), m3.ps, hU, .none _, keep⟩
end
theorem j45 {α β : Type} {x : Option α} {f : α → β} {b : β} (h : x.map f = some b) : ∃ a, x = some a ∧ f a = b := by
 cases x with
 | none => cases h
 | some a => exact ⟨a, rfl, Option.some.inj h⟩
theorem jp1 {α β : Type} {x : Option α} {f : α → Option β} {b : β} (h : x.bind f = some b) : ∃ a, x = some a ∧ f a = some b := by
 cases x with
 | none => cases h
 | some a => exact ⟨a, rfl, h⟩
section
variable {s : List UInt8} {c : Int → Bool} {y : Pz}
theorem ym0 {kn : Option Int} {p q : PS} {it : It} {v : Bool × It} : ∀ (t : Sp), t.run y p it = .ok v q → v.1 = true → Kn (match t with | .see _ k => some k | _ => none) q := by
 intro t e h
 cases t <;> first | exact .none _ | skip
 case see b k =>
   cases e
   intro k' e'
   cases e'
   simpa using h
def Go2 (r : Option Int × Option (List Nat)) (x : It) (q : PS) : Prop := ∃ u, r.2 = some u ∧ Un u x ∧ Kn r.1 q
theorem rc_c (hc : Cls c) (hs : y.s = s) (EX : ExC s c y.ex) (RU : ∀ kd, ItC s c (y.ru kd)) : ∀ (x : Rc) {kn : Option Int} {u : List Nat} {r : Option Int × Option (List Nat)} {p q : PS} {it : It} {v : Bool × It}, x.chk kn u = some r → Kn kn p → Un u it → Ps s p → x.run y p it = .ok v q → Rn s c p it q v.2 ∧ Ps s q ∧ (v.1 = false → Go2 r v.2 q)
 | .sp _ t, kn, u, r, p, q, it, v, hk, hK, hU, h, e => by
   obtain ⟨u', h1, rfl⟩ := j45 hk
   obtain ⟨w, p1, e1, e⟩ := ja0 e
   cases e
   obtain ⟨a, b, d, g, _⟩ := sp_c hc hs EX RU t h1 hK hU h e1
   exact ⟨a, b, fun _ => ⟨_, rfl, d, g⟩⟩
 | .br _ t x z, kn, u, r, p, q, it, v, hk, hK, hU, h, e => by
   obtain ⟨u1, h1, hk⟩ := jp1 hk
   obtain ⟨a, h2, hk⟩ := jp1 hk
   obtain ⟨b, h3, rfl⟩ := j45 hk
   obtain ⟨w, p1, e1, e⟩ := ja0 e
   obtain ⟨r1, k1, k2, _, _⟩ := sp_c hc hs EX RU t h1 hK hU h e1
   cases hw : w.1 with
   | true =>
     rw [hw] at e
     obtain ⟨r2, k3, k4⟩ := rc_c hc hs EX RU x h2 (ym0 (kn := kn) t e1 hw) k2 k1 e
     refine ⟨r1.trans r2, k3, fun hv => ?_⟩
     obtain ⟨ua, e3, k5, _⟩ := k4 hv
     rw [e3]
     cases b.2 with
     | none => exact ⟨ua, rfl, k5, .none _⟩
     | some ub => exact ⟨_, rfl, k5.sub fun _ h => List.mem_append_left _ h, .none _⟩
   | false =>
     rw [hw] at e
     obtain ⟨r2, k3, k4⟩ := rc_c hc hs EX RU z h3 (.none _) k2 k1 e
     refine ⟨r1.trans r2, k3, fun hv => ?_⟩
     obtain ⟨ub, e3, k5, _⟩ := k4 hv
     rw [e3]
     cases a.2 with
     | none => exact ⟨ub, rfl, k5, .none _⟩
     | some ua => exact ⟨_, rfl, k5.sub fun _ h => List.mem_append_right _ h, .none _⟩
 | .sq x z, kn, u, r, p, q, it, v, hk, hK, hU, h, e => by
   obtain ⟨a, h1, hk⟩ := jp1 hk
   obtain ⟨w, p1, e1, e⟩ := ja0 e
   obtain ⟨r1, k1, k2⟩ := rc_c hc hs EX RU x h1 hK hU h e1
   cases hw : w.1 with
   | true =>
     rw [hw] at e
     cases e
     exact ⟨r1, k1, fun e => by rw [hw] at e; cases e⟩
   | false =>
     rw [hw] at e
     obtain ⟨ua, e3, k3, k4⟩ := k2 hw
     rw [e3] at hk
     obtain ⟨r2, k5, k6⟩ := rc_c hc hs EX RU z hk k4 k3 k1 e
     exact ⟨r1.trans r2, k5, k6⟩
 | .blk _ x, kn, u, r, p, q, it, v, hk, hK, hU, h, e => rc_c hc hs EX RU x (kn := kn) hk hK hU h e
 | .skip, kn, u, r, p, q, it, v, hk, hK, hU, h, e => by
   cases hk; cases e
   exact ⟨.refl h, h, fun _ => ⟨_, rfl, hU, hK⟩⟩
 | .ret, kn, u, r, p, q, it, v, hk, hK, hU, h, e => by
   cases hk; cases e
   exact ⟨.refl h, h, fun e => by cases e⟩
theorem ym1 (hc : Cls c) (hs : y.s = s) (EX : ExC s c y.ex) (RU : ∀ kd, ItC s c (y.ru kd)) {x : Rc} (hx : (x.chk none []).isSome = true) {kd : Int} {p q : PS} {v : Nat} (h : Ps s p) (hk : okk p.k.kind = true) (e : itemP y kd x p = .ok v q) :
   ∃ nn ii l, Mv s p q nn ii l ∧ v = p.its.length ∧ v < q.its.length ∧ (∀ j, (kidsN nn).count j + (rowsIs ii).count j = rng p.nds.length q.nds.length j) ∧ (∀ j, (kidsIs ii).count j = rng (v + 1) q.its.length j) ∧ l.countP c = wN c nn + wIs c ii := by
 subst hs
 unfold itemP at e
 obtain ⟨it', q1, e1, e⟩ := ja0 e
 cases e
 obtain ⟨r, hr⟩ := Option.isSome_iff_exists.1 hx
 unfold Rc.rd at e1
 obtain ⟨w, q2, e1, e⟩ := ja0 e1
 cases e
 have h0 : Ps y.s (addIt p (it0 kd p.at_)) := ⟨h.le, h.to_, h.tok, h.word⟩
 have hk0 := (jh5 hk).1
 have hn := jo7 h0
 have hlt : p.at_ < (beginP y.s kd p).at_ := yb6 h0 hk0
 obtain ⟨_, b2, b3⟩ := jd1 y.s (addIt p (it0 kd p.at_))
 have b2 : (beginP y.s kd p).its = p.its ++ [it0 kd p.at_] := b2
 have b3 : (beginP y.s kd p).nds = p.nds := b3
 obtain ⟨⟨nn, ii, l, m, c1, c2, c3, c4, c5⟩, hp, _⟩ := rc_c hc rfl EX RU x hr (.none _) (⟨fun _ => rfl, fun _ => rfl, fun _ => rfl, fun _ => rfl, fun _ => rfl, fun _ => rfl, fun _ => rfl⟩ : Un [] (it0 kd p.at_)) hn.1 e1
 have hl := m.len
 rw [show (nextP y.s (addIt p (it0 kd p.at_))) = beginP y.s kd p from rfl] at *
 rw [b2, b3, List.length_append, List.length_singleton] at hl
 have hi : (q1.its).set p.its.length w.2 = p.its ++ w.2 :: ii := by
   rw [m.its, b2, List.append_assoc, List.set_append_right _ _ (Nat.le_refl _), Nat.sub_self]
   rfl
 have hz : rowsI (it0 kd p.at_) = [] := rfl
 have hz2 : kidsI (it0 kd p.at_) = [] := rfl
 have hz3 : wI c (it0 kd p.at_) = 0 := by simp [wI, wF, wFs, it0, rf0]
 refine ⟨nn, w.2 :: ii, p.k.kind :: l, ⟨.cons rfl hk0 ?_, ⟨hp.le, hp.to_, hp.tok, hp.word⟩, by have := m.le; show p.at_ ≤ q1.at_; omega, by show q1.nds = _; rw [m.nds, b3], hi, fun i hi' => ?_, fun i hi' => ?_, ?_⟩, rfl, ?_, fun j => ?_, fun j => ?_, ?_⟩
 · have : core (nextP y.s p) = core (beginP y.s kd p) := jy6 rfl
   rw [this]
   exact m.eat
 · have := m.nok i hi'
   rwa [b3] at this
 · show ItOk _ ((q1.its).set p.its.length w.2).length _
   rw [List.length_set]
   cases i with
   | zero =>
     refine c5 p.its.length (by rw [b2]; simp) ?_
     unfold ItOk
     rw [hz2]
     exact ⟨.nil, (fun j hj => by cases hj), fun f hf => by cases hf⟩
   | succ i =>
     have := m.iok i (by simpa using hi')
     rw [b2, List.length_append, List.length_singleton] at this
     rw [show p.its.length + (i + 1) = p.its.length + 1 + i by omega]
     exact this
 · refine ⟨?_, ?_⟩
   · rw [c4]; exact Nat.le_refl _
   · rw [c4]
     exact jo6 (show p.at_ + 1 ≤ (beginP y.s kd p).at_ by omega) m.pos
 · show p.its.length < ((q1.its).set p.its.length w.2).length
   rw [List.length_set]; omega
 · have := c1 j
   rw [hz, b3] at this
   show _ = rng p.nds.length q1.nds.length j
   simp only [rowsIs, List.flatMap_cons, List.count_append, List.count_nil] at this ⊢
   omega
 · have := c2 j
   rw [hz2, b2] at this
   show _ = rng (p.its.length + 1) ((q1.its).set p.its.length w.2).length j
   rw [List.length_set]
   simp only [kidsIs, List.flatMap_cons, List.count_append, List.count_nil, List.length_append, List.length_singleton] at this ⊢
   omega
 · rw [hz3] at c3
   have : wIs c (w.2 :: ii) = wI c w.2 + wIs c ii := by simp [wIs]
   rw [List.countP_cons, this, hc.no hk]
   simp
   omega
def fitT (t : List (Int × Int × Rc)) : Bool := t.all fun d => okk d.1 && (d.2.2.chk none []).isSome
theorem ym2 (hc : Cls c) (hs : y.s = s) (EX : ExC s c y.ex) (RU : ∀ kd, ItC s c (y.ru kd)) : ∀ (t : List (Int × Int × Rc)), fitT t = true → ItC s c (dclP y t)
 | [], _ => fun _ _ _ _ e => by cases e
 | (w, kd, x) :: t, ht => fun p v q h e => by
   simp only [fitT, List.all_cons, Bool.and_eq_true] at ht
   unfold dclP at e
   split at e
   · rename_i hk
     exact ym1 hc hs EX RU ht.1.2 h (by rw [hk]; exact ht.1.1) e
   · exact ym2 hc hs EX RU t ht.2 p v q h e
theorem j7h : ∀ kd, fitT (ruleT kd) = true
 | 0 => by decide +kernel
 | 1 => by decide +kernel
 | 2 => by decide +kernel
 | 3 => by decide +kernel
 | 4 => by decide +kernel
 | 5 => by decide +kernel
 | kd + 6 => by show fitT (ruleT 6) = true; decide +kernel
theorem j8t (hc : Cls c) (n : Nat) : ∀ m kd, ItC s c (ruleP s n m kd)
 | 0, _ => fun _ _ _ _ e => by cases e
 | m + 1, kd => ym2 (y := ⟨s, exprP s n, n, ruleP s n m⟩) hc rfl (j43 hc n) (j8t hc n m) (ruleT kd) (j7h kd)
structure TrOk (s : List UInt8) (tr : Tr) : Prop where
 nok : ∀ i (h : i < tr.nds.length), NdOk i tr.nds[i]
 iok : ∀ i (h : i < tr.its.length), ItOk i tr.its.length tr.its[i]
 pos : ∃ b, b ≤ s.length ∧ posL tr.its 0 b
 top : tr.top.Pairwise (· < ·)
 topl : ∀ j ∈ tr.top, j < tr.its.length
 ns : ∀ j, (kidsN tr.nds).count j + (rowsIs tr.its).count j = rng 0 tr.nds.length j
 is : ∀ j, tr.top.count j + (kidsIs tr.its).count j = rng 0 tr.its.length j
theorem j8u (s : List UInt8) : Ps s ps0 := ⟨Nat.le_refl _, Nat.zero_le _, fun h => absurd rfl h, fun h => by cases h⟩
theorem yb7 (hc : Cls c) {tr : Tr} {q : PS} (e : parseP s = .ok tr q) : TrOk s tr ∧ ∃ l, Eat s (core (nextP s ps0)) (core q) l ∧ q.k.kind = 0 ∧ s.length ≤ q.at_ ∧ l.countP c = wN c tr.nds + wIs c tr.its + (c 1).toNat := by
 unfold parseP at e
 obtain ⟨_, p1, e1, e⟩ := ja0 e
 obtain ⟨f, p2, e2, e⟩ := ja0 e
 obtain ⟨b, p3, e3, e⟩ := ja0 e
 split at e
 · cases e
 rename_i hl
 cases e
 have h0 := (jo7 (j8u s)).1
 have m1 := jo8 h0 (by decide) e1
 obtain ⟨m2, w1, w2⟩ := jv0 m1.ps e2
 obtain ⟨nn, ii, l, m3, a1, a2, a3, a4, a5⟩ := jv1 hc (j8t hc _ _ 6) m2.ps e3
 obtain ⟨_, z2, z3⟩ := jd1 s ps0
 have z2 : (nextP s ps0).its = [] := z2
 have z3 : (nextP s ps0).nds = [] := z3
 have n2 : p2.nds = [] := by have := m2.nds; have g := m1.nds; rw [z3] at g; simpa [g] using this
 have i2 : p2.its = [] := by have := m2.its; have g := m1.its; rw [z2] at g; simpa [g] using this
 have n3 : q.nds = nn := by have := m3.nds; rwa [n2, List.nil_append] at this
 have i3 : q.its = ii := by have := m3.its; rwa [i2, List.nil_append] at this
 refine ⟨⟨fun i hi => ?_, fun i hi => ?_, ⟨q.at_, Nat.le_trans m3.ps.le m3.ps.to_, ?_⟩, a1, fun j hj => (a2 j hj).2, fun j => ?_, fun j => ?_⟩, _, m1.eat.app (m2.eat.app m3.eat), ?_, by omega, ?_⟩
 · have := m3.nok i (by rw [← n3]; exact hi)
   rw [n2] at this
   simpa [n3] using this
 · have := m3.iok i (by rw [← i3]; exact hi)
   rw [i2] at this
   simpa [i3] using this
 · show posL q.its 0 q.at_
   rw [i3]
   exact jo6 (Nat.zero_le _) m3.pos
 · have := a3 j
   rw [n2] at this
   show (kidsN q.nds).count j + (rowsIs q.its).count j = rng 0 q.nds.length j
   rw [i3]
   rw [n3] at this ⊢
   exact this
 · have := a4 j
   rw [i2] at this
   show b.count j + (kidsIs q.its).count j = rng 0 q.its.length j
   rw [i3] at this ⊢
   exact this
 · by_cases hk : q.k.kind = 0
   · exact hk
   · have := m3.ps.tok hk
     have := m3.ps.to_
     omega
 · show _ = wN c q.nds + wIs c q.its + _
   rw [n3, i3, List.countP_append, List.countP_append, a5, jd5 hc (by decide)]
   have : ([1] : List Int).countP c = (c 1).toNat := by
     rw [List.countP_cons, List.countP_nil]
     cases c 1 <;> rfl
   omega
end
theorem cls1 (u : UInt8) : (clsI u = 1) = (blankI u = true) := by
 have := jc2 (p := fun u => (decide (clsI u = 1)) == blankI u) (by decide +kernel) u
 simp only [beq_iff_eq] at this
 rw [← this]; simp
theorem cls2 (u : UInt8) : (clsI u = 2) = (u = 35) := by
 have := jc2 (p := fun u => (decide (clsI u = 2)) == decide (u = 35)) (by decide +kernel) u
 simp only [beq_iff_eq] at this
 simpa using this
theorem cls5 (u : UInt8) : (clsI u = 5) = (u = 34) := by
 have := jc2 (p := fun u => (decide (clsI u = 5)) == decide (u = 34)) (by decide +kernel) u
 simp only [beq_iff_eq] at this
 simpa using this
theorem cls34 (u : UInt8) : (clsI u = 4 ∨ clsI u = 3) = (wbI u = true) := by
 have := jc2 (p := fun u => (decide (clsI u = 4 ∨ clsI u = 3)) == wbI u) (by decide +kernel) u
 simp only [beq_iff_eq] at this
 rw [← this]; simp
theorem jy7 {s : List UInt8} {i : Nat} : isW s i = (decide (i < s.length) && wbI (s.getD i 0)) := by
 have := cls34 (s.getD i 0)
 unfold isW isI
 cases h : decide (i < s.length) with
 | false => rfl
 | true =>
   simp only [Bool.true_and]
   cases hw : wbI (s.getD i 0) with
   | true => rw [hw] at this; simpa using this
   | false =>
     rw [hw] at this
     simp only [Bool.false_eq_true, eq_iff_iff, iff_false, not_or] at this
     rw [Bool.or_eq_false_iff, beq_eq_false_iff_ne, beq_eq_false_iff_ne]; exact this
theorem jp2 (s : List UInt8) : ∀ (n m i : Nat), i + n = s.length → 0 < n → n ≤ m → s.getD i 0 ≠ 10 → lineEnd s n i = hashE s m i + 1
 | 0, _, _, _, h, _, _ => absurd h (Nat.lt_irrefl _)
 | n + 1, 0, _, _, _, h, _ => by omega
 | n + 1, m + 1, i, hi, _, hm, h10 => by
   rw [lineEnd, if_neg h10, hashE]
   by_cases hn : n = 0
   · subst hn
     rw [if_neg (by omega), lineEnd]
   · by_cases h1 : s.getD (i + 1) 0 = 10
     · rw [if_neg (fun c => c.2 h1)]
       obtain ⟨k, rfl⟩ : ∃ k, n = k + 1 := ⟨n - 1, by omega⟩
       rw [lineEnd, if_pos h1]
     · rw [if_pos ⟨by omega, h1⟩]
       exact jp2 s n m (i + 1) (by omega) (by omega) (by omega) h1
theorem j0n (s : List UInt8) : ∀ (d n m i : Nat), s.length - i ≤ d → i ≤ s.length → s.length - i ≤ n → s.length - i ≤ m → skipTo s n i = skipP s m i
 | d, n, m, i, hd, hi, hn, hm => by
   by_cases hl : i < s.length
   · obtain ⟨n, rfl⟩ : ∃ k, n = k + 1 := ⟨n - 1, by omega⟩
     obtain ⟨m, rfl⟩ : ∃ k, m = k + 1 := ⟨m - 1, by omega⟩
     obtain ⟨d, rfl⟩ : ∃ k, d = k + 1 := ⟨d - 1, by omega⟩
     have c1 := cls1 (s.getD i 0)
     have c2 := cls2 (s.getD i 0)
     rw [skipTo, skipP, if_pos hl]
     by_cases h1 : blankI (s.getD i 0) = true
     · rw [if_pos h1, if_pos (by rw [isI, decide_eq_true hl, c1.mpr h1]; rfl)]
       exact j0n s d n m (i + 1) (by omega) (by omega) (by omega) (by omega)
     · rw [if_neg h1, if_neg (by simp only [isI, Bool.and_eq_true, beq_iff_eq, not_and]; exact fun _ h => h1 (c1.mp h))]
       by_cases h2 : s.getD i 0 = 35
       · rw [if_pos h2, if_pos (by rw [isI, decide_eq_true hl, c2.mpr h2]; rfl)]
         have e := jp2 s (s.length - i) (s.length - i) i (by omega) (by omega) (Nat.le_refl _) (by rw [h2]; decide)
         rw [e]
         have := ji7 s (s.length - i) i hl
         exact j0n s d n m _ (by omega) (by omega) (by omega) (by omega)
       · rw [if_neg h2, if_neg (by simp only [isI, Bool.and_eq_true, beq_iff_eq, not_and]; exact fun _ h => h2 (c2.mp h))]
   · have h0 : i = s.length := by omega
     have e1 : ∀ n, skipTo s n i = i := fun n => by
       cases n with
       | zero => rfl
       | succ n => rw [skipTo, if_neg (by simp [isI, hl]), if_neg (by simp [isI, hl])]
     have e2 : ∀ n, skipP s n i = i := fun n => by
       cases n with
       | zero => rfl
       | succ n => rw [skipP, if_neg hl]
     rw [e1, e2]
theorem jf0 {s : List UInt8} {i : Nat} (h : i ≤ s.length) : jb2 s i = skipTo s (s.length - i) i := (j0n s (s.length - i) _ _ i (Nat.le_refl _) h (Nat.le_refl _) (by omega)).symm
structure Prt (s w : List UInt8) (i : Nat) : Prop where
 le : i + w.length ≤ s.length
 at_ : ∀ j, j < w.length → w.getD j 0 = s.getD (i + j) 0
theorem j8v (s : List UInt8) {i e : Nat} (h1 : i ≤ e) (h2 : e ≤ s.length) : Prt s ((s.drop i).take (e - i)) i ∧ ((s.drop i).take (e - i)).length = e - i := by
 have hl : ((s.drop i).take (e - i)).length = e - i := by simp; omega
 refine ⟨⟨by omega, fun j hj => ?_⟩, hl⟩
 rw [hl] at hj
 simp only [List.getD_eq_getElem?_getD]
 rw [List.getElem?_take, if_pos hj, List.getElem?_drop]
section
variable {s w : List UInt8} {i : Nat}
theorem Prt.isI (h : Prt s w i) {j : Nat} (hj : j < w.length) (k : Int) : isI w j k = isI s (i + j) k := by
 have := h.le
 have h1 : i + j < s.length := by omega
 rw [Am.isI, Am.isI, decide_eq_true hj, decide_eq_true h1, h.at_ j hj]
theorem Prt.isW (h : Prt s w i) {j : Nat} (hj : j < w.length) : isW w j = isW s (i + j) := by unfold Am.isW; rw [h.isI hj, h.isI hj]
theorem jh6 {w : List UInt8} {j : Nat} (h : w.length ≤ j) (k : Int) : isI w j k = false := by simp [isI]; omega
theorem j0o {w : List UInt8} {j : Nat} (h : w.length ≤ j) : isW w j = false := by unfold isW; rw [jh6 h, jh6 h]; rfl
def Stop (s w : List UInt8) (i : Nat) : Prop := isW s (i + w.length) = false
theorem Stop.isI (h : Stop s w i) {k : Int} (hk : k = 3 ∨ k = 4) : isI s (i + w.length) k = false := by
 unfold Stop Am.isW at h
 rw [Bool.or_eq_false_iff] at h
 rcases hk with rfl | rfl
 · exact h.2
 · exact h.1
def IR.sh (i : Nat) : IR → IR | .bad e => .bad (i + e) | .good n e => .good n (i + e)
theorem yb8 (h : Prt s w i) (hs : Stop s w i) {j n : Nat} (hj : j ≤ w.length) : endI s (i + j) n = (endI w j n).sh i := by
 unfold endI
 by_cases h1 : j < w.length
 · rw [h.isW h1]; split <;> rfl
 · have : j = w.length := by omega
   subst this
   rw [hs, j0o (Nat.le_refl _)]; rfl
theorem j2r (h : Prt s w i) (hs : Stop s w i) {j n : Nat} (hj : j ≤ w.length) : sufI s (i + j) n = (sufI w j n).sh i := by
 unfold sufI
 by_cases h1 : j < w.length
 · rw [h.isI h1, h.at_ j h1]
   have e := fun n => yb8 (n := n) h hs (j := j + 1) h1
   simp only [mulI]
   repeat' split
   all_goals first | rfl | exact e _ | exact yb8 h hs hj
 · have : j = w.length := by omega
   subst this
   rw [hs.isI (.inr rfl), jh6 (Nat.le_refl _)]
   exact yb8 h hs (Nat.le_refl _)
theorem ym3 (h : Prt s w i) (hs : Stop s w i) : ∀ (m k j n : Nat), j ≤ w.length → w.length - j ≤ k → w.length - j ≤ m → decI s m (i + j) n = (decI w k j n).sh i
 | 0, k, j, n, hj, hk, hm => by
   have : j = w.length := by omega
   subst this
   rw [decI]
   cases k with
   | zero => exact j2r h hs hj
   | succ k => rw [decI, jh6 (Nat.le_refl _)]; exact j2r h hs hj
 | m + 1, k, j, n, hj, hk, hm => by
   rw [decI]
   by_cases h1 : j < w.length
   · obtain ⟨k, rfl⟩ : ∃ k', k = k' + 1 := ⟨k - 1, by omega⟩
     rw [decI, h.isI h1, h.at_ j h1]
     split
     · split
       · exact ym3 h hs m k (j + 1) _ h1 (by omega) (by omega)
       · rfl
     · exact j2r h hs hj
   · have : j = w.length := by omega
     subst this
     rw [hs.isI (.inl rfl)]
     cases k with
     | zero => exact j2r h hs hj
     | succ k => rw [decI, jh6 (Nat.le_refl _)]; exact j2r h hs hj
end
theorem ym4 (u : UInt8) (h : hexT u.toNat < 16) : wbI u = true := by
 have := jc2 (p := fun u => !(decide (hexT u.toNat < 16)) || wbI u) (by decide +kernel) u
 simpa [h] using this
theorem ym5 (u : UInt8) (h : ¬ hexT u.toNat = 16) : u ≠ 34 ∧ u ≠ 92 := by
 have := jc2 (p := fun u => (decide (hexT u.toNat = 16)) || (!(decide (u = 34)) && !(decide (u = 92)))) (by decide +kernel) u
 simpa [h] using this
theorem jj1 {w : List UInt8} {j : Nat} (h : w.length ≤ j) : w.getD j 0 = 0 := by simp [List.getD, List.getElem?_eq_none h]
section
variable {s w : List UInt8} {i : Nat}
theorem jy8 (h : Prt s w i) (hs : Stop s w i) {fr j n : Nat} (hj : j ≤ w.length) : endH s (i + fr) (i + j) n = (endH w fr j n).sh i := by
 unfold endH
 by_cases e : j = fr
 · rw [if_pos e, if_pos (by omega)]; rfl
 · rw [if_neg e, if_neg (by omega)]
   exact j2r h hs hj
theorem yt1 (h : Prt s w i) (hs : Stop s w i) {fr : Nat} : ∀ (m k j n : Nat), j ≤ w.length → w.length - j ≤ k → w.length - j ≤ m → hexI s (i + fr) m (i + j) n = (hexI w fr k j n).sh i := by
 have out : ∀ {v : List UInt8} {j : Nat}, v.length ≤ j → ¬ hexT (v.getD j 0).toNat < 16 := fun h => by rw [jj1 h]; decide
 have outs : ¬ hexT (s.getD (i + w.length) 0).toNat < 16 := fun c => by
   have h1 := ym4 _ c
   have : i + w.length < s.length := by
     rcases Nat.lt_or_ge (i + w.length) s.length with h | h
     · exact h
     · exact absurd c (out h)
   unfold Stop at hs
   rw [jy7, decide_eq_true this, h1] at hs
   cases hs
 intro m
 induction m with
 | zero =>
   intro k j n hj hk hm
   have : j = w.length := by omega
   subst this
   rw [hexI]
   cases k with
   | zero => exact jy8 h hs hj
   | succ k => rw [hexI, if_neg (out (Nat.le_refl _))]; exact jy8 h hs hj
 | succ m ih =>
   intro k j n hj hk hm
   rw [hexI]
   by_cases h1 : j < w.length
   · obtain ⟨k, rfl⟩ : ∃ k', k = k' + 1 := ⟨k - 1, by omega⟩
     rw [hexI, h.at_ j h1]
     split
     · split
       · exact ih k (j + 1) _ h1 (by omega) (by omega)
       · rfl
     · exact jy8 h hs hj
   · have : j = w.length := by omega
     subst this
     rw [if_neg outs]
     cases k with
     | zero => exact jy8 h hs hj
     | succ k => rw [hexI, if_neg (out (Nat.le_refl _))]; exact jy8 h hs hj
theorem yt2 (h : Prt s w i) (hs : Stop s w i) (h0 : 0 < w.length) : intI s i = (intI w 0).sh i := by
 have hle := h.le
 have a0 := h.at_ 0 h0
 rw [Nat.add_zero] at a0
 have hd := ym3 h hs (s.length - i) (w.length - 0) 0 0 (Nat.zero_le _) (by omega) (by omega)
 unfold intI
 rw [a0]
 by_cases h1 : 1 < w.length
 · have a1 := h.at_ 1 h1
   rw [show (0 : Nat) + 1 = 1 from rfl, a1]
   by_cases hc : s.getD i 0 = 48 ∧ s.getD (i + 1) 0 = 120
   · rw [if_pos ⟨hc.1, by omega, hc.2⟩, if_pos ⟨hc.1, h1, hc.2⟩]
     exact yt1 h hs (fr := 2) _ _ 2 0 h1 (by omega) (by omega)
   · rw [if_neg (fun c => hc ⟨c.1, c.2.2⟩), if_neg (fun c => hc ⟨c.1, c.2.2⟩)]
     exact hd
 · have e1 : w.length = 1 := by omega
   have : ¬ (s.getD i 0 = 48 ∧ i + 1 < s.length ∧ s.getD (i + 1) 0 = 120) := fun c => by
     unfold Stop at hs
     rw [e1, jy7, decide_eq_true c.2.1, c.2.2] at hs
     cases hs
   rw [if_neg this, if_neg (fun c => by omega)]
   exact hd
theorem ym6 {s : List UInt8} {i n m e : Nat} (h : endI s i n = .good m e) : isW s e = false := by
 have := jn7 h
 subst this
 unfold endI at h
 split at h
 · cases h
 · rename_i hw; simpa using hw
theorem j46 {s : List UInt8} {i n m e : Nat} (h : sufI s i n = .good m e) : isW s e = false := by
 unfold sufI mulI at h
 repeat' split at h
 all_goals first | exact ym6 h | cases h
theorem j8w {s : List UInt8} : ∀ (f i n m e : Nat), decI s f i n = .good m e → isW s e = false
 | 0, _, _, _, _, h => j46 h
 | f + 1, i, n, m, e, h => by
   unfold decI at h
   split at h
   · split at h
     · exact j8w f _ _ _ _ h
     · cases h
   · exact j46 h
theorem j47 {s : List UInt8} {fr i n m e : Nat} (h : endH s fr i n = .good m e) : isW s e = false := by
 unfold endH at h
 split at h
 · cases h
 · exact j46 h
theorem j8x {s : List UInt8} {fr : Nat} : ∀ (f i n m e : Nat), hexI s fr f i n = .good m e → isW s e = false
 | 0, _, _, _, _, h => j47 h
 | f + 1, i, n, m, e, h => by
   unfold hexI at h
   split at h
   · split at h
     · exact j8x f _ _ _ _ h
     · cases h
   · exact j47 h
theorem ym7 {s : List UInt8} {i m e : Nat} (h : intI s i = .good m e) : isW s e = false := by
 unfold intI at h
 split at h
 · exact j8x _ _ _ _ _ h
 · exact j8w _ _ _ _ _ h
theorem jp3 {s : List UInt8} : ∀ (L n i : Nat), L ≤ n → (∀ j, j < L → isW s (i + j) = true) → isW s (i + L) = false → runTo s n i = i + L
 | 0, n, i, _, _, h => by
   cases n with
   | zero => rfl
   | succ n => rw [runTo, if_neg (by rw [Nat.add_zero] at h; simp [h])]; rfl
 | L + 1, n, i, hn, ha, h => by
   obtain ⟨n, rfl⟩ : ∃ k, n = k + 1 := ⟨n - 1, by omega⟩
   rw [runTo, if_pos (by have := ha 0 (by omega); rwa [Nat.add_zero] at this), jp3 L n (i + 1) (by omega) (fun j hj => by have := ha (j + 1) (by omega); rwa [show i + (j + 1) = i + 1 + j by omega] at this) (by rwa [show i + 1 + L = i + (L + 1) by omega])]
   omega
theorem j1v (s : List UInt8) : ∀ (n i : Nat), s.length - i ≤ n → (∀ j, i ≤ j → j < runW s n i → isW s j = true) ∧ isW s (runW s n i) = false
 | 0, i, h => ⟨fun j h1 h2 => by have h2 : j < i := h2; omega, j0o (by show s.length ≤ i; omega)⟩
 | n + 1, i, h => by
   unfold runW
   split
   · rename_i hc
     obtain ⟨a, b⟩ := j1v s n (i + 1) (by omega)
     refine ⟨fun j h1 h2 => ?_, b⟩
     by_cases e : j = i
     · subst e; rw [jy7, decide_eq_true hc.1, hc.2]; rfl
     · exact a j (by omega) h2
   · rename_i hc
     refine ⟨fun j h1 h2 => by omega, ?_⟩
     rw [jy7]
     by_cases hl : i < s.length
     · have : wbI (s.getD i 0) = false := by
         cases hw : wbI (s.getD i 0) with
         | false => rfl
         | true => exact absurd ⟨hl, hw⟩ hc
       rw [this, Bool.and_false]
     · rw [decide_eq_false hl]; rfl
theorem jp4 (h : Prt s w i) : ∀ (k m j : Nat) (o x : List UInt8) (e : Nat), j < w.length → k ≤ m → textI w k j o = .good x e → textI s m (i + j) o = .good x (i + e)
 | 0, _, _, _, _, _, _, _, e => by cases e
 | k + 1, m, j, o, x, e, hj, hm, ht => by
   obtain ⟨m, rfl⟩ : ∃ m', m = m' + 1 := ⟨m - 1, by omega⟩
   have hle := h.le
   unfold textI at ht ⊢
   by_cases j1 : j + 1 = w.length
   · rw [if_pos j1] at ht; cases ht
   rw [if_neg j1] at ht
   have q1 : j + 1 < w.length := by omega
   have a1 := h.at_ _ q1
   rw [a1] at ht
   rw [if_neg (by omega), show i + j + 1 = i + (j + 1) by omega]
   by_cases c34 : s.getD (i + (j + 1)) 0 = 34
   · rw [if_pos c34] at ht ⊢
     injection ht with e1 e2
     subst e1; subst e2; rfl
   rw [if_neg c34] at ht ⊢
   by_cases c92 : s.getD (i + (j + 1)) 0 = 92
   · rw [if_pos c92] at ht ⊢
     by_cases j2 : j + 2 = w.length
     · rw [if_pos j2] at ht; cases ht
     rw [if_neg j2] at ht
     have q2 : j + 2 < w.length := by omega
     have a2 := h.at_ _ q2
     rw [a2] at ht
     rw [if_neg (by omega), show i + j + 2 = i + (j + 2) by omega]
     by_cases c : s.getD (i + (j + 2)) 0 = 110
     · rw [if_pos c] at ht ⊢; exact jp4 h k m _ _ _ _ q2 (by omega) ht
     rw [if_neg c] at ht ⊢
     by_cases c : s.getD (i + (j + 2)) 0 = 116
     · rw [if_pos c] at ht ⊢; exact jp4 h k m _ _ _ _ q2 (by omega) ht
     rw [if_neg c] at ht ⊢
     by_cases c : s.getD (i + (j + 2)) 0 = 34
     · rw [if_pos c] at ht ⊢; exact jp4 h k m _ _ _ _ q2 (by omega) ht
     rw [if_neg c] at ht ⊢
     by_cases c : s.getD (i + (j + 2)) 0 = 92
     · rw [if_pos c] at ht ⊢; exact jp4 h k m _ _ _ _ q2 (by omega) ht
     rw [if_neg c] at ht ⊢
     by_cases c : s.getD (i + (j + 2)) 0 = 120
     · rw [if_pos c] at ht ⊢
       by_cases n3 : j + 3 = w.length ∨ hexT (w.getD (j + 3) 0).toNat = 16
       · rw [if_pos n3] at ht; cases ht
       rw [if_neg n3] at ht
       have q3 : j + 3 < w.length := by
         rcases Nat.lt_or_ge (j + 3) w.length with g | g
         · exact g
         · exact absurd (.inr (by rw [jj1 g]; decide)) n3
       have a3 := h.at_ _ q3
       rw [a3] at n3
       by_cases n4 : j + 4 = w.length ∨ hexT (w.getD (j + 4) 0).toNat = 16
       · rw [if_pos n4] at ht; cases ht
       rw [if_neg n4] at ht
       have q4 : j + 4 < w.length := by
         rcases Nat.lt_or_ge (j + 4) w.length with g | g
         · exact g
         · exact absurd (.inr (by rw [jj1 g]; decide)) n4
       have a4 := h.at_ _ q4
       rw [a4] at n4
       rw [a3, a4] at ht
       rw [show i + j + 3 = i + (j + 3) by omega, show i + j + 4 = i + (j + 4) by omega, if_neg (fun c => n3 (c.elim (fun c => by omega) .inr)), if_neg (fun c => n4 (c.elim (fun c => by omega) .inr))]
       exact jp4 h k m _ _ _ _ q4 (by omega) ht
     · rw [if_neg c] at ht; cases ht
   rw [if_neg c92] at ht ⊢
   by_cases c : (s.getD (i + (j + 1)) 0).toNat < 32 ∨ 126 < (s.getD (i + (j + 1)) 0).toNat
   · rw [if_pos c] at ht; cases ht
   rw [if_neg c] at ht ⊢
   exact jp4 h k m _ _ _ _ q1 (by omega) ht
theorem j1w : ∀ (k m j : Nat) (o x : List UInt8) (e : Nat), j < s.length → s.length ≤ j + 1 + m → textI s k j o = .good x e → qend s m (j + 1) + 1 = e
 | 0, _, _, _, _, _, _, _, e => by cases e
 | k + 1, m, j, o, x, e, hj, hm, ht => by
   unfold textI at ht
   by_cases j1 : j + 1 = s.length
   · rw [if_pos j1] at ht; cases ht
   rw [if_neg j1] at ht
   have q1 : j + 1 < s.length := by omega
   obtain ⟨m, rfl⟩ : ∃ m', m = m' + 1 := ⟨m - 1, by omega⟩
   unfold qend
   by_cases c34 : s.getD (j + 1) 0 = 34
   · rw [if_pos c34] at ht
     rw [if_neg (fun c => c.2 c34)]
     injection ht with e1 e2
   rw [if_neg c34] at ht
   rw [if_pos ⟨q1, c34⟩]
   by_cases c92 : s.getD (j + 1) 0 = 92
   · rw [if_pos c92] at ht ⊢
     by_cases j2 : j + 2 = s.length
     · rw [if_pos j2] at ht; cases ht
     rw [if_neg j2] at ht
     have q2 : j + 2 < s.length := by omega
     have go : ∀ {o}, textI s k (j + 2) o = .good x e → qend s m (j + 1 + 2) + 1 = e := fun ht => j1w k m (j + 2) _ _ _ q2 (by omega) ht
     by_cases c : s.getD (j + 2) 0 = 110
     · rw [if_pos c] at ht; exact go ht
     rw [if_neg c] at ht
     by_cases c : s.getD (j + 2) 0 = 116
     · rw [if_pos c] at ht; exact go ht
     rw [if_neg c] at ht
     by_cases c : s.getD (j + 2) 0 = 34
     · rw [if_pos c] at ht; exact go ht
     rw [if_neg c] at ht
     by_cases c : s.getD (j + 2) 0 = 92
     · rw [if_pos c] at ht; exact go ht
     rw [if_neg c] at ht
     by_cases c : s.getD (j + 2) 0 = 120
     · rw [if_pos c] at ht
       by_cases n3 : j + 3 = s.length ∨ hexT (s.getD (j + 3) 0).toNat = 16
       · rw [if_pos n3] at ht; cases ht
       rw [if_neg n3] at ht
       have q3 : j + 3 < s.length := by
         rcases Nat.lt_or_ge (j + 3) s.length with g | g
         · exact g
         · exact absurd (.inr (by rw [jj1 g]; decide)) n3
       by_cases n4 : j + 4 = s.length ∨ hexT (s.getD (j + 4) 0).toNat = 16
       · rw [if_pos n4] at ht; cases ht
       rw [if_neg n4] at ht
       have q4 : j + 4 < s.length := by
         rcases Nat.lt_or_ge (j + 4) s.length with g | g
         · exact g
         · exact absurd (.inr (by rw [jj1 g]; decide)) n4
       obtain ⟨x3, y3⟩ := ym5 (s.getD (j + 3) 0) fun c => n3 (.inr c)
       obtain ⟨x4, y4⟩ := ym5 (s.getD (j + 4) 0) fun c => n4 (.inr c)
       obtain ⟨m, rfl⟩ : ∃ m', m = m' + 2 := ⟨m - 2, by omega⟩
       rw [qend, if_pos ⟨by omega, x3⟩, if_neg y3, qend, if_pos ⟨by omega, x4⟩, if_neg y4]
       exact j1w k m (j + 4) _ _ _ q4 (by omega) ht
     · rw [if_neg c] at ht; cases ht
   rw [if_neg c92] at ht ⊢
   by_cases c : (s.getD (j + 1) 0).toNat < 32 ∨ 126 < (s.getD (j + 1) 0).toNat
   · rw [if_pos c] at ht; cases ht
   rw [if_neg c] at ht
   exact j1w k m (j + 1) _ _ _ q1 (by omega) ht
end
theorem ym8 {w : List UInt8} {tk : Tk} (h0 : 0 < w.length) (h1 : isI w 0 1 = false) (h2 : isI w 0 2 = false) (h : lex1 w = some tk) : lexI w 0 = .good tk := by
 have hs : ∀ n, skipTo w n 0 = 0 := fun n => by
   cases n with
   | zero => rfl
   | succ n => rw [skipTo, if_neg (by simp [h1]), if_neg (by simp [h2])]
 unfold lex1 toksI at h
 rw [hs, if_pos h0] at h
 cases hx : lexI w 0 with
 | bad e => rw [hx] at h; cases h
 | good t =>
   rw [hx] at h
   dsimp only at h
   generalize (toksI w w.length t.to_).1 = a at h
   generalize (toksI w w.length t.to_).2 = b at h
   cases a with
   | nil => cases b with
     | none => rw [Option.some.inj h]
     | some b => cases h
   | cons y a => cases b <;> cases h
theorem ym9 (u v : Int) (h : (signR u v).2 = 1) : signR u v = signR u 0 := by
 unfold signR at h ⊢
 by_cases h1 : u = 46
 · subst h1; by_cases g : v = 46
   · subst g; cases h
   · simp [g]
 by_cases h2 : u = 33
 · subst h2; by_cases g : v = 61
   · subst g; cases h
   · simp [g]
 by_cases h3 : u = 61
 · subst h3; by_cases g : v = 61
   · subst g; cases h
   · simp [g]
 by_cases h4 : u = 60
 · subst h4; by_cases g : v = 60
   · subst g; cases h
   · by_cases g' : v = 61
     · subst g'; cases h
     · simp [g, g']
 by_cases h5 : u = 62
 · subst h5; by_cases g : v = 62
   · subst g; cases h
   · by_cases g' : v = 61
     · subst g'; cases h
     · simp [g, g']
 simp [h1, h2, h3, h4, h5]
theorem yn4 (u v : Int) (h : (signR u v).2 = 2) : (signR u v).1 ≠ 0 := by
 unfold signR at h ⊢
 repeat' split
 all_goals first | decide | (simp_all)
section
variable {s : List UInt8} {i : Nat}
theorem yn5 (hi : i + 1 < s.length) (h1 : isI s i 1 = false) (h2 : isI s i 2 = false) (c6 : clsI (s.getD i 0) = 6) (e : (signR ((s.getD i 0).toNat : Int) (nextB s i)).2 = 2) : twoI s i = true := by
 obtain ⟨P, hl⟩ := j8v s (show i ≤ i + 2 by omega) (show i + 2 ≤ s.length by omega)
 rw [show i + 2 - i = 2 by omega] at P hl
 unfold twoI
 generalize (s.drop i).take 2 = w at *
 have h0 : 0 < w.length := by omega
 have a0 := P.at_ 0 h0
 have a1 := P.at_ 1 (by omega)
 have p1 := P.isI h0 1
 have p2 := P.isI h0 2
 rw [Nat.add_zero] at p1 p2 a0
 have hs : ∀ n, skipTo w n 0 = 0 := fun n => by
   cases n with
   | zero => rfl
   | succ n => rw [skipTo, if_neg (by simp [p1, h1]), if_neg (by simp [p2, h2])]
 have nb : nextB w 0 = nextB s i := by
   unfold nextB
   rw [if_pos (by omega), if_pos hi, a1]
 have hx : lexI w 0 = .good ⟨(signR ((s.getD i 0).toNat : Int) (nextB s i)).1, 0, .empty, 0, 2⟩ := by
   unfold lexI
   rw [a0, c6, if_neg (by decide), if_neg (by decide), if_neg (by decide), if_pos rfl]
   unfold signI
   rw [a0, nb, if_neg (yn4 _ _ e), e]
 have ht : toksI w w.length 2 = ([], none) := by
   rw [hl, toksI, if_neg]
   rw [hl]
   show ¬ skipTo w 0 2 < 2
   rw [skipTo]; omega
 have : lex1 w = some ⟨(signR ((s.getD i 0).toNat : Int) (nextB s i)).1, 0, .empty, 0, 2⟩ := by
   unfold lex1 toksI
   rw [hs, if_pos h0, hx]
   dsimp only
   rw [ht]
   rfl
 rw [this]
 rfl
theorem js3 (hi : i < s.length) (h : wbI (s.getD i 0) = true) : (∀ j, i ≤ j → j < reachI s i → isW s j = true) ∧ isW s (reachI s i) = false := by
 obtain ⟨a, b⟩ := j1v s (s.length - (i + 1)) (i + 1) (Nat.le_refl _)
 unfold reachI
 rw [if_pos h]
 refine ⟨fun j h1 h2 => ?_, b⟩
 by_cases e : j = i
 · subst e; rw [jy7, decide_eq_true hi, h]; rfl
 · exact a j (by omega) h2
theorem yn6 (hi : i < s.length) (h1 : isI s i 1 = false) (h2 : isI s i 2 = false) {tk : Tk} (h : lex1 ((s.drop i).take (reachI s i - i)) = some tk) : ∃ tk', lexI s i = .good tk' ∧ tk'.kind = tk.kind ∧ tk'.to_ = reachI s i := by
 obtain ⟨r1, r2⟩ := ji6 s hi
 obtain ⟨P, hl⟩ := j8v s (Nat.le_of_lt r1) r2
 have h0 : 0 < ((s.drop i).take (reachI s i - i)).length := by omega
 have hw : i + ((s.drop i).take (reachI s i - i)).length = reachI s i := by omega
 have p1 := P.isI h0 1
 have p2 := P.isI h0 2
 rw [Nat.add_zero] at p1 p2
 have hx := ym8 h0 (p1.trans h1) (p2.trans h2) h
 have a0 := P.at_ 0 h0
 rw [Nat.add_zero] at a0
 have ht := (jy0 h0 hx).2
 generalize hW : (s.drop i).take (reachI s i - i) = w at *
 unfold lexI at hx ⊢
 rw [a0] at hx
 by_cases c3 : clsI (s.getD i 0) = 3
 · rw [if_pos c3] at hx ⊢
   obtain ⟨k1, k2⟩ := js3 hi ((cls34 _).mp (.inr c3))
   have hs : Stop s w i := by unfold Stop; rw [hw]; exact k2
   rw [yt2 P hs h0]
   cases hn : intI w 0 with
   | bad e => rw [hn] at hx; cases hx
   | good n e =>
     rw [hn] at hx
     cases hx
     have he : e = w.length := by
       rcases Nat.lt_or_ge e w.length with g | g
       · have := ym7 hn
         rw [P.isW g] at this
         rw [k1 (i + e) (by omega) (by omega)] at this
         cases this
       · have : e ≤ w.length := ht.2
         omega
     subst he
     exact ⟨_, rfl, rfl, hw⟩
 rw [if_neg c3] at hx ⊢
 by_cases c4 : clsI (s.getD i 0) = 4
 · rw [if_pos c4] at hx ⊢
   obtain ⟨k1, k2⟩ := js3 hi ((cls34 _).mp (.inl c4))
   have e1 : runTo w (w.length - 0) 0 = 0 + w.length := jp3 w.length _ 0 (by omega) (fun j hj => by rw [P.isW (by omega)]; exact k1 _ (by omega) (by omega)) (j0o (by omega))
   have e2 : runTo s (s.length - i) i = i + w.length := jp3 w.length _ i (by omega) (fun j hj => k1 _ (by omega) (by omega)) (by rw [hw]; exact k2)
   unfold wordI at hx ⊢
   rw [e1] at hx
   rw [e2]
   have hd : (w.drop 0).take (0 + w.length - 0) = w := by simp
   have hd2 : (s.drop i).take (i + w.length - i) = w := by rw [hw]; exact hW
   rw [hd] at hx
   rw [hd2]
   split at hx
   · rename_i hle
     cases hx
     rw [if_pos (by omega)]
     exact ⟨_, rfl, rfl, hw⟩
   · cases hx
 rw [if_neg c4] at hx ⊢
 by_cases c5 : clsI (s.getD i 0) = 5
 · rw [if_pos c5] at hx ⊢
   cases hn : textI w (w.length - 0) 0 [] with
   | bad e => rw [hn] at hx; cases hx
   | good x e =>
     rw [hn] at hx
     cases hx
     have t1 := jp4 P _ (s.length - i) 0 [] x e h0 (by have := P.le; omega) hn
     rw [Nat.add_zero] at t1
     have t2 := j1w (s.length - i) (s.length - (i + 1)) i [] x (i + e) hi (by omega) t1
     have q := (cls5 _).mp c5
     have hr : reachI s i = i + e := by
       have hle := P.le
       have ht2 : e ≤ w.length := ht.2
       unfold reachI
       rw [if_neg (by rw [q]; decide), if_pos q, t2, Nat.min_eq_left (by omega)]
     rw [t1, hr]
     exact ⟨_, rfl, rfl, rfl⟩
 rw [if_neg c5] at hx ⊢
 by_cases c6 : clsI (s.getD i 0) = 6
 · rw [if_pos c6] at hx ⊢
   have nw : ¬ wbI (s.getD i 0) = true := fun c => by rcases (cls34 _).mpr c with g | g <;> rw [c6] at g <;> cases g
   have nq : ¬ s.getD i 0 = 34 := fun c => by have := (cls5 _).mpr c; rw [c6] at this; cases this
   have hr : reachI s i = if i + 1 < s.length then (if twoI s i = true then i + 2 else i + 1) else i + 1 := by
     unfold reachI; rw [if_neg nw, if_neg nq]
   unfold signI at hx ⊢
   rw [a0] at hx
   split at hx
   · cases hx
   rename_i hne
   cases hx
   by_cases g1 : w.length = 1
   · -- one byte
     have nb : nextB w 0 = 0 := by unfold nextB; rw [if_neg (by omega)]
     rw [nb] at hne ht ⊢
     have tw : (signR ((s.getD i 0).toNat : Int) (nextB s i)).2 = 1 := by
       obtain ⟨l1, l2⟩ := jx8 ((s.getD i 0).toNat : Int) (nextB s i)
       rcases (by omega : (signR ((s.getD i 0).toNat : Int) (nextB s i)).2 = 1 ∨ (signR ((s.getD i 0).toNat : Int) (nextB s i)).2 = 2) with e | e
       · exact e
       · exfalso
         have hn := jx9 e
         have hi1 : i + 1 < s.length := by
           unfold nextB at hn
           split at hn
           · assumption
           · exact absurd rfl hn
         have := yn5 hi1 h1 h2 c6 e
         rw [if_pos hi1, if_pos this] at hr
         omega
     have e := ym9 _ _ tw
     rw [e, if_neg hne]
     refine ⟨_, rfl, rfl, ?_⟩
     rw [e] at tw
     show i + (signR ((s.getD i 0).toNat : Int) 0).2 = _
     omega
   · have g2 : w.length = 2 := by
       have : reachI s i ≤ i + 2 := by
         rw [hr]
         split
         · split <;> omega
         · omega
       omega
     have hi1 : i + 1 < s.length := by omega
     have nb : nextB w 0 = nextB s i := by
       unfold nextB
       rw [if_pos (by omega), if_pos hi1, P.at_ (0 + 1) (by omega)]
     rw [nb] at hne ht ⊢
     rw [if_neg hne]
     refine ⟨_, rfl, rfl, ?_⟩
     have tw : twoI s i = true := by
       cases ht2 : twoI s i with
       | true => rfl
       | false => rw [if_pos hi1, ht2, if_neg (by decide)] at hr; omega
     unfold twoI at tw
     rw [show (s.drop i).take 2 = w by rw [← hW, show reachI s i - i = 2 by omega], h] at tw
     have tw : (0 + (signR ((s.getD i 0).toNat : Int) (nextB w 0)).2 == 2) = true := tw
     rw [nb, beq_iff_eq] at tw
     show i + (signR ((s.getD i 0).toNat : Int) (nextB s i)).2 = _
     omega
 · rw [if_neg c6] at hx; cases hx
theorem jp5 {s : List UInt8} : ∀ (d n i : Nat), s.length - i ≤ d → i ≤ s.length → s.length - i ≤ n → isI s (skipTo s n i) 1 = false ∧ isI s (skipTo s n i) 2 = false
 | d, n, i, hd, hi, hn => by
   cases n with
   | zero => exact ⟨jh6 (by show s.length ≤ i; omega) _, jh6 (by show s.length ≤ i; omega) _⟩
   | succ n =>
     rw [skipTo]
     split
     · rename_i h
       have := jh0 h
       obtain ⟨d, rfl⟩ : ∃ k, d = k + 1 := ⟨d - 1, by omega⟩
       exact jp5 d n (i + 1) (by omega) (by omega) (by omega)
     rename_i h1
     split
     · rename_i h
       have hl := jh0 h
       obtain ⟨d, rfl⟩ : ∃ k, d = k + 1 := ⟨d - 1, by omega⟩
       have h10 : s.getD i 0 ≠ 10 := fun e => by
         have := j36 h
         rw [e] at this
         exact absurd this (by decide +kernel)
       have e := jp2 s (s.length - i) (s.length - i) i (by omega) (by omega) (Nat.le_refl _) h10
       have := ji7 s (s.length - i) i hl
       rw [e]
       exact jp5 d n _ (by omega) (by omega) (by omega)
     · rename_i h2
       exact ⟨by simpa using h1, by simpa using h2⟩
theorem j7i {s : List UInt8} {a b : Cu} {l : List Int} (h : Eat s a b l) : ∀ (n : Nat) (p : PS), core (nextP s p) = a → Ps s p → s.length - p.to_ < n → b.2.2.kind = 0 → s.length ≤ b.1 → ∃ tks, toksI s n p.to_ = (tks, none) ∧ tks.map Tk.kind = l := by
 induction h with
 | nil a =>
   intro n p hp h hn _ hb
   obtain ⟨n, rfl⟩ : ∃ k, n = k + 1 := ⟨n - 1, by omega⟩
   have e : (nextP s p).at_ = a.1 := congrArg (fun c : Cu => c.1) hp
   rw [j0j, jf0 h.to_] at e
   exact ⟨[], by rw [toksI, if_neg (by omega)], rfl⟩
 | @cons q a b l hq hk he ih =>
   intro n p hp h hn h0 hb
   obtain ⟨n, rfl⟩ : ∃ k, n = k + 1 := ⟨n - 1, by omega⟩
   have ec : core q = core (nextP s p) := hq.trans hp.symm
   have ek : q.k = (nextP s p).k := congrArg (fun c : Cu => c.2.2) ec
   obtain ⟨hp', hto⟩ := jo7 h
   rw [ek] at hk
   have hk' := hk
   obtain ⟨s1, s2⟩ := jp5 (s.length - p.to_) (s.length - p.to_) p.to_ (Nat.le_refl _) h.to_ (Nat.le_refl _)
   have ea := j0j s p
   rw [jf0 h.to_] at ea
   unfold nextP at hk'
   rw [jf0 h.to_] at hk'
   split at hk'
   · rename_i hl
     cases hx : lex1 ((s.drop (skipTo s (s.length - p.to_) p.to_)).take (reachI s (skipTo s (s.length - p.to_) p.to_) - skipTo s (s.length - p.to_) p.to_)) with
     | none => rw [hx] at hk'; exact absurd rfl hk'
     | some tk =>
       obtain ⟨tk', t1, t2, t3⟩ := yn6 hl s1 s2 hx
       have et : (nextP s p).to_ = tk'.to_ := by
         unfold nextP
         rw [jf0 h.to_, if_pos hl, t3]
       have ekk : (nextP s p).k = tk := by
         unfold nextP
         rw [jf0 h.to_, if_pos hl, hx]; rfl
       have hlt := hp'.tok hk
       obtain ⟨tks, u1, u2⟩ := ih n (nextP s p) (jy6 ec.symm) hp' (by omega) h0 hb
       refine ⟨tk' :: tks, ?_, ?_⟩
       · rw [toksI, if_pos hl, t1]
         dsimp only
         rw [← et, u1]
       · rw [List.map_cons, u2, t2, ek, ekk]
   · exact absurd rfl hk'
end
end Go.Am
namespace Go.Am
variable {H : Heap}
set_option maxRecDepth 100000
theorem js4 {P : Program} {t te : TypeId} {es bytes : Nat} {z : List Value} (h1 : P.underlying t = some (.slice te)) (h2 : (P.info? te).map (fun i => (i.size, i.bytes)) = some (es, bytes)) (h3 : zeroT P te = some z) (hz : z.length = es) (h0 : 0 < es) {H : Heap} {x : Value} {k : Nat} {news : List Value} (hs : srcCells H es x = some (k, news)) (v : Value) :
   appendA P #[t, t] v x H = app H es bytes v k news := by
 cases hi : P.info? te with
 | none => rw [hi] at h2; cases h2
 | some i =>
   rw [hi] at h2
   simp only [Option.map_some, Option.some.injEq, Prod.mk.injEq] at h2
   obtain ⟨rfl, rfl⟩ := h2
   simp only [appendA]
   simp [h1, hi, h3, hz, h0, hs]
theorem je1 {es : Nat} {l : List DV} {v : Value} (h : Vd H (.r es l) v) : ∃ a n m cells, v = .slice a n m ∧ l.length = n * es ∧ srcCells H es v = some (n, cells) ∧ Vds H l cells := by
 cases h with
 | z => exact ⟨none, 0, 0, [], rfl, by simp, rfl, .nil _⟩
 | @r _ q o n c l cells hq hn hl hc he =>
   refine ⟨_, n, c, (cells.drop o).take (n * es), rfl, hl, ?_, ?_, fun i h1 h2 => ?_⟩
   · simp only [srcCells, look, hq]
     rw [if_pos (by rw [← hl]; exact hc)]
   · simp; omega
   · have := he i h1 (by omega)
     simpa using this
theorem j1x : ∀ {l : List Nat} {cells : List Value}, Vds H (l.map iD) cells → cells = natsV l
 | [], cells, h => h.nil_inv
 | i :: l, cells, h => by
   obtain ⟨v, r, e, h1, h2⟩ := h.cons_inv
   rw [e, j1x h2, h1.p_inv]
   rfl
theorem j48 (l : List Nat) : (natsV l).all Value.oneCell' = true := by simp [natsV, Value.oneCell']
theorem j49 {H0 : Heap} {L : List (Nat × Blk)} (f : Fr H0 H L) {es bytes n k : Nat} {v : Value} {cells news : List Value} (r : LRow L es v n cells) (he : 0 < es) (hl : news.length = k * es) (hc : news.all Value.oneCell' = true) (hb : bytes ≤ 2 ^ 20) (hn : n + k ≤ 2 ^ 22) :
   ∃ v' n' L', app (H.plus L) es bytes v k news = some (v', (H.to n').plus L') ∧ H.next ≤ n' ∧ Fr H0 (H.to n') L' ∧ LRow L' es v' (n + k) (cells ++ news) ∧ (blkOf v' = blkOf v ∨ blkOf v' = some H.next) ∧ ∀ q, blkOf v ≠ some q → q < H.next → L'.lookup q = L.lookup q := by
 have hm : (n + k) * bytes ≤ most := Nat.le_trans (Nat.mul_le_mul hn hb) (by decide)
 have hm2 : n + k ≤ most := Nat.le_trans hn (by decide)
 by_cases hk : k = 0
 · subst hk
   have : news = [] := List.length_eq_zero_iff.1 (by simpa using hl)
   subst this
   rcases r with ⟨rfl, rfl, rfl⟩ | ⟨q, rfl, h1, h2, h3⟩
   · exact ⟨_, H.next, L, rfl, Nat.le_refl _, f, .inl ⟨rfl, rfl, rfl⟩, .inl rfl, fun _ _ _ => rfl⟩
   · refine ⟨.slice (some ⟨q, 0, none⟩) n n, H.next, upL q ⟨cells, true, es, none⟩ L, ?_, Nat.le_refl _, f.up _ _, .inr ⟨q, rfl, ?_, by rw [List.append_nil]; exact h2, ?_⟩, .inl rfl, fun q' hq _ => ?_⟩
     · simp only [app, look, ja2, h1, j1k]
       rw [if_pos ⟨trivial, trivial, by simp only [Nat.zero_add]; omega, rfl, hm, hm2⟩, if_pos (by omega), if_pos (by simp only [Nat.zero_add]; omega), ji2, h1]
       have : over cells (0 + n * es) [] = cells := by simp [over]
       simp only [this]
       rfl
     · rw [ja3, if_pos rfl, h1, List.append_nil]; rfl
     · rw [List.append_nil]; exact h3
     · rw [ja3, if_neg fun c => hq (by rw [c]; rfl)]
 · have h0 : news ≠ [] := fun e => by
     rw [e] at hl
     have : 0 < k * es := Nat.mul_pos (by omega) he
     simp at hl; omega
   rcases r with ⟨rfl, rfl, rfl⟩ | ⟨q, rfl, h1, h2, _⟩
   · refine ⟨.slice (some ⟨H.next, 0, none⟩) k k, H.next + 1, (H.next, ⟨news, true, es, none⟩) :: L, ?_, Nat.le_succ _, f.new _, .inr ⟨H.next, by rw [Nat.zero_add], ja5 _ _ _, by simpa using hl, by simpa using h0⟩, .inr rfl, fun q _ hq => jc7 hq _ _⟩
     simp only [app, mkRow]
     rw [if_neg hk, if_pos ⟨by rwa [Nat.zero_add] at hm, by omega⟩, Heap.alloc_plus]; rfl
   · have hq := f.keys q _ h1
     have e : look (H.plus L) ⟨q, 0, none⟩ = some ⟨cells, true, es, none⟩ := by simp only [look, ja2, h1]; rfl
     have fd : Fr H0 H (dropL q L) := ⟨f.fle, fun k y ek => by
       rw [jc5] at ek
       split at ek
       · cases ek
       · exact f.keys k y ek⟩
     refine ⟨.slice (some ⟨H.next, 0, none⟩) (n + k) (n + k), H.next + 1, (H.next, ⟨cells ++ news, true, es, none⟩) :: dropL q L, ?_, Nat.le_succ _, fd.new _, .inr ⟨H.next, rfl, ja5 _ _ _, by simp [h2, hl, Nat.add_mul], by simp [h0]⟩, .inr rfl, fun k hk hlt => ?_⟩
     · simp only [app, e, Nat.zero_add]
       rw [if_pos ⟨trivial, trivial, by omega, hc, hm, hm2⟩, if_neg (by omega), mkRow, List.drop_zero, List.take_of_length_le (by omega), jy4 hq.2.2, Heap.alloc_plus]
       rfl
     · rw [jc7 hlt, jc5, if_neg fun c => hk (by rw [c]; rfl)]
theorem j7j {H0 : Heap} {L : List (Nat × Blk)} (f : Fr H0 H L) {v x : Value} {l l' : List Nat} (r : LRow L 1 v l.length (natsV l)) (hx : Vd (H.plus L) (rowD l') x) (hn : l.length + l'.length ≤ 2 ^ 22) :
   ∃ v' n' L', appendA PP #[22, 22] v x (H.plus L) = some (v', (H.to n').plus L') ∧ H.next ≤ n' ∧ Fr H0 (H.to n') L' ∧ LRow L' 1 v' (l ++ l').length (natsV (l ++ l')) ∧ (blkOf v' = blkOf v ∨ blkOf v' = some H.next) ∧ ∀ q, blkOf v ≠ some q → q < H.next → L'.lookup q = L.lookup q := by
 obtain ⟨a, n, m, cells, rfl, h1, h2, h3⟩ := je1 hx
 have hc := j1x h3
 subst hc
 have hn' : n = l'.length := by simpa using h1.symm
 subst hn'
 obtain ⟨v', n', L', e1, e2, e3, e4, e5, e6⟩ := j49 f (bytes := 8) r (by decide) (k := l'.length) (news := natsV l') (by simp [natsV]) (j48 _) (by decide) hn
 refine ⟨v', n', L', ?_, e2, e3, by simpa [natsV] using e4, e5, e6⟩
 rw [← e1]
 exact js4 Tryz.underlying22 infoI zrI rfl (by decide) h2 v
end Go.Am
namespace Go.Am
set_option maxRecDepth 100000
def rowF (n : Nat) (f : Nat → Nat) : List Value := (List.range n).map fun j => .int .i64 (f j : Int)
theorem jm3 (n : Nat) (f : Nat → Nat) : (rowF n f).length = n := by simp [rowF]
theorem jv2 {n j : Nat} (h : j < n) (f : Nat → Nat) : (rowF n f)[j]? = some (.int .i64 (f j : Int)) := by simp [rowF, h]
theorem j7k {n j : Nat} (h : j < n) (f : Nat → Nat) : (rowF n f).set j (.int .i64 ((f j + 1 : Nat) : Int)) = rowF n fun k => f k + if k = j then 1 else 0 := by
 refine List.ext_getElem? fun k => ?_
 rw [List.getElem?_set]
 by_cases e : j = k
 · subst e
   rw [if_pos rfl, if_pos (by rw [jm3]; exact h), jv2 h, if_pos rfl]
 · rw [if_neg e]
   by_cases hk : k < n
   · rw [jv2 hk, jv2 hk, if_neg (fun c => e c.symm)]; rfl
   · rw [List.getElem?_eq_none (by rw [jm3]; omega), List.getElem?_eq_none (by rw [jm3]; omega)]
theorem j7l : ∀ n, zeroRow [.int .i64 0] n = rowF n fun _ => 0 := by
 intro n
 unfold zeroRow rowF
 refine List.map_congr_left fun i _ => ?_
 have : i % ([Value.int .i64 0].toArray).size = 0 := Nat.mod_one i
 rw [this]; rfl
theorem j8y {n : Nat} (h : n ≤ 2 ^ 22) (H : Heap) : makeSliceA PP 22 (.int .i64 (n : Int)) (.int .i64 (n : Int)) H = some (.slice (some ⟨H.next, 0, none⟩) n n, H.alloc 1 (rowF n fun _ => 0)) := by
 have hi := infoI
 cases hh : PP.info? 3 with
 | none => rw [hh] at hi; cases hi
 | some i =>
   rw [hh] at hi
   simp only [Option.map_some, Option.some.injEq, Prod.mk.injEq] at hi
   simp only [makeSliceA, Tryz.underlying22, hh, zrI, makeA]
   rw [if_pos (by rw [hi.1]; rfl), if_pos ⟨by omega, by omega, by unfold most; omega, by rw [hi.2]; unfold most; omega⟩]
   simp [j7l]
theorem j1y : ∀ {l : List It} {a b : Nat}, posL l a b → a + l.length ≤ b
 | [], _, _, h => h
 | x :: l, a, b, h => by
   have := j1y h.2
   have := h.1
   simp only [List.length_cons]; omega
theorem yb9 {s : List UInt8} {tr : Tr} (h : TrOk s tr) : tr.its.length ≤ s.length := by
 obtain ⟨b, h1, h2⟩ := h.pos
 have := j1y h2
 omega
def isAny (k : Int) : Bool := k == 1 || (k == 2 || (decide (14 ≤ k) && decide (k ≤ 29)))
theorem j5a : Cls isAny := fun k h => by
 simp only [isAny, Bool.or_eq_true, beq_iff_eq, Bool.and_eq_true, decide_eq_true_eq] at h
 exact h
theorem yc0 {s : List UInt8} {tr : Tr} (h : TrOk s tr) : wN isAny tr.nds = tr.nds.length := by
 unfold wN
 rw [List.countP_eq_length]
 intro x hx
 obtain ⟨i, hi, rfl⟩ := List.getElem_of_mem hx
 simp only [isAny, Bool.or_eq_true, beq_iff_eq, Bool.and_eq_true, decide_eq_true_eq]
 rcases h.nok i hi with ⟨h | h, _⟩ | ⟨h, _⟩
 · exact .inl h
 · exact .inr (.inl h)
 · exact .inr (.inr h)
theorem j7m {H : Heap} {t es : Nat} {l : List DV} {a : Option Addr} {n m : Nat} (h : Vd H (.r es l) (.slice a n m)) (ht : ixT PP t = some (none, es)) (h0 : 0 < es) {i : Nat} (hi : i < n) :
   ∃ q o cells, indexAddrA PP t (.slice a n m) (.int .i64 (i : Int)) = some (.pointer (some ⟨q, o, none⟩)) ∧ H.get q = some ⟨cells, false, es, none⟩ ∧ o + es ≤ cells.length ∧ Vds H ((l.drop (i * es)).take es) ((cells.drop o).take es) := by
 cases h with
 | z => omega
 | @r _ q o n c l cells hq hn hl hc he =>
   have hm : i * es + es ≤ n * es := by
     have := Nat.mul_le_mul_right es (show i + 1 ≤ n from hi)
     rwa [Nat.add_mul, Nat.one_mul] at this
   refine ⟨q, o + i * es, cells, je4 ht hi q o m .i64, hq, by omega, ?_, fun j h1 h2 => ?_⟩
   · simp; omega
   · have hj : j < es := by
       simp at h1; omega
     have := he (i * es + j) (by omega) (by omega)
     simp only [List.getElem_take, List.getElem_drop]
     have e : o + i * es + j = o + (i * es + j) := by omega
     simp only [e]
     exact this
theorem yn7 : ∀ (l : List Nd) (k : Nat) (h : k < l.length), ((l.flatMap Nd.dv).drop (k * 5)).take 5 = l[k].dv
 | [], k, h => by cases h
 | y :: l, 0, h => rfl
 | y :: l, k + 1, h => by
   simp only [List.flatMap_cons, List.getElem_cons_succ]
   rw [show (k + 1) * 5 = y.dv.length + k * 5 by show _ = 5 + _; omega, List.drop_length_add_append]
   exact yn7 l k (by simpa using h)
theorem j7n {H : Heap} {x : Nd} {cs : List Value} (h : Vds H x.dv cs) : ∃ kv, Vd H (rowD x.kids) kv ∧ cs = [.int .i64 x.op, .int .u64 x.n, .string x.s, kv, .int .i64 (x.at_ : Int)] := by
 obtain ⟨v1, r1, rfl, a1, h⟩ := h.cons_inv
 obtain ⟨v2, r2, rfl, a2, h⟩ := h.cons_inv
 obtain ⟨v3, r3, rfl, a3, h⟩ := h.cons_inv
 obtain ⟨v4, r4, rfl, a4, h⟩ := h.cons_inv
 obtain ⟨v5, r5, rfl, a5, h⟩ := h.cons_inv
 rw [h.nil_inv, a1.p_inv, a2.p_inv, a3.p_inv, a5.p_inv]
 exact ⟨v4, a4, rfl⟩
end Go.Am
