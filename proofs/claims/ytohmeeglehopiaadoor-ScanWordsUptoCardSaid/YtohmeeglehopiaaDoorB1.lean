/- The contract on the digits of a number, laid at this program by the kit's tool. -/
import Derived.Shelf.Strconv.AppendInt10
import Derived.Test.YtohmeeglehopiaaDoorProg
import Derived.Test.YtohmeeglehopiaaDoorD1
namespace Go.Proofs
open Go.Shelf
def Tryd.laysM288_ren : Go.Shelf.Ren := ⟨fun | 288 => 53 | 283 => 68 | 284 => 69 | 285 => 70 | 286 => 71 | 129 => 84 | 317 => 83 | 318 => 85 | 319 => 86 | 320 => 87 | 337 => 96 | 338 => 97 | n => n, fun | 37 => 26 | 53 => 27 | 3 => 3 | 4 => 4 | 9 => 9 | 171 => 83 | 0 => 0 | 173 => 86 | 212 => 106 | 51 => 91 | 5 => 5 | 20 => 20 | 213 => 107 | 46 => 73 | 232 => 134 | 233 => 135 | n => n, fun | 17 => 6 | 18 => 10 | 19 => 11 | n => n⟩
theorem Tryd.laysM288 : Go.Proofs.LaysM.n288 Tryd.prog Tryd.laysM288_ren := {
  mixed := by kernel_rfl
  f129 := Tryd.func84.trans (congrArg some (by kernel_rfl))
  f283 := Tryd.func68.trans (congrArg some (by kernel_rfl))
  f284 := Tryd.func69.trans (congrArg some (by kernel_rfl))
  f285 := Tryd.func70.trans (congrArg some (by kernel_rfl))
  f286 := Tryd.func71.trans (congrArg some (by kernel_rfl))
  f288 := Tryd.func53.trans (congrArg some (by kernel_rfl))
  f317 := Tryd.func83.trans (congrArg some (by kernel_rfl))
  f318 := Tryd.func85.trans (congrArg some (by kernel_rfl))
  f319 := Tryd.func86.trans (congrArg some (by kernel_rfl))
  f320 := Tryd.func87.trans (congrArg some (by kernel_rfl))
  f337 := Tryd.func96.trans (congrArg some (by kernel_rfl))
  f338 := Tryd.func97.trans (congrArg some (by kernel_rfl))
  t0 := Tryd.underlying0
  a0 := Tryd.isAgg0
  z0 := Tryd.sizeOf0
  v0 := Tryd.zeroValue0
  t3 := Tryd.underlying3
  a3 := Tryd.isAgg3
  z3 := Tryd.sizeOf3
  v3 := Tryd.zeroValue3
  t4 := Tryd.underlying4
  a4 := Tryd.isAgg4
  z4 := Tryd.sizeOf4
  v4 := Tryd.zeroValue4
  t5 := Tryd.underlying5
  a5 := Tryd.isAgg5
  z5 := Tryd.sizeOf5
  v5 := Tryd.zeroValue5
  t9 := Tryd.underlying9
  a9 := Tryd.isAgg9
  z9 := Tryd.sizeOf9
  v9 := Tryd.zeroValue9
  t20 := Tryd.underlying20
  a20 := Tryd.isAgg20
  z20 := Tryd.sizeOf20
  v20 := Tryd.zeroValue20
  t37 := Tryd.underlying26
  a37 := Tryd.isAgg26
  z37 := Tryd.sizeOf26
  v37 := Tryd.zeroValue26
  t46 := Tryd.underlying73
  a46 := Tryd.isAgg73
  z46 := Tryd.sizeOf73
  v46 := Tryd.zeroValue73
  t51 := Tryd.underlying91
  a51 := Tryd.isAgg91
  z51 := Tryd.sizeOf91
  v51 := Tryd.zeroValue91
  t53 := Tryd.underlying27
  a53 := Tryd.isAgg27
  z53 := Tryd.sizeOf27
  v53 := Tryd.zeroValue27
  t171 := Tryd.underlying83
  a171 := Tryd.isAgg83
  z171 := Tryd.sizeOf83
  v171 := Tryd.zeroValue83
  t173 := Tryd.underlying86
  a173 := Tryd.isAgg86
  z173 := Tryd.sizeOf86
  v173 := Tryd.zeroValue86
  t212 := Tryd.underlying106
  a212 := Tryd.isAgg106
  z212 := Tryd.sizeOf106
  v212 := Tryd.zeroValue106
  t213 := Tryd.underlying107
  a213 := Tryd.isAgg107
  z213 := Tryd.sizeOf107
  t232 := Tryd.underlying134
  a232 := Tryd.isAgg134
  z232 := Tryd.sizeOf134
  v232 := Tryd.zeroValue134
  t233 := Tryd.underlying135
  a233 := Tryd.isAgg135
  z233 := Tryd.sizeOf135
  v233 := Tryd.zeroValue135
  g17 := by kernel_rfl
  g18 := by kernel_rfl
  g19 := by kernel_rfl
  i0 := by kernel_rfl
  i3 := by kernel_rfl
  i4 := by kernel_rfl
  i5 := by kernel_rfl
  i9 := by kernel_rfl
  i20 := by kernel_rfl
  i37 := by kernel_rfl
  i46 := by kernel_rfl
  i51 := by kernel_rfl
  i53 := by kernel_rfl
  i171 := by kernel_rfl
  i173 := by kernel_rfl
  i212 := by kernel_rfl
  i232 := by kernel_rfl
  i233 := by kernel_rfl
  m17 := by kernel_rfl
  m18 := by kernel_rfl
  m19 := by kernel_rfl }
end Go.Proofs
/- The hook for a number's digits, off the library's contract. -/
namespace Go.Am
/-- A block that the world has made is taken up. -/
theorem Step.found {m : Mp} {H : Heap} {w w' : World} (h : Rel m H w) (es : Nat) (xs : List Value) (g : Nat) (cs : Array Value) (elem : TypeId) (hx : xs.length ≤ cs.size)
    (hv : ∀ i (a : i < xs.length) (b : i < cs.size), VR m xs[i] cs[i]) (hg : w.heap.size ≤ g) (hw : w'.heap[g]? = some (.cells cs elem (0, 0)))
    (ho : w'.os = w.os) (ht : w'.tape = w.tape) (hp : w'.output = w.output) (hs : w.heap.size ≤ w'.heap.size) (hb : ∀ c, c < w.heap.size → w'.heap[c]? = w.heap[c]?) :
    Step m H w (m.add H.next ⟨g, 0, es, cs.size⟩) (H.alloc es xs) w' := by
  have hfr := h.fresh H.next (Nat.le_refl _)
  have hle : m.le (m.add H.next ⟨g, 0, es, cs.size⟩) := Mp.le_add hfr.1
  have hlt : g < w'.heap.size := (Array.getElem?_eq_some_iff.mp hw).1
  refine ⟨⟨?_, ?_, ?_, ?_⟩, ⟨hle, ?_⟩, ⟨ho, ht, hp, hs, fun c hc _ => hb c hc⟩⟩
  · intro b x hx'
    rw [Heap.get_alloc] at hx'
    by_cases e : b = H.next
    · subst e
      simp only [if_true, Option.some.injEq] at hx'
      subst hx'
      refine ⟨_, by simp [Mp.add]; rfl, rfl, by simpa using hx, fun _ => ⟨cs, elem, (0, 0), hw, rfl, ?_, fun _ => .inl rfl⟩, fun o ho => by simp at ho⟩
      intro i a b
      simp only [Nat.zero_add]
      exact (hv i a (by simpa using b)).mono hle
    · simp only [e, if_false] at hx'
      obtain ⟨L, h1, h2⟩ := h.blk b x hx'
      exact ⟨L, by simp [Mp.add, e, h1], h2.mono hle (hb _ (h.bound _ _ h1))⟩
  · intro b x hx' hrw b' x' L L' hb' hm hm' hc
    rw [Heap.get_alloc] at hx' hb'
    by_cases e : b = H.next <;> by_cases e' : b' = H.next
    · rw [e, e']
    · subst e
      simp only [Mp.add, if_true, Option.some.injEq, e', if_false] at hm hm'
      subst hm
      have := h.bound _ _ hm'
      simp at hc; omega
    · subst e'
      simp only [Mp.add, if_true, Option.some.injEq, e, if_false] at hm hm'
      subst hm'
      have := h.bound _ _ hm
      simp at hc; omega
    · simp only [Mp.add, e, e', if_false] at hx' hb' hm hm'
      exact h.apart b x hx' hrw b' x' L L' hb' hm hm' hc
  · intro b L hm
    by_cases e : b = H.next
    · subst e; simp only [Mp.add, if_true, Option.some.injEq] at hm; subst hm; exact hlt
    · simp only [Mp.add, e, if_false] at hm
      have := h.bound _ _ hm; omega
  · intro b hb'
    have hb'' : H.next + 1 ≤ b := hb'
    have e : b ≠ H.next := by omega
    rw [Heap.get_alloc]
    simp only [Mp.add, e, if_false]
    exact h.fresh b (by omega)
  · intro c hc ⟨b, x, L, hx', hrw, hm, hcl⟩
    rw [Heap.get_alloc] at hx'
    by_cases e : b = H.next
    · subst e; simp only [Mp.add, if_true, Option.some.injEq] at hm; subst hm; simp at hcl; omega
    · simp only [Mp.add, e, if_false] at hx' hm
      exact ⟨b, x, L, hx', hrw, hm, hcl⟩
theorem tab_is {m : Mp} {H : Heap} {w : World} (h : Rel m H w) (hg : Gl PP m) {g : Nat} (hgl : g < PP.globals.size) {y : Blk} (hy : H.get g = some y) (ho : y.o = none) {n : String} (hn : PP.globalNamed n = some g) (hs : y.cells.length = szG PP g) (ha : y.cells.all atomic = true) :
    w.var? PP n = some y.cells.toArray := by
  obtain ⟨L, k1, k2⟩ := h.blk g y hy
  obtain ⟨L', q1, q2, q3, q4⟩ := hg g hgl
  rw [k1] at q1
  obtain rfl := Option.some.inj q1
  obtain ⟨cs, elem, fz, p1, p2, p3, _⟩ := k2.ex ho
  have e : cs = y.cells.toArray := by
    apply Array.ext
    · rw [p2, q4, ← hs]; simp
    · intro i h1 h2
      have h3 : i < y.cells.length := by simpa using h2
      have := p3 i h3 (by omega)
      have hz := this.eq_of_atomic (List.all_eq_true.mp ha _ (List.getElem_mem h3))
      simp only [q3, Nat.zero_add] at hz
      simpa using hz
  rw [q2] at p1
  unfold World.var?
  simp only [hn, Option.bind_some, p1, e]
def powOk (H : Heap) : Bool := match H.get 6 with | some y => veqs y.cells powV && y.o.isNone | none => false
def digV (u : Nat) : List Value := Lib.byteCells (Lib.decDigits u)
def hookN : Hook := fun f args H =>
  cond (Nat.beq f 53) (match args.toList with
    | [.slice none 0 0, .int .u64 u, .int .i64 10] => cond (decide (0 ≤ u) && decide (u < 18446744073709551616) && powOk H) (some (some (.ret (.slice (some ⟨H.next, 0, none⟩) (digV u.toNat).length (digV u.toNat).length), H.alloc 1 (digV u.toNat)))) none
    | _ => none) none
theorem digV_atomic (u : Nat) : (digV u).all atomic = true := by
  rw [List.all_eq_true]
  intro v hv
  unfold digV Lib.byteCells at hv
  obtain ⟨b, _, rfl⟩ := List.mem_map.mp hv
  rfl
theorem hookN_sound : HookSnd PP hookN := by
  intro f args H r H' he m w args' hrel hgl hargs
  unfold hookN at he
  cases hf : Nat.beq f 53 with
  | false => rw [hf] at he; simp at he
  | true =>
  rw [hf] at he
  obtain rfl := Nat.eq_of_beq_eq_true hf
  simp only [cond_true] at he
  split at he
  · rename_i u hs
    cases h1 : (decide (0 ≤ u) && decide (u < 18446744073709551616) && powOk H) with
    | false => rw [h1] at he; simp at he
    | true =>
    rw [h1] at he
    simp only [cond_true, Option.some.injEq, Prod.mk.injEq] at he
    obtain ⟨rfl, rfl⟩ := he
    simp only [Bool.and_eq_true, decide_eq_true_eq] at h1
    obtain ⟨⟨h1, h2⟩, h3⟩ := h1
    have e := hargs.eq_of_atomic (by rw [hs]; rfl)
    subst e
    have ea : args' = #[.slice none 0 0, .int .u64 u, .int .i64 10] := by cases args'; simp_all
    subst ea
    have eu : ((u.toNat : Nat) : Int) = u := by omega
    unfold powOk at h3
    split at h3
    · rename_i y hy
      simp only [Bool.and_eq_true, Option.isNone_iff_eq_none] at h3
      have hc := veqs_eq h3.1
      have htab : Lib.TabIs PP w "internal/strconv.uint64pow10" .u64 Lib.pow10Tab := by
        have hp : powV.length = szG PP 6 := by kernel_rfl
        have := tab_is (n := "internal/strconv.uint64pow10") hrel hgl (g := 6) (by rw [globals_size]; decide) hy h3.2 (by kernel_rfl) (by rw [hc]; exact hp) (by rw [hc]; decide +kernel)
        rw [hc] at this
        exact this
      have hcall := Go.Proofs.Any.internal_strconv_AppendUint_10 Go.Proofs.Tryd.laysM288 w.heap.size 0 u.toNat (by omega) (.slice none 0 0) [] w ⟨rfl, .inl ⟨rfl, rfl⟩⟩ (Nat.le_refl _) (by decide) htab
      rw [eu] at hcall
      refine hcall.mono fun e w' ⟨v', he, hown, hbel, _⟩ => ?_
      subst he
      obtain ⟨hlen, ⟨_, hz⟩ | ⟨g, cap, cur, rfl, hgB, hheap, hncap, _, hcur, htake⟩⟩ := hown
      · exfalso
        have : 0 < (Lib.decDigits u.toNat).length := by rw [Lib.decDigits_length]; exact Lib.nDigits_pos _
        omega
      · have hd : (digV u.toNat).length = 0 + (Lib.decDigits u.toNat).length := by unfold digV Lib.byteCells; simp
        rw [List.nil_append, Nat.mul_one] at htake
        have hcs : cur.size = cap := by omega
        have hst := Step.found (w' := w') hrel 1 (digV u.toNat) g cur _ (by omega) (fun i a b => ?_) hgB hheap hbel.os hbel.tape hbel.output hbel.size hbel.block
        · refine ⟨_, ?_, hst⟩
          show VR _ (.slice (some ⟨H.next, 0, none⟩) (digV u.toNat).length (digV u.toNat).length) (.slice (some ⟨g, 0, none⟩) (0 + (Lib.decDigits u.toNat).length) cap)
          rw [← hd]
          exact VR.slice H.next 0 ⟨g, 0, 1, cur.size⟩ _ _ _ cap (by simp [Mp.add]) (Nat.le_refl _) (by omega) rfl rfl (.inr ⟨rfl, by show 0 + cap * 1 ≤ cur.size; omega⟩)
        · have hat : atomic (digV u.toNat)[i] = true := List.all_eq_true.mp (digV_atomic _) _ (List.getElem_mem a)
          have ei : cur[i] = (digV u.toNat)[i] := by
            have h1 : (cur.toList.take (0 + (Lib.decDigits u.toNat).length))[i]? = (digV u.toNat)[i]? := by rw [htake]; rfl
            rw [List.getElem?_take, if_pos (by omega)] at h1
            rw [List.getElem?_eq_getElem a] at h1
            have h2 : cur.toList[i]? = some cur[i] := by simp [b]
            rw [h2] at h1
            exact Option.some.inj h1
          rw [ei]; exact .atom _ hat
    · simp at h3
  · simp at he
end Go.Am
