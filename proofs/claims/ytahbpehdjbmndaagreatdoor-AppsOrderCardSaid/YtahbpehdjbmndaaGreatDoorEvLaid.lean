/-
  What a row lists of package-level variables, as cells; the evaluator's heap at the start; no condition.
-/
import Derived.Test.YtahbpehdjbmndaaGreatDoorEvTop
import Derived.LaidLaws
import Derived.OpenShut
import Derived.MakeChecks
namespace Go.Ev
open Go.RowKit

/-! ### Data without an address, as cells -/
section
variable {H : Type} {P : Program}
def flatLit (t : Option TypeDesc) (l : Lit) : Option (List Value) := match t, l with
  | some .bool, .bool b => some [.bool b]
  | some (.int k), .int k' z => if k = k' then some [.int k z] else none
  | some .string, .string s => some [.string ⟨⟨s⟩⟩]
  | _, _ => none
def flatFields (P : Program) (F : TypeId → DataW H → Option (List Value)) : List Field → List (DataW H) → Nat → Nat → Option (List Value)
  | [], [], off, tot => if off = tot then some [] else none
  | f :: fs, d :: ds, off, tot => if f.offset = off then match F f.type d with
      | some c => if c.length = P.cellsOf f.type then match flatFields P F fs ds (off + P.cellsOf f.type) tot with
          | some r => some (c ++ r)
          | none => none
        else none
      | none => none
    else none
  | _, _, _, _ => none
def flatElems (F : DataW H → Option (List Value)) (s : Nat) : List (DataW H) → Option (List Value)
  | [] => some []
  | d :: ds => match F d with
    | some c => if c.length = s then match flatElems F s ds with
        | some r => some (c ++ r)
        | none => none
      else none
    | none => none
def flatD (P : Program) : Nat → TypeId → DataW H → Option (List Value)
  | 0, _, _ => none
  | n + 1, t, d => match d with
    | .lit l => flatLit (P.underlying t) l
    | .agg ds => match P.underlying t with
      | some (.struct fs) => flatFields P (flatD P n) fs.toList ds 0 (P.cellsOf t)
      | some (.array m e) => if ds.length = m ∧ m * P.cellsOf e = P.cellsOf t then flatElems (flatD P n e) (P.cellsOf e) ds else none
      | _ => none
    | _ => none

variable {enc : TypeId × Value → H} {w : World} {base : Nat} {spare : Nat → Bool} {held : Bool}
theorem split_drop {cs : List Value} {off s : Nat} {c r : List Value} (h1 : (cs.drop off).take s = c) (h2 : cs.drop (off + s) = r) : cs.drop off = c ++ r := by
  rw [← h1, ← h2, ← List.drop_drop, List.take_append_drop]
theorem fields_ok {F : TypeId → DataW H → Option (List Value)} {cs : List Value} {tot : Nat} (hl : cs.length = tot) : ∀ {fs : List Field} {xs : List (DataW H × List MemPlace)} {off : Nat} {c : List Value},
    (∀ (i : Nat) (f : Field) (x : DataW H × List MemPlace), fs[i]? = some f → xs[i]? = some x → ∀ c, F f.type x.1 = some c → (cs.drop f.offset).take (P.cellsOf f.type) = c) → flatFields P F fs (xs.map (·.1)) off tot = some c → cs.drop off = c
  | [], [], off, c, _, he => by
    simp only [List.map_nil, flatFields] at he
    split at he
    · simp only [Option.some.injEq] at he
      subst he
      rw [List.drop_eq_nil_of_le (by omega)]
    · cases he
  | f :: fs, x :: xs, off, c, hx, he => by
    simp only [List.map_cons, flatFields] at he
    split at he
    · rename_i ho
      cases hF : F f.type x.1 with
      | none => simp [hF] at he
      | some c1 =>
        simp only [hF] at he
        split at he
        · cases hr : flatFields P F fs (xs.map (·.1)) (off + P.cellsOf f.type) tot with
          | none => simp [hr] at he
          | some r =>
            simp only [hr, Option.some.injEq] at he
            subst he
            have h1 := hx 0 f x rfl rfl c1 hF
            rw [ho] at h1
            exact split_drop h1 (fields_ok hl (fun i f' x' hf hx' => hx (i + 1) f' x' (by simpa using hf) (by simpa using hx')) hr)
        · cases he
    · cases he
  | [], _ :: _, _, _, _, he => by simp [flatFields] at he
  | _ :: _, [], _, _, _, he => by simp [flatFields] at he
theorem elems_ok {F : DataW H → Option (List Value)} {cs : List Value} {s : Nat} : ∀ {xs : List (DataW H × List MemPlace)} {k : Nat} {c : List Value},
    (∀ (i : Nat) (x : DataW H × List MemPlace), xs[i]? = some x → ∀ c, F x.1 = some c → (cs.drop ((k + i) * s)).take s = c) → cs.length ≤ (k + xs.length) * s → flatElems F s (xs.map (·.1)) = some c → cs.drop (k * s) = c
  | [], k, c, _, hl, he => by
    simp only [List.map_nil, flatElems, Option.some.injEq] at he
    subst he
    exact List.drop_eq_nil_of_le (by simpa using hl)
  | x :: xs, k, c, hx, hl, he => by
    simp only [List.map_cons, flatElems] at he
    cases hF : F x.1 with
    | none => simp [hF] at he
    | some c1 =>
      simp only [hF] at he
      split at he
      · cases hr : flatElems F s (xs.map (·.1)) with
        | none => simp [hr] at he
        | some r =>
          simp only [hr, Option.some.injEq] at he
          subst he
          have h1 := hx 0 x rfl c1 hF
          refine split_drop (by simpa using h1) ?_
          have := elems_ok (k := k + 1) (fun i x' hx' c hc => by
            have := hx (i + 1) x' (by simpa using hx') c hc
            rw [show k + 1 + i = k + (i + 1) by omega]; exact this) (by rw [show k + 1 + xs.length = k + (x :: xs).length by simp; omega]; exact hl) hr
          rw [Nat.add_mul, Nat.one_mul] at this
          exact this
      · cases he
theorem flat_ok : ∀ (n : Nat) {fuel : Nat} {t : TypeId} {cs : List Value} {d : DataW H} {p : List MemPlace} {c : List Value}, DataW.trod enc P w base spare held fuel t cs = some (d, p) → flatD P n t d = some c → cs = c
  | 0, _, _, _, _, _, _, _, he => by simp [flatD] at he
  | n + 1, fuel, t, cs, d, p, c, h, he => by
    cases d <;> simp only [flatD] at he <;> first | (cases he; done) | skip
    case lit l =>
      unfold flatLit at he
      cases ht : P.underlying t with
      | none => simp [ht] at he
      | some td =>
        simp only [ht] at he
        cases td <;> cases l <;> simp only at he <;> first | (cases he; done) | skip
        case bool.bool =>
          obtain ⟨b, rfl, hx⟩ := DataW.trod_bool ht h
          cases hx
          simpa using he
        case int.int k k' z' =>
          obtain ⟨z, rfl, hx, _⟩ := DataW.trod_int ht h
          cases hx
          simpa using he
        case string.string =>
          obtain ⟨s, rfl, hx, _⟩ := DataW.trod_string ht h
          cases hx
          simpa using he
    case agg ds =>
      cases ht : P.underlying t with
      | none => simp [ht] at he
      | some td =>
        simp only [ht] at he
        cases td <;> simp only at he <;> first | (cases he; done) | skip
        case array m e =>
          obtain ⟨xs, m', rfl, hx, hl, hxl, hall⟩ := DataW.trod_array ht h
          cases hx
          split at he
          · rename_i hc
            have := elems_ok (F := flatD P n e) (cs := cs) (s := P.cellsOf e) (xs := xs) (k := 0) (c := c) (fun i x hx' c hc' => by
              have hi : i < m := by rw [← hxl]; exact (List.getElem?_eq_some_iff.1 hx').1
              have h1 := hall i hi
              rw [hx'] at h1
              rw [Nat.zero_add]
              exact flat_ok n h1 hc') (by rw [Nat.zero_add, hxl, hc.2, hl]; exact Nat.le_refl _) he
            simpa using this
          · cases he
        case struct fs =>
          obtain ⟨xs, m', rfl, hx, hl, hxl, hall⟩ := DataW.trod_struct ht h
          cases hx
          have := fields_ok (P := P) (F := flatD P n) (cs := cs) (fs := fs.toList) (xs := xs) (off := 0) hl (fun i f x hf hx' c hc' => by
            have h1 := hall i f (by simpa using hf)
            rw [hx'] at h1
            exact flat_ok n h1 hc') he
          simpa using this
end

/-! ### Listed variables -/
section
variable {P : Program} {w : World}
theorem laidVars_mem : ∀ {laid : List (String × DataW Unit)} {ps : List MemPlace}, DataW.LaidVars P w laid ps → ∀ x ∈ laid,
    ∃ g t cs fuel p, P.globalNamed x.1 = some g ∧ (P.globals[g]?).map (·.type) = some t ∧ w.var? P x.1 = some cs ∧ DataW.trod (fun _ => ()) P w 0 (fun _ => true) false fuel t cs.toList = some (x.2, p)
  | [], _, _, x, hx => by simp at hx
  | (n, d) :: r, ps, h, x, hx => by
    obtain ⟨g, t, cs, fuel, p, q, h1, h2, h3, h4, h5, _⟩ := h
    rcases List.mem_cons.1 hx with rfl | hx
    · exact ⟨g, t, cs, fuel, p, h1, h2, h3, h4⟩
    · exact laidVars_mem h5 x hx
/-- a listed variable's cells -/
theorem laid_cells {laid : List (String × DataW Unit)} (hl : laidMet P laid w) {name : String} {d : DataW Unit} (hm : (name, d) ∈ laid) {g : Nat} {t : TypeId} (hg : P.globalNamed name = some g) (ht : (P.globals[g]?).map (·.type) = some t)
    {n : Nat} {c : List Value} (hf : flatD P n t d = some c) : ∃ e fz, w.heap[g]? = some (.cells ⟨c⟩ e fz) := by
  obtain ⟨ps, h1, _⟩ := hl
  obtain ⟨g', t', cs, fuel, p, h2, h3, h4, h5⟩ := laidVars_mem h1 _ hm
  rw [hg] at h2; cases h2
  rw [ht] at h3; cases h3
  have hcs := flat_ok n h5 hf
  unfold World.var? at h4
  rw [hg] at h4
  simp only [Option.bind_some] at h4
  cases hh : w.heap[g]? with
  | none => simp [hh] at h4
  | some o =>
    cases o <;> simp only [hh] at h4 <;> first | (cases h4; done) | skip
    rename_i C e fz
    simp only [Option.some.injEq] at h4
    subst h4
    refine ⟨e, fz, ?_⟩
    congr 2
    rw [← hcs]

/-! ### The heap at the start -/
def rho0 (N : Nat) : Ren := fun i => if i < N then some (i, 0) else none
def trieOf : List (Nat × List Value × TypeId) → T AObj
  | [] => .leaf
  | x :: l => T.put (.cells x.2.1 x.2.2 false true) (trieOf l) x.1
/-- the listed variables, as the world has them; of the others nothing -/
def heap0 (N : Nat) (l : List (Nat × List Value × TypeId)) : AHeap := .mk N (trieOf l)
theorem trie_get : ∀ {l : List (Nat × List Value × TypeId)} {i : Nat} {o : AObj}, (trieOf l).get i = some o → ∃ x ∈ l, i = x.1 ∧ o = .cells x.2.1 x.2.2 false true
  | [], i, o, h => by cases h
  | x :: l, i, o, h => by
    simp only [trieOf] at h
    rw [T.get_put] at h
    split at h
    · rename_i e
      cases h
      exact ⟨x, List.mem_cons_self, e, rfl⟩
    · obtain ⟨y, h1, h2⟩ := trie_get h
      exact ⟨y, List.mem_cons_of_mem _ h1, h2⟩
theorem rep0 {l : List (Nat × List Value × TypeId)} (hl : ∀ x ∈ l, x.1 < P.globals.size ∧ plainL x.2.1 = true ∧ ∃ fz, w.heap[x.1]? = some (.cells ⟨x.2.1⟩ x.2.2 fz)) : Rep P w (rho0 P.globals.size) (heap0 P.globals.size l) w := by
  have hget : ∀ {i o}, (heap0 P.globals.size l).get i = some o → ∃ x ∈ l, i = x.1 ∧ o = .cells x.2.1 x.2.2 false true := fun h => trie_get h
  refine ⟨Below.refl _ _, ?_, ?_, ?_, ?_⟩
  · intro i o hi _
    obtain ⟨x, hx, rfl, rfl⟩ := hget hi
    obtain ⟨h1, h2, fz, h3⟩ := hl x hx
    refine ⟨x.1, 0, _, if_pos h1, (fun h => by cases h), h3, rfl, fun _ => rfl, (fun h => by cases h), x.2.1, [], renL_plain _ _ h2, by simp, fun h => absurd rfl h, fun _ => rfl, by simp⟩
  · intro i j o o' b k k' hi hj _ _ h1 h2
    obtain ⟨x, hx, rfl, _⟩ := hget hi
    obtain ⟨y, hy, rfl, _⟩ := hget hj
    simp only [rho0, (hl x hx).1, (hl y hy).1, if_true] at h1 h2
    simp only [Option.some.injEq, Prod.mk.injEq] at h1 h2
    omega
  · intro i hi
    have hi : P.globals.size ≤ i := hi
    refine ⟨if_neg (by omega), ?_⟩
    cases hg : (heap0 P.globals.size l).get i with
    | none => rfl
    | some o =>
      obtain ⟨x, hx, rfl, _⟩ := hget hg
      have := (hl x hx).1
      omega
  · intro g hg
    exact if_pos hg

/-- what a run says that answers a bool -/
def saysB (r : Option Res) : Bool := match r with
  | some r => match r with
    | .val v _ => match v with
      | .bool b => b
      | _ => false
    | _ => false
  | none => false
theorem saysB_some {r : Option Res} (h : saysB r = true) : ∃ h', r = some (.val (.bool true) h') := by
  cases r with
  | none => simp [saysB] at h
  | some r =>
    cases r with
    | code e tm mk h' => simp [saysB] at h
    | val v h' =>
      cases v <;> simp [saysB] at h
      subst h
      exact ⟨h', rfl⟩
/-- **A CLOSED RUN.** -/
theorem run_says {orc : Orc} (ho : OrcOk P w orc) {l : List (Nat × List Value × TypeId)} (hl : ∀ x ∈ l, x.1 < P.globals.size ∧ plainL x.2.1 = true ∧ ∃ fz, w.heap[x.1]? = some (.cells ⟨x.2.1⟩ x.2.2 fz))
    {fuel : Nat} {f : FuncId} {args : List Value} (ha : plainL args = true) (he : saysB (ev P orc fuel (.call f args (heap0 P.globals.size l))) = true) :
    Calls P f ⟨args⟩ w fun e w' => e = .returned (.bool true) ∧ Below w.heap.size w w' := by
  obtain ⟨h', he⟩ := saysB_some he
  refine (ev_calls ho he (rep0 hl) (renL_plain _ _ ha)).mono ?_
  intro e w' hg
  cases e <;> simp only [Gives] at hg
  obtain ⟨σ, _, h1, h2⟩ := hg
  have := ren_plain_eq h1 rfl
  subst this
  exact ⟨rfl, h2.below⟩

/-- what a run says that answers a value without an address -/
def saysV (v : Value) (r : Option Res) : Bool := match r with
  | some r => match r with
    | .val u _ => sameV u v && plain v
    | _ => false
  | none => false
theorem saysV_some {v : Value} {r : Option Res} (h : saysV v r = true) : plain v = true ∧ ∃ h', r = some (.val v h') := by
  cases r with
  | none => simp [saysV] at h
  | some r =>
    cases r with
    | code e tm mk h' => simp [saysV] at h
    | val u h' =>
      simp only [saysV, Bool.and_eq_true] at h
      exact ⟨h.2, h', by rw [sameV_eq _ _ h.1]⟩
theorem run_gives {orc : Orc} (ho : OrcOk P w orc) {l : List (Nat × List Value × TypeId)} (hl : ∀ x ∈ l, x.1 < P.globals.size ∧ plainL x.2.1 = true ∧ ∃ fz, w.heap[x.1]? = some (.cells ⟨x.2.1⟩ x.2.2 fz))
    {fuel : Nat} {f : FuncId} {args : List Value} (ha : plainL args = true) {v : Value} (he : saysV v (ev P orc fuel (.call f args (heap0 P.globals.size l))) = true) :
    Calls P f ⟨args⟩ w fun e w' => e = .returned v ∧ Below w.heap.size w w' := by
  obtain ⟨hp, h', he⟩ := saysV_some he
  refine (ev_calls ho he (rep0 hl) (renL_plain _ _ ha)).mono ?_
  intro e w' hg
  cases e <;> simp only [Gives] at hg
  obtain ⟨σ, _, h1, h2⟩ := hg
  have := ren_plain_eq h1 hp
  subst this
  exact ⟨rfl, h2.below⟩
def orcNone : Orc := fun _ _ _ => none
theorem orcNone_ok : OrcOk P w orcNone := fun _ _ _ _ h => by cases h
/-- a variable of one number, whatever it holds -/
theorem shaped_int (h : w.ShapedOpen P) {g : Nat} {t : TypeId} {k : IntKind} {z : Array Value} (hg : g < P.globals.size) (h0 : (((begin P (fun _ _ => 0) default).world).heap[g]?).bind Obj.row? = some (z, t))
    (hz : z.size = 1) (hb : P.buildable t = true) (ht : P.cellTypes P.depth t = some [t]) (hu : P.underlying t = some (.int k)) : ∃ x, w.heap[g]? = some (.cells ⟨[.int k x]⟩ t) := by
  obtain ⟨cs, h1, h2, h3⟩ := h.1 g z t hg h0
  obtain ⟨ts, h4, _, h5⟩ := h3 hb
  rw [ht] at h4; cases h4
  have hs : cs.size = 1 := h2.trans hz
  obtain ⟨v, hv⟩ : ∃ v, cs = #[v] := by
    obtain ⟨l⟩ := cs
    match l, hs with
    | [v], _ => exact ⟨v, rfl⟩
  subst hv
  obtain ⟨u, h6, h7⟩ := h5 0 v rfl
  simp at h6
  subst h6
  simp only [Cell.ok, hu] at h7
  cases v <;> simp only at h7 <;> first | (exact h7.elim) | skip
  obtain ⟨rfl, _⟩ := h7
  exact ⟨_, h1⟩
end
end Go.Ev
