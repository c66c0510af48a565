/-
  From what is read of an argument to what the evaluator's first heap holds of it: 'Seen'; no condition.
-/
import Derived.Test.YtahbpehdjbmndaaGreatDoorEvStart
import Derived.ChangeArms
namespace Go.Ev
open Go.RowKit
noncomputable section
variable {P : Program} {W : World}

/-- cells of a type, to the bottom, in a heap -/
def Seen (P : Program) (h : AHeap) : Nat → TypeId → List Value → Prop
  | 0, _, _ => False
  | n + 1, t, cs => match P.underlying t with
    | some .bool => ∃ b, cs = [.bool b]
    | some (.int k) => ∃ z, cs = [.int k z] ∧ k.min ≤ z ∧ z ≤ k.max
    | some .string => ∃ s : List UInt8, cs = [.string ⟨⟨s⟩⟩] ∧ s.length ≤ 9223372036854775807
    | some (.slice e) => ∃ base len cap, cs = [.slice base len cap] ∧ len ≤ cap ∧ cap ≤ 9223372036854775807 ∧ (base = none → cap = 0) ∧
        ∀ k, k < len → ∃ i o c, base = some ⟨i, o, none⟩ ∧ i < h.next ∧ rowCut h i (o + k * P.cellsOf e) (P.cellsOf e) = some c ∧ Seen P h n e c
    | some (.struct fs) => cs.length = P.cellsOf t ∧ ∀ f ∈ fs.toList, Seen P h n f.type ((cs.drop f.offset).take (P.cellsOf f.type))
    | some (.array m e) => cs.length = P.cellsOf t ∧ ∀ k, k < m → Seen P h n e ((cs.drop (k * P.cellsOf e)).take (P.cellsOf e))
    | _ => False

/-- fields that lie one behind the other -/
def packed (P : Program) : List Field → Nat → Option Nat
  | [], o => some o
  | f :: fs, o => bif Nat.beq f.offset o then packed P fs (o + P.cellsOf f.type) else none
/-- a type of plain parts and slices of such -/
def simple (P : Program) : Nat → TypeId → Bool
  | 0, _ => false
  | n + 1, t => match P.underlying t with
    | some .bool => true
    | some (.int _) => true
    | some .string => true
    | some (.slice e) => !Nat.beq (P.cellsOf e) 0 && simple P n e
    | some (.struct fs) => fs.toList.all (fun f => simple P n f.type) && (match packed P fs.toList 0 with | some o => Nat.beq o (P.cellsOf t) | none => false)
    | some (.array m e) => Nat.beq (m * P.cellsOf e) (P.cellsOf t) && simple P n e
    | _ => false

theorem packed_le : ∀ {fs : List Field} {o e : Nat}, packed P fs o = some e → o ≤ e
  | [], o, e, h => by simp [packed] at h; omega
  | f :: fs, o, e, h => by
    simp only [packed] at h
    cases hb : Nat.beq f.offset o with
    | false => simp [hb] at h
    | true =>
      simp only [hb, cond_true] at h
      have := packed_le h
      omega
theorem packed_all {Q : Value → Prop} {cs : List Value} : ∀ {fs : List Field} {o e : Nat}, packed P fs o = some e → (∀ f ∈ fs, ∀ v ∈ (cs.drop f.offset).take (P.cellsOf f.type), Q v) → ∀ (j : Nat) v, o ≤ j → j < e → cs[j]? = some v → Q v
  | [], o, e, h, _, j, v, h1, h2, _ => by simp [packed] at h; omega
  | f :: fs, o, e, h, hq, j, v, h1, h2, hv => by
    simp only [packed] at h
    cases hb : Nat.beq f.offset o with
    | false => simp [hb] at h
    | true =>
      have hb := Nat.eq_of_beq_eq_true hb
      simp only [hb, Nat.beq_refl, cond_true] at h
      by_cases hj : j < o + P.cellsOf f.type
      · refine hq f List.mem_cons_self v (List.mem_of_getElem? (i := j - o) ?_)
        rw [List.getElem?_take, if_pos (by omega), List.getElem?_drop, hb, show o + (j - o) = j by omega]
        exact hv
      · exact packed_all h (fun g hg => hq g (List.mem_cons_of_mem _ hg)) j v (by omega) h2 hv

theorem bind_some_get {α β : Type} {a : Option α} {f : α → Option β} {l : List β} {k : Nat} (h : a.bind f = l[k]?) (hk : k < l.length) : ∃ x y, a = some x ∧ f x = some y := by
  rw [List.getElem?_eq_getElem hk] at h
  obtain ⟨x, h1, h2⟩ := Option.bind_eq_some_iff.1 h
  exact ⟨x, _, h1, h2⟩
/-- cells of the model's memory, where there is one at least -/
theorem cells_some {base : Nat} {a : Addr} {n : Nat} {cs : List Value} (h : W.cells? base a n = some cs) (hn : 0 < n) :
    a.spot = none ∧ ∃ C e fz, W.heap[a.block]? = some (.cells C e fz) ∧ (C.toList.drop a.off).take n = cs ∧ a.off + n ≤ C.size ∧ ∀ v ∈ cs, v ∈ C.toList := by
  obtain ⟨_, hl, hc⟩ := World.cells?_some h
  have h0 := hc 0 hn
  have hcs : 0 < cs.length := by omega
  rw [List.getElem?_eq_getElem hcs, show a.add 0 = a from rfl] at h0
  unfold World.cell? at h0
  cases hW : W.heap[a.block]? with
  | none => simp [hW] at h0
  | some ob =>
    cases ob <;> simp only [hW] at h0 <;> first | (cases h0; done) | skip
    rename_i C e fz
    have hsp : a.spot = none := by
      cases hs : a.spot with
      | none => rfl
      | some s => simp [hs] at h0
    obtain ⟨b, o, sp⟩ := a
    obtain rfl : sp = none := hsp
    have hall : ∀ i, i < n → C[o + i]? = cs[i]? := by
      intro i hi
      have h1 := hc i hi
      unfold World.cell? at h1
      rw [Addr.add_none] at h1
      simp only at hW h1
      rw [hW] at h1
      simpa using h1
    have hle : o + n ≤ C.size := by
      have h2 := hall (n - 1) (by omega)
      rw [List.getElem?_eq_getElem (by omega)] at h2
      have := (Array.getElem?_eq_some_iff.1 h2).1
      omega
    have heq : (C.toList.drop o).take n = cs := by
      apply List.ext_getElem?
      intro i
      by_cases hi : i < n
      · rw [List.getElem?_take, if_pos hi, List.getElem?_drop, ← hall i hi, Array.getElem?_toList]
      · rw [List.getElem?_eq_none (by simp; omega), List.getElem?_eq_none (by omega)]
    refine ⟨rfl, C, e, fz, rfl, heq, hle, fun v hv => ?_⟩
    rw [← heq] at hv
    exact List.mem_of_mem_drop (List.mem_of_mem_take hv)
theorem trod_array {H : Type} {en : TypeId × Value → H} {base : Nat} {spare : Nat → Bool} {held : Bool} {fuel : Nat} {t e : TypeId} {m : Nat} {cs : List Value} {x : DataW H × List MemPlace} (hu : P.underlying t = some (.array m e))
    (htr : DataW.trod en P W base spare held fuel t cs = some x) : cs.length = P.cellsOf t ∧ ∀ k, k < m → ∃ f y, DataW.trod en P W base spare held f e ((cs.drop (k * P.cellsOf e)).take (P.cellsOf e)) = some y := by
  cases fuel with
  | zero => simp [DataW.trod] at htr
  | succ f =>
    unfold DataW.trod at htr
    rw [hu] at htr
    split at htr <;> simp_all
    obtain ⟨hl, xs, hp, _⟩ := htr
    have hlen := mapM_some_length hp
    rw [List.length_range] at hlen
    refine fun k hk => ?_
    have h1 := mapM_some_get hp k k (by simp [hk])
    rw [List.getElem?_eq_getElem (by omega)] at h1
    exact ⟨f, xs[k].1, xs[k].2, h1⟩
theorem map_cut {l : List Value} {o n : Nat} : ((l.map enc).drop o).take n = ((l.drop o).take n).map enc := by rw [List.map_take, List.map_drop]
/-- **WHAT IS READ OF CELLS, IN THE EVALUATOR'S FIRST HEAP** -/
theorem seen_of_trod {H : Type} {en : TypeId × Value → H} {spare : Nat → Bool} (hsp : ∀ i, spare i = true) {held : Bool} : ∀ (n : Nat) {t : TypeId} {fuel : Nat} {cs : List Value} {x : DataW H × List MemPlace}, simple P n t = true →
    DataW.trod en P W 0 spare held fuel t cs = some x → (∀ v ∈ cs, topV v ≤ top W) → Seen P (start W) n t (cs.map enc) ∧ ∀ v ∈ cs, ren (rho0 (top W)) (enc v) = some v
  | 0, _, _, _, _, hs, _, _ => by simp [simple] at hs
  | n + 1, t, fuel, cs, x, hs, htr, htop => by
    simp only [simple] at hs
    cases hu : P.underlying t with
    | none => simp [hu] at hs
    | some td =>
      cases td <;> simp only [hu] at hs <;> first | (cases hs; done) | skip
      case bool =>
        obtain ⟨b, rfl, _⟩ := DataW.trod_bool hu htr
        exact ⟨by simp only [Seen, hu]; exact ⟨b, rfl⟩, fun v hv => by simp at hv; subst hv; simp [enc, ren]⟩
      case int k =>
        obtain ⟨z, rfl, _, hw⟩ := DataW.trod_int hu htr
        simp only [Lit.wf, Bool.and_eq_true, decide_eq_true_eq] at hw
        exact ⟨by simp only [Seen, hu]; exact ⟨z, rfl, hw⟩, fun v hv => by simp at hv; subst hv; simp [enc, ren]⟩
      case string =>
        obtain ⟨s, rfl, _, hw⟩ := DataW.trod_string hu htr
        obtain ⟨⟨s⟩⟩ := s
        exact ⟨by simp only [Seen, hu]; exact ⟨s, rfl, hw⟩, fun v hv => by simp at hv; subst hv; simp [enc, ren]⟩
      case slice e =>
        simp only [Bool.and_eq_true, Bool.not_eq_true'] at hs
        obtain ⟨hz, hse⟩ := hs
        have hz : 0 < P.cellsOf e := by
          rcases Nat.eq_zero_or_pos (P.cellsOf e) with h0 | h0
          · rw [h0] at hz; simp at hz
          · exact h0
        rcases DataW.trod_slice hu htr with ⟨rfl, _⟩ | ⟨a, len, cap, elems, rest, m, _, rfl, _, _, hlc, hcm, hel, hread, hrest, _⟩
        · exact ⟨by simp only [Seen, hu]; exact ⟨none, 0, 0, rfl, Nat.le_refl _, by omega, fun _ => rfl, fun k hk => absurd hk (Nat.not_lt_zero _)⟩, fun v hv => by simp at hv; subst hv; simp [enc, ren]⟩
        · have hcell : ∀ k, k < len → ∃ cs' y, W.cells? 0 (a.add (k * P.cellsOf e)) (P.cellsOf e) = some cs' ∧ DataW.trod en P W 0 spare held m e cs' = some y := fun k hk => bind_some_get (hread k hk) (by omega)
          have hspot : cap ≠ 0 → a.spot = none := by
            intro hc
            by_cases h0 : 0 < len
            · obtain ⟨cs', y, h1, _⟩ := hcell 0 h0
              rw [Nat.zero_mul, show a.add 0 = a from rfl] at h1
              exact (cells_some h1 hz).1
            · obtain ⟨hr1, hr2⟩ := hrest (hsp _)
              obtain ⟨cs', y, h1, _⟩ := bind_some_get (hr2 0 (by omega)) (by omega)
              rw [show len = 0 by omega, Nat.zero_add, Nat.zero_mul, show a.add 0 = a from rfl] at h1
              exact (cells_some h1 hz).1
          have htopa := htop _ (List.mem_singleton.2 rfl)
          simp only [topV] at htopa
          refine ⟨?_, fun v hv => ?_⟩
          · simp only [Seen, hu]
            have henc : ∃ a2 : Addr, [Value.slice (some a) len cap].map enc = [.slice (some a2) len cap] ∧ (a.spot = none → a2 = a) := by
              obtain ⟨b, o, sp⟩ := a
              cases sp with
              | none => exact ⟨_, rfl, fun _ => rfl⟩
              | some s => exact ⟨_, rfl, fun h => by cases h⟩
            obtain ⟨a2, hea, ha2⟩ := henc
            refine ⟨some a2, len, cap, hea, hlc, hcm, (fun e => by cases e), fun k hk => ?_⟩
            obtain ⟨cs', y, h1, h2⟩ := hcell k hk
            have hsa : a.spot = none := hspot (by omega)
            have ha2 := ha2 hsa
            subst ha2
            obtain ⟨b, o, sp⟩ := a2
            obtain rfl : sp = none := hsa
            rw [Addr.add_none] at h1
            obtain ⟨s1, C, el, fz, s2, s3, s4, s5⟩ := cells_some h1 hz
            have hlt := (Array.getElem?_eq_some_iff.1 s2).1
            obtain ⟨ih1, ih2⟩ := seen_of_trod hsp n hse h2 fun v hv => cell_top s2 (s5 v hv)
            refine ⟨b, o, cs'.map enc, rfl, ?_, start_cut s2 s3 s4 ih2, ih1⟩
            have := size_top (W := W)
            have hlt : b < W.heap.size := hlt
            rw [start_next]
            omega
          · rw [List.mem_singleton] at hv
            subst hv
            refine ren_cell (fun _ => by omega) fun hne => ?_
            by_cases hc : cap = 0
            · omega
            · exact absurd (hspot hc) hne
      case struct fs =>
        simp only [Bool.and_eq_true, List.all_eq_true] at hs
        obtain ⟨hsf, hpk⟩ := hs
        obtain ⟨xs, m, _, _, hl, hxl, hf⟩ := DataW.trod_struct hu htr
        have key : ∀ f ∈ fs.toList, Seen P (start W) n f.type (((cs.drop f.offset).take (P.cellsOf f.type)).map enc) ∧ ∀ v ∈ (cs.drop f.offset).take (P.cellsOf f.type), ren (rho0 (top W)) (enc v) = some v := by
          intro f hm
          obtain ⟨i, hi, hfi⟩ := List.getElem_of_mem hm
          have hi' : i < fs.size := by simpa using hi
          have h1 := hf i f (by rw [Array.getElem?_eq_getElem hi']; simpa using hfi)
          rw [List.getElem?_eq_getElem (by omega)] at h1
          exact seen_of_trod hsp n (hsf f hm) h1 fun v hv => htop v (List.mem_of_mem_drop (List.mem_of_mem_take hv))
        cases hp : packed P fs.toList 0 with
        | none => simp [hp] at hpk
        | some o =>
          simp only [hp] at hpk
          have hpk := Nat.eq_of_beq_eq_true hpk
          refine ⟨by simp only [Seen, hu, map_cut, List.length_map]; exact ⟨hl, fun f hm => (key f hm).1⟩, fun v hv => ?_⟩
          obtain ⟨j, hj, hv⟩ := List.getElem_of_mem hv
          exact packed_all (Q := fun v => ren (rho0 (top W)) (enc v) = some v) hp (fun f hm => (key f hm).2) j v (Nat.zero_le _) (by omega) (by rw [List.getElem?_eq_getElem hj, hv])
      case array m e =>
        simp only [Bool.and_eq_true] at hs
        obtain ⟨hsz, hse⟩ := hs
        have hsz := Nat.eq_of_beq_eq_true hsz
        have harr := trod_array hu htr
        obtain ⟨hl, hel⟩ := harr
        have key : ∀ k, k < m → Seen P (start W) n e (((cs.drop (k * P.cellsOf e)).take (P.cellsOf e)).map enc) ∧ ∀ v ∈ (cs.drop (k * P.cellsOf e)).take (P.cellsOf e), ren (rho0 (top W)) (enc v) = some v := by
          intro k hk
          obtain ⟨f, y, h1⟩ := hel k hk
          exact seen_of_trod hsp n hse h1 fun v hv => htop v (List.mem_of_mem_drop (List.mem_of_mem_take hv))
        refine ⟨by simp only [Seen, hu, map_cut, List.length_map]; exact ⟨hl, fun k hk => (key k hk).1⟩, fun v hv => ?_⟩
        obtain ⟨j, hj, hv⟩ := List.getElem_of_mem hv
        have hpos : 0 < P.cellsOf e := by
          rcases Nat.eq_zero_or_pos (P.cellsOf e) with h0 | h0
          · rw [h0] at hsz; omega
          · exact h0
        have hjk : j / P.cellsOf e < m := Nat.div_lt_of_lt_mul (by rw [Nat.mul_comm]; omega)
        refine (key (j / P.cellsOf e) hjk).2 v (List.mem_of_getElem? (i := j % P.cellsOf e) ?_)
        rw [List.getElem?_take, if_pos (Nat.mod_lt _ hpos), List.getElem?_drop, Nat.div_add_mod', List.getElem?_eq_getElem hj, hv]
/-- lists out of places -/
theorem exists_list {α : Type} {Q : Nat → α → Prop} : ∀ (n : Nat), (∀ k, k < n → ∃ x, Q k x) → ∃ l : List α, l.length = n ∧ ∀ (k : Nat) x, l[k]? = some x → Q k x
  | 0, _ => ⟨[], rfl, fun k x h => by simp at h⟩
  | n + 1, h => by
    obtain ⟨l, hl, hq⟩ := exists_list n fun k hk => h k (by omega)
    obtain ⟨x, hx⟩ := h n (by omega)
    refine ⟨l ++ [x], by simp [hl], fun k y hy => ?_⟩
    by_cases hk : k < l.length
    · rw [List.getElem?_append_left hk] at hy; exact hq k y hy
    · rw [List.getElem?_append_right (by omega)] at hy
      have hk2 : k - l.length = 0 := by
        have := (List.getElem?_eq_some_iff.1 hy).1
        simp at this; omega
      rw [hk2] at hy
      simp at hy; subst hy
      have : k = n := by omega
      subst this; exact hx
/-- a slice, and what is known of each of its elements -/
theorem seen_slice {h : AHeap} {n : Nat} {t e : TypeId} {s : Nat} {cs : List Value} (hu : P.underlying t = some (.slice e)) (hs : P.cellsOf e = s) (hc : Seen P h (n + 1) t cs) {α : Type} {cells : α → List Value} {Q : α → Prop}
    (hq : ∀ c, Seen P h n e c → ∃ a, c = cells a ∧ Q a) : ∃ (v : Value) (xs : List α), cs = [v] ∧ Elems h s v (xs.map cells) ∧ (∀ x ∈ xs, Q x) ∧ xs.length ≤ 9223372036854775807 ∧ oneCell v = true := by
  simp only [Seen, hu] at hc
  obtain ⟨base, len, cap, rfl, h1, h2, h3, h4⟩ := hc
  obtain ⟨xs, hl, hx⟩ := exists_list (Q := fun k (a : α) => Q a ∧ ∃ i o, base = some ⟨i, o, none⟩ ∧ i < h.next ∧ rowCut h i (o + k * P.cellsOf e) (P.cellsOf e) = some (cells a)) len fun k hk => by
    obtain ⟨i, o, c, e1, e2, e3, e4⟩ := h4 k hk
    obtain ⟨a, rfl, ha⟩ := hq c e4
    exact ⟨a, ha, i, o, e1, e2, e3⟩
  subst hl
  refine ⟨_, xs, rfl, ⟨base, cap, by simp, fun k x hk => ?_⟩, fun x hm => ?_, by omega, rfl⟩
  · rw [List.getElem?_map] at hk
    cases hg : xs[k]? with
    | none => simp [hg] at hk
    | some a =>
      simp only [hg, Option.map_some, Option.some.injEq] at hk
      subst hk
      obtain ⟨_, i, o, e1, e2, e3⟩ := hx k a hg
      rw [hs] at e3
      exact ⟨i, o, e1, e2, e3⟩
  · obtain ⟨k, hk, rfl⟩ := List.getElem_of_mem hm
    exact (hx k _ (List.getElem?_eq_getElem hk)).1
theorem seen_string {h : AHeap} {n : Nat} {t : TypeId} {cs : List Value} (hu : P.underlying t = some .string) (hc : Seen P h n t cs) : ∃ s : List UInt8, cs = [.string ⟨⟨s⟩⟩] ∧ s.length ≤ 9223372036854775807 := by
  cases n with
  | zero => cases hc
  | succ n => simpa only [Seen, hu] using hc
theorem seen_bool {h : AHeap} {n : Nat} {t : TypeId} {cs : List Value} (hu : P.underlying t = some .bool) (hc : Seen P h n t cs) : ∃ b, cs = [.bool b] := by
  cases n with
  | zero => cases hc
  | succ n => simpa only [Seen, hu] using hc
theorem seen_int {h : AHeap} {n : Nat} {t : TypeId} {k : IntKind} {cs : List Value} (hu : P.underlying t = some (.int k)) (hc : Seen P h n t cs) : ∃ z, cs = [.int k z] ∧ k.min ≤ z ∧ z ≤ k.max := by
  cases n with
  | zero => cases hc
  | succ n => simpa only [Seen, hu] using hc
theorem seen_struct {h : AHeap} {n : Nat} {t : TypeId} {fs : Array Field} {cs : List Value} (hu : P.underlying t = some (.struct fs)) (hc : Seen P h (n + 1) t cs) :
    cs.length = P.cellsOf t ∧ ∀ f ∈ fs.toList, Seen P h n f.type ((cs.drop f.offset).take (P.cellsOf f.type)) := by simpa only [Seen, hu] using hc
/-- a struct's fields: type, place, size; and its size -/
def partsOf (P : Program) (t : TypeId) : Option (List (TypeId × Nat × Nat) × Nat) := match P.underlying t with
  | some (.struct fs) => some (fs.toList.map fun f => (f.type, f.offset, P.cellsOf f.type), P.cellsOf t)
  | _ => none
theorem seen_parts {h : AHeap} {n : Nat} {t : TypeId} {l : List (TypeId × Nat × Nat)} {s : Nat} {cs : List Value} (hp : partsOf P t = some (l, s)) (hc : Seen P h (n + 1) t cs) :
    cs.length = s ∧ ∀ p ∈ l, Seen P h n p.1 ((cs.drop p.2.1).take p.2.2) := by
  unfold partsOf at hp
  split at hp
  · rename_i fs hu
    simp only [Option.some.injEq, Prod.mk.injEq] at hp
    obtain ⟨rfl, rfl⟩ := hp
    obtain ⟨h1, h2⟩ := seen_struct hu hc
    refine ⟨h1, fun p hm => ?_⟩
    obtain ⟨f, hf, rfl⟩ := List.mem_map.1 hm
    exact h2 f hf
  · cases hp
end
end Go.Ev
