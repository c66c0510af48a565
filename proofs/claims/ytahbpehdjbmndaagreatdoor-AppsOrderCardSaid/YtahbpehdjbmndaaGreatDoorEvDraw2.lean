/-
  The evaluator is sound: a region that draws its order; no condition.
-/
import Derived.Test.YtahbpehdjbmndaaGreatDoorEvDraw
namespace Go.Ev
open Go.RowKit

section
variable {P : Program} {ih : IH} {ops : List Oper} {n : Nat} {tm : T Value} {h : AHeap} {V : Nat → Value} {TM : Nat → T Value} {HH : Nat → AHeap} {HS : Nat → List AHeap} {MS : Nat → List Met}

def efs (P : Program) (ops : List Oper) (j : Nat) : Nat := countEff P (fun e => decide (e < j)) ops 0
theorem efs_succ {j : Nat} {o : Oper} (ho : ops[j]? = some o) : efs P ops (j + 1) = efs P ops j + (if isEff P o = true then 1 else 0) := by
  unfold efs
  exact countEff_insert ops 0 j o ho (by simp) (by simp) (fun k hk => by
    have hk : k ≠ j := by omega
    rw [decide_eq_decide]; omega)
theorem isEff_iff {o : Oper} : isEff P o = true ↔ kindOf P o = .eff := by
  unfold isEff
  cases kindOf P o <;> simp
structure Txt (P : Program) (ih : IH) (ops : List Oper) (n : Nat) (tm : T Value) (h : AHeap) (V : Nat → Value) (TM : Nat → T Value) (HH : Nat → AHeap) (HS : Nat → List AHeap) (MS : Nat → List Met) : Prop where
  tm0 : TM 0 = tm
  hh0 : HH 0 = h
  hs0 : HS 0 = [h]
  ms0 : MS 0 = []
  step : ∀ (j : Nat) (o : Oper), ops[j]? = some o → StepAt P ih ops (befs ops []) n V TM HH HS MS j o
  hold : allHold P (HS ops.length).reverse (MS ops.length) = true
structure DrawOrd (P : Program) (ops : List Oper) : Prop where
  back : ∀ (j : Nat) (o : Oper), ops[j]? = some o → edgesBack j o.after.toList = true
  apart : ∀ (j : Nat) (o : Oper) (i : Nat) (o' : Oper), ops[j]? = some o → ops[i]? = some o' → i ≠ j → apartDst o o' = true
  tmps : ∀ (j : Nat) (o : Oper) (i : Nat) (o' : Oper), ops[j]? = some o → ops[i]? = some o' → i ≠ j → tmpOrdered ops (befs ops []) j i o o' = true
  effs : ∀ (j : Nat) (o : Oper) (i : Nat) (o' : Oper), ops[j]? = some o → ops[i]? = some o' → i ≠ j → effOrdered P (befs ops []) j i o o' = true
  fits : ∀ md, fitsMode md ops [] (Region.linearise md ops.toArray 0) = true

theorem ord_of (hd : drawOk P ops = true) : DrawOrd P ops := by
  simp only [drawOk, Bool.and_eq_true] at hd
  obtain ⟨⟨⟨h1, h2⟩, h3⟩, h4⟩ := hd
  have h5 := forallIdx_iff.1 h4
  have h6 : ∀ j o, ops[j]? = some o → edgesBack j o.after.toList = true ∧ ∀ i o', ops[i]? = some o' → i ≠ j → apartDst o o' = true ∧ tmpOrdered ops (befs ops []) j i o o' = true ∧ effOrdered P (befs ops []) j i o o' = true := by
    intro j o ho
    have := h5 j o ho
    simp only [Nat.zero_add, Bool.and_eq_true] at this
    refine ⟨this.1, fun i o' ho' hne => ?_⟩
    have h7 := forallIdx_iff.1 this.2 i o' ho'
    simp only [Nat.zero_add, Bool.or_eq_true, Bool.and_eq_true] at h7
    rcases h7 with h7 | h7
    · exact absurd (Nat.eq_of_beq_eq_true h7) hne
    · exact h7
  exact ⟨fun j o ho => (h6 j o ho).1, fun j o i o' ho ho' hne => ((h6 j o ho).2 i o' ho' hne).1, fun j o i o' ho ho' hne => ((h6 j o ho).2 i o' ho' hne).2.1, fun j o i o' ho ho' hne => ((h6 j o ho).2 i o' ho' hne).2.2,
    fun md => by cases md <;> assumption⟩

/-! ### What the trace says -/
theorem Txt.same (ht : Txt P ih ops n tm h V TM HH HS MS) {j : Nat} {o : Oper} (ho : ops[j]? = some o) (hk : kindOf P o ≠ .eff) : HH (j + 1) = HH j := by
  have hs := ht.step j o ho
  cases hw : wantedA ops (TM j) o.guard with
  | false => exact (hs.not hw).2
  | true =>
    have he := hs.want hw
    cases hkk : kindOf P o with
    | eff => exact absurd hkk hk
    | pure => exact (pure_apart hkk he (HH j) ih).1
    | read => exact (read_keeps hkk he ih).1
theorem Txt.head (ht : Txt P ih ops n tm h V TM HH HS MS) : ∀ j, j ≤ ops.length → (HS j).length = efs P ops j + 1 ∧ ∃ tl, HS j = HH j :: tl := by
  intro j
  induction j with
  | zero =>
    intro _
    have h0 : efs P ops 0 = 0 := by
      have h1 : ∀ (l : List Oper) (i : Nat), countEff P (fun e => decide (e < 0)) l i = 0 := by
        intro l
        induction l with
        | nil => intro i; rfl
        | cons o l ih => intro i; simp only [countEff, ih]; cases isEff P o <;> simp
      exact h1 ops 0
    rw [ht.hs0, h0, ht.hh0]
    exact ⟨rfl, [], rfl⟩
  | succ j ihj =>
    intro hj
    obtain ⟨h1, tl, h2⟩ := ihj (by omega)
    have ho : ops[j]? = some ops[j] := List.getElem?_eq_getElem (by omega)
    rw [efs_succ ho]
    have hs := ht.step j _ ho
    cases hk : kindOf P ops[j] with
    | eff =>
      rw [(hs.eff hk).1, if_pos (isEff_iff.2 hk)]
      exact ⟨by simp [h1], HS j, rfl⟩
    | pure =>
      rw [(hs.pure hk).1, if_neg (by rw [isEff_iff, hk]; simp), ht.same ho (by rw [hk]; simp)]
      exact ⟨by simpa using h1, tl, h2⟩
    | read =>
      rw [(hs.read hk).1, if_neg (by rw [isEff_iff, hk]; simp), ht.same ho (by rw [hk]; simp)]
      exact ⟨by simpa using h1, tl, h2⟩
theorem Txt.grow (ht : Txt P ih ops n tm h V TM HH HS MS) : ∀ d j, j + d ≤ ops.length → ∃ pre, HS (j + d) = pre ++ HS j
  | 0, j, _ => ⟨[], rfl⟩
  | d + 1, j, hd => by
    obtain ⟨pre, hp⟩ := ht.grow d j (by omega)
    have ho : ops[j + d]? = some ops[j + d] := List.getElem?_eq_getElem (by omega)
    have hs := ht.step (j + d) _ ho
    cases hk : kindOf P ops[j + d] with
    | eff => exact ⟨HH (j + d + 1) :: pre, by rw [← Nat.add_assoc, (hs.eff hk).1, hp]; rfl⟩
    | pure => exact ⟨pre, by rw [← Nat.add_assoc, (hs.pure hk).1, hp]⟩
    | read => exact ⟨pre, by rw [← Nat.add_assoc, (hs.read hk).1, hp]⟩
theorem Txt.heaps (ht : Txt P ih ops n tm h V TM HH HS MS) {j : Nat} (hj : j ≤ ops.length) : (HS ops.length).reverse[efs P ops j]? = some (HH j) := by
  obtain ⟨h1, tl, h2⟩ := ht.head j hj
  obtain ⟨pre, h3⟩ := ht.grow (ops.length - j) j (by omega)
  rw [show j + (ops.length - j) = ops.length by omega] at h3
  rw [h3, h2, List.reverse_append, List.reverse_cons]
  have hl : tl.length = efs P ops j := by
    have := h1; rw [h2] at this; simpa using this
  rw [← hl, List.append_assoc, List.getElem?_append_right (by simp)]
  simp
theorem Txt.mets (ht : Txt P ih ops n tm h V TM HH HS MS) {j : Nat} {o : Oper} (ho : ops[j]? = some o) (hk : kindOf P o = .read) (hw : wantedA ops (TM j) o.guard = true) :
    (⟨o, TM j, V j, loOf P ops (befs ops []) j, hiOf P ops (befs ops []) j⟩ : Met) ∈ MS ops.length := by
  have hj : j < ops.length := (List.getElem?_eq_some_iff.1 ho).1
  have key : ∀ d, j + 1 + d ≤ ops.length → (⟨o, TM j, V j, loOf P ops (befs ops []) j, hiOf P ops (befs ops []) j⟩ : Met) ∈ MS (j + 1 + d) := by
    intro d
    induction d with
    | zero =>
      intro _
      rw [Nat.add_zero, ((ht.step j o ho).read hk).2, if_pos hw]
      exact List.mem_cons_self
    | succ d ihd =>
      intro hd
      have h1 := ihd (by omega)
      have ho' : ops[j + 1 + d]? = some ops[j + 1 + d] := List.getElem?_eq_getElem (by omega)
      have hs := ht.step _ _ ho'
      rw [← Nat.add_assoc]
      cases hk' : kindOf P ops[j + 1 + d] with
      | eff => rw [(hs.eff hk').2]; exact h1
      | pure => rw [(hs.pure hk').2]; exact h1
      | read =>
        rw [(hs.read hk').2]
        split
        · exact List.mem_cons_of_mem _ h1
        · exact h1
  have := key (ops.length - (j + 1)) (by omega)
  rw [show j + 1 + (ops.length - (j + 1)) = ops.length by omega] at this
  exact this
theorem holdsIn_iff {m : Met} : ∀ {hs : List AHeap} {i : Nat}, holdsIn P m hs i = true → ∀ k H, hs[k]? = some H → m.lo ≤ i + k → i + k ≤ m.hi → holdsAt P m H = true
  | [], i, _, k, H, hk, _, _ => by simp at hk
  | x :: hs, i, he, k, H, hk, h1, h2 => by
    simp only [holdsIn, Bool.and_eq_true, Bool.or_eq_true, Bool.not_eq_true'] at he
    cases k with
    | zero =>
      simp at hk; subst hk
      rcases he.1 with h3 | h3
      · rw [Nat.ble_eq_true_of_le (by simpa using h1), Nat.ble_eq_true_of_le (by simpa using h2)] at h3
        cases h3
      · exact h3
    | succ k => exact holdsIn_iff he.2 k H (by simpa using hk) (by omega) (by omega)
theorem allHold_mem {hs : List AHeap} : ∀ {ms : List Met}, allHold P hs ms = true → ∀ m ∈ ms, holdsIn P m hs 0 = true
  | [], _, m, hm => by simp at hm
  | x :: ms, h, m, hm => by
    simp only [allHold, Bool.and_eq_true] at h
    rcases List.mem_cons.1 hm with rfl | hm
    · exact h.1
    · exact allHold_mem h.2 m hm

/-- the temporaries behind the operations of a set -/
def TmOf (ops : List Oper) (V : Nat → Value) (tm : T Value) (D : Nat → Prop) (tmc : T Value) : Prop :=
  (∀ i o t, ops[i]? = some o → D i → o.dst = some t → tmc.get t = some (V i)) ∧ (∀ t, (∀ i o, ops[i]? = some o → D i → o.dst ≠ some t) → tmc.get t = tm.get t)
theorem apart_ne {o o' : Oper} {t : Tmp} (ha : apartDst o o' = true) (h1 : o.dst = some t) : o'.dst ≠ some t := by
  intro h2
  simp [apartDst, h1, h2] at ha
theorem TmOf.put (hord : DrawOrd P ops) {D : Nat → Prop} {tmc : T Value} (ht : TmOf ops V tm D tmc) {j : Nat} {o : Oper} (ho : ops[j]? = some o) {tmc' : T Value}
    (h1 : ∀ d, o.dst = some d → tmc' = T.put (V j) tmc d) (h2 : o.dst = none → tmc' = tmc) {D' : Nat → Prop} (hD : ∀ i, D' i ↔ D i ∨ i = j) : TmOf ops V tm D' tmc' := by
  cases hd : o.dst with
  | none =>
    rw [h2 hd]
    refine ⟨fun i o' t ho' hi hdst => ?_, fun t hno => ht.2 t fun i o' ho' hi => hno i o' ho' ((hD i).2 (.inl hi))⟩
    rcases (hD i).1 hi with hi | rfl
    · exact ht.1 i o' t ho' hi hdst
    · rw [ho] at ho'; cases ho'; rw [hd] at hdst; cases hdst
  | some d =>
    rw [h1 d hd]
    refine ⟨fun i o' t ho' hi hdst => ?_, fun t hno => ?_⟩
    · rw [T.get_put]
      by_cases hij : i = j
      · subst hij
        rw [ho] at ho'; cases ho'
        rw [hd] at hdst; cases hdst
        rw [if_pos rfl]
      · have hi' : D i := by
          rcases (hD i).1 hi with hi | hi
          · exact hi
          · exact absurd hi hij
        have hne : t ≠ d := by
          rintro rfl
          exact apart_ne (hord.apart j o i o' ho ho' hij) hd hdst
        rw [if_neg hne]
        exact ht.1 i o' t ho' hi' hdst
    · have hne : t ≠ d := by
        rintro rfl
        exact hno j o ho ((hD j).2 (.inr rfl)) hd
      rw [T.get_put, if_neg hne]
      exact ht.2 t fun i o' ho' hi => hno i o' ho' ((hD i).2 (.inl hi))
theorem Txt.tmOf (ht : Txt P ih ops n tm h V TM HH HS MS) (hord : DrawOrd P ops) : ∀ j, j ≤ ops.length → TmOf ops V tm (· < j) (TM j) := by
  intro j
  induction j with
  | zero =>
    intro _
    rw [ht.tm0]
    exact ⟨fun i o t _ hi => absurd hi (by omega), fun t _ => rfl⟩
  | succ j ihj =>
    intro hj
    have ho : ops[j]? = some ops[j] := List.getElem?_eq_getElem (by omega)
    have hs := ht.step j _ ho
    exact (ihj (by omega)).put hord ho (fun d hd => (hs.dst d hd).2) hs.none (fun i => by omega)

/-- closed under what comes before -/
def Closed (ops : List Oper) (D : Nat → Prop) : Prop := ∀ j i, D j → ((befs ops []).getD j 0).testBit i = true → D i
/-- an operation looks at the same temporaries, whatever of the others was done before -/
theorem DrawOrd.looks (hord : DrawOrd P ops) {D : Nat → Prop} {tmc : T Value} (ht : Txt P ih ops n tm h V TM HH HS MS) (hT : TmOf ops V tm D tmc) (hcl : Closed ops D) {j : Nat} {o : Oper} (ho : ops[j]? = some o) (hj : ¬ D j)
    (hready : ∀ i, ((befs ops []).getD j 0).testBit i = true → D i) {t : Nat} (hm : memN t (tmpsOf ops o) = true) : tmc.get t = (TM j).get t := by
  have hlt : j < ops.length := (List.getElem?_eq_some_iff.1 ho).1
  have hT2 := ht.tmOf hord j (by omega)
  by_cases hex : ∃ (i : Nat) (o' : Oper), ops[i]? = some o' ∧ o'.dst = some t
  · obtain ⟨i, o', ho', hd⟩ := hex
    -- only this one writes t
    have honly : ∀ i' o'', ops[i']? = some o'' → o''.dst = some t → i' = i := by
      intro i' o'' h1 h2
      apply Classical.byContradiction
      intro hne
      exact apart_ne (hord.apart i o' i' o'' ho' h1 hne) hd h2
    have none_of : ∀ (D : Nat → Prop), ¬ D i → ∀ i' o'', ops[i']? = some o'' → D i' → o''.dst ≠ some t := by
      intro D hD i' o'' h1 h2 h3
      have := honly i' o'' h1 h3
      subst this
      exact hD h2
    by_cases hij : i = j
    · subst hij
      rw [hT.2 t (none_of D hj), hT2.2 t (none_of (· < i) (by omega))]
    · have hto := hord.tmps j o i o' ho ho' hij
      simp only [tmpOrdered, hd, hm, Bool.not_true, Bool.false_or, Bool.or_eq_true] at hto
      rcases hto with hto | hto
      · rw [hT.1 i o' t ho' (hready i hto) hd, hT2.1 i o' t ho' (bef_lt hord.back j i hto) hd]
      · have h1 : ¬ D i := fun hi => hj (hcl i j hi hto)
        have h2 : j < i := bef_lt hord.back i j hto
        rw [hT.2 t (none_of D h1), hT2.2 t (none_of (· < j) (by omega))]
  · have hno : ∀ (D : Nat → Prop), ∀ i o, ops[i]? = some o → D i → o.dst ≠ some t := fun D i o' h1 _ h2 => hex ⟨i, o', h1, h2⟩
    rw [hT.2 t (hno D), hT2.2 t (hno _)]
theorem val_get {x : Operand} {tm1 tm2 : T Value} (hx : ∀ t, x = .tmp t → tm1.get t = tm2.get t) : val? P x tm1 = val? P x tm2 := by
  cases x with
  | tmp t =>
    show tmpV t tm1 = tmpV t tm2
    unfold tmpV
    rw [hx t rfl]
  | const v => rfl
  | global g => rfl
  | func f => rfl
theorem opdTmps_mem {t : Nat} : ∀ {l : List Operand}, .tmp t ∈ l → t ∈ opdTmps l
  | x :: l, hm => by
    rcases List.mem_cons.1 hm with rfl | hm
    · simp [opdTmps]
    · have := opdTmps_mem hm
      cases x <;> simp [opdTmps, this]
theorem looks_vals {o : Oper} {tm1 tm2 : T Value} (hl : ∀ t, memN t (tmpsOf ops o) = true → tm1.get t = tm2.get t) : (∀ x ∈ o.op.operands, val? P x tm1 = val? P x tm2) ∧ wantedA ops tm1 o.guard = wantedA ops tm2 o.guard := by
  refine ⟨fun x hx => val_get fun t ht => hl t ?_, ?_⟩
  · subst ht
    rw [memN_iff]
    exact List.mem_append_left _ (opdTmps_mem (by simpa using hx))
  · cases hg : o.guard with
    | none => rfl
    | some jw =>
      show wantedG ops tm1 jw = wantedG ops tm2 jw
      unfold wantedG
      cases hd : dstOf ops jw.1 with
      | none => rfl
      | some t =>
        simp only
        rw [hl t]
        rw [memN_iff]
        apply List.mem_append_right
        simp [guardTmps, hg, hd]
end
end Go.Ev
