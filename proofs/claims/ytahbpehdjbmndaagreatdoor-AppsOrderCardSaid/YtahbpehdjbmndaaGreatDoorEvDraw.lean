/-
  The evaluator is sound: a region that draws its order: the edges' closure, counts, the trace of the text's order; no condition.
-/
import Derived.Test.YtahbpehdjbmndaaGreatDoorEvPure
namespace Go.Ev
open Go.RowKit

theorem forallIdx_iff {p : Nat → Oper → Bool} : ∀ {l : List Oper} {i : Nat}, forallIdx p l i = true ↔ ∀ k o, l[k]? = some o → p (i + k) o = true
  | [], i => by simp [forallIdx]
  | x :: l, i => by
    simp only [forallIdx, Bool.and_eq_true, forallIdx_iff (l := l)]
    constructor
    · rintro ⟨h1, h2⟩ k o hk
      cases k with
      | zero => simp at hk; subst hk; exact h1
      | succ k => have := h2 k o (by simpa using hk); rw [show i + (k + 1) = i + 1 + k by omega]; exact this
    · intro h
      refine ⟨by simpa using h 0 x (by simp), fun k o hk => ?_⟩
      have := h (k + 1) o (by simpa using hk)
      rw [show i + 1 + k = i + (k + 1) by omega]; exact this
theorem memN_iff {t : Nat} : ∀ {l : List Nat}, memN t l = true ↔ t ∈ l
  | [] => by simp [memN]
  | x :: l => by simp [memN, memN_iff (l := l)]

/-! ### What comes before -/
theorem maskE_spec {acc : List Nat} {i : Nat} : ∀ {es : List Edge}, (maskE acc es).testBit i = true → ∃ e ∈ es, bindsAny e = true ∧ (i = e.on ∨ (acc.getD e.on 0).testBit i = true)
  | [], h => by simp [maskE] at h
  | e :: es, h => by
    simp only [maskE] at h
    cases hb : bindsAny e with
    | false =>
      simp only [hb, cond_false] at h
      obtain ⟨e', h1, h2⟩ := maskE_spec h
      exact ⟨e', List.mem_cons_of_mem _ h1, h2⟩
    | true =>
      simp only [hb, cond_true, Nat.testBit_or, Bool.or_eq_true] at h
      rcases h with h | h | h
      · refine ⟨e, List.mem_cons_self, hb, .inl ?_⟩
        rw [Nat.one_shiftLeft, Nat.testBit_two_pow] at h
        exact (by simpa using h : e.on = i).symm
      · exact ⟨e, List.mem_cons_self, hb, .inr h⟩
      · obtain ⟨e', h1, h2⟩ := maskE_spec h
        exact ⟨e', List.mem_cons_of_mem _ h1, h2⟩
theorem befs_old : ∀ (l : List Oper) (acc : List Nat) (j : Nat), j < acc.length → (befs l acc).getD j 0 = acc.getD j 0
  | [], acc, j, _ => rfl
  | o :: l, acc, j, hj => by
    simp only [befs]
    rw [befs_old l _ j (by simp; omega)]
    simp [List.getD_eq_getElem?_getD, List.getElem?_append_left hj]
theorem befs_length : ∀ (l : List Oper) (acc : List Nat), (befs l acc).length = acc.length + l.length
  | [], acc => by simp [befs]
  | o :: l, acc => by simp only [befs]; rw [befs_length l]; simp; omega
theorem befs_at : ∀ (l : List Oper) (acc : List Nat) (k : Nat) (o : Oper), l[k]? = some o → ∃ pre : List Nat, pre.length = acc.length + k ∧ (∀ j, j < pre.length → pre.getD j 0 = (befs l acc).getD j 0) ∧ (befs l acc).getD (acc.length + k) 0 = maskE pre o.after.toList
  | [], acc, k, o, h => by simp at h
  | x :: l, acc, 0, o, h => by
    simp at h; subst h
    simp only [befs]
    refine ⟨acc, by simp, fun j hj => ?_, ?_⟩
    · rw [befs_old l _ j (by simp; omega)]
      simp [List.getD_eq_getElem?_getD, List.getElem?_append_left hj]
    · rw [befs_old l _ _ (by simp)]
      simp [List.getD_eq_getElem?_getD]
  | x :: l, acc, k + 1, o, h => by
    simp only [befs]
    obtain ⟨pre, h1, h2, h3⟩ := befs_at l (acc ++ [maskE acc x.after.toList]) k o (by simpa using h)
    refine ⟨pre, by simp at h1; omega, h2, ?_⟩
    rw [← h3]; congr 1; simp; omega
theorem bef_spec {ops : List Oper} {j i : Nat} (h : ((befs ops []).getD j 0).testBit i = true) : ∃ o, ops[j]? = some o ∧ ∃ e ∈ o.after.toList, bindsAny e = true ∧ (i = e.on ∨ ((befs ops []).getD e.on 0).testBit i = true) := by
  cases ho : ops[j]? with
  | none =>
    exfalso
    have hlen : ops.length ≤ j := by
      rw [List.getElem?_eq_none_iff] at ho; exact ho
    rw [List.getD_eq_getElem?_getD, List.getElem?_eq_none (by rw [befs_length]; simpa using hlen)] at h
    simp at h
  | some o =>
    refine ⟨o, rfl, ?_⟩
    obtain ⟨pre, h1, h2, h3⟩ := befs_at ops [] j o ho
    simp only [List.length_nil, Nat.zero_add] at h1 h3
    rw [h3] at h
    obtain ⟨e, he, hb, hi⟩ := maskE_spec h
    refine ⟨e, he, hb, ?_⟩
    rcases hi with hi | hi
    · exact .inl hi
    · right
      by_cases hlt : e.on < pre.length
      · rw [h2 _ hlt] at hi; exact hi
      · rw [List.getD_eq_getElem?_getD, List.getElem?_eq_none (by omega)] at hi
        simp at hi
theorem edgesBack_all {j : Nat} : ∀ {es : List Edge}, edgesBack j es = true → ∀ e ∈ es, bindsAny e = true → e.on < j
  | [], _, e, he, _ => by simp at he
  | x :: es, h, e, he, hb => by
    simp only [edgesBack, Bool.and_eq_true, Bool.or_eq_true, Bool.not_eq_true'] at h
    rcases List.mem_cons.1 he with rfl | he
    · rcases h.1 with h1 | h1
      · rw [hb] at h1; cases h1
      · exact Nat.le_of_ble_eq_true h1
    · exact edgesBack_all h.2 e he hb
theorem bef_lt {ops : List Oper} (hback : ∀ j o, ops[j]? = some o → edgesBack j o.after.toList = true) : ∀ (j i : Nat), ((befs ops []).getD j 0).testBit i = true → i < j := by
  intro j
  induction j using Nat.strongRecOn with
  | _ j ih =>
    intro i h
    obtain ⟨o, ho, e, he, hb, hi⟩ := bef_spec h
    have hlt := edgesBack_all (hback j o ho) e he hb
    rcases hi with rfl | hi
    · exact hlt
    · have := ih e.on hlt i hi; omega

/-! ### Counting the operations that write -/
section
variable {P : Program}
theorem countEff_mono {p q : Nat → Bool} : ∀ (l : List Oper) (i : Nat), (∀ k o, l[k]? = some o → isEff P o = true → p (i + k) = true → q (i + k) = true) → countEff P p l i ≤ countEff P q l i
  | [], i, _ => Nat.le_refl _
  | o :: l, i, h => by
    have h0 := h 0 o (by simp)
    have ih := countEff_mono (p := p) (q := q) l (i + 1) (fun k x hk he hp => by
      have := h (k + 1) x (by simpa using hk) he (by rw [show i + (k + 1) = i + 1 + k by omega]; exact hp)
      rw [show i + 1 + k = i + (k + 1) by omega]; exact this)
    simp only [countEff]
    simp only [Nat.add_zero] at h0
    cases he : isEff P o with
    | false => simpa using ih
    | true =>
      cases hp : p i with
      | false =>
        simp only [Bool.and_false, cond_false]
        cases q i <;> simp only [Bool.and_self, Bool.and_false, cond_true, cond_false] <;> omega
      | true =>
        rw [h0 he hp]
        simp only [Bool.and_self, cond_true]; omega
theorem countEff_congr {p q : Nat → Bool} (l : List Oper) (i : Nat) (h : ∀ k o, l[k]? = some o → isEff P o = true → p (i + k) = q (i + k)) : countEff P p l i = countEff P q l i :=
  Nat.le_antisymm (countEff_mono l i fun k o hk he hp => by rw [← h k o hk he]; exact hp) (countEff_mono l i fun k o hk he hp => by rw [h k o hk he]; exact hp)
theorem countEff_insert {p q : Nat → Bool} : ∀ (l : List Oper) (i j : Nat) (o : Oper), l[j]? = some o → p (i + j) = false → q (i + j) = true → (∀ k, k ≠ i + j → p k = q k) →
    countEff P q l i = countEff P p l i + (if isEff P o = true then 1 else 0)
  | [], i, j, o, h, _, _, _ => by simp at h
  | x :: l, i, 0, o, h, hp, hq, hne => by
    simp at h; subst h
    simp only [Nat.add_zero] at hp hq hne
    have : countEff P q l (i + 1) = countEff P p l (i + 1) := countEff_congr l (i + 1) (fun k o _ _ => (hne _ (by omega)).symm)
    simp only [countEff, hp, hq, this]
    cases isEff P x <;> simp
  | x :: l, i, j + 1, o, h, hp, hq, hne => by
    have ih := countEff_insert (p := p) (q := q) l (i + 1) j o (by simpa using h) (by rw [show i + 1 + j = i + (j + 1) by omega]; exact hp) (by rw [show i + 1 + j = i + (j + 1) by omega]; exact hq)
      (fun k hk => hne k (by omega))
    simp only [countEff, ih, hne i (by omega)]
    cases (isEff P x && q i) <;> simp <;> omega
end

/-! ### The trace of the text's order -/
section
variable {P : Program} {ih : IH}
structure StepAt (P : Program) (ih : IH) (ops : List Oper) (b : List Nat) (n : Nat) (V : Nat → Value) (TM : Nat → T Value) (HH : Nat → AHeap) (HS : Nat → List AHeap) (MS : Nat → List Met) (j : Nat) (o : Oper) : Prop where
  want : wantedA ops (TM j) o.guard = true → evOper o.op ih P o (TM j) (HH j) = some (V j, HH (j + 1))
  not : wantedA ops (TM j) o.guard = false → V j = undef ∧ HH (j + 1) = HH j
  dst : ∀ d, o.dst = some d → d < n ∧ TM (j + 1) = T.put (V j) (TM j) d
  none : o.dst = none → TM (j + 1) = TM j
  eff : kindOf P o = .eff → HS (j + 1) = HH (j + 1) :: HS j ∧ MS (j + 1) = MS j
  pure : kindOf P o = .pure → HS (j + 1) = HS j ∧ MS (j + 1) = MS j
  read : kindOf P o = .read → HS (j + 1) = HS j ∧ MS (j + 1) = if wantedA ops (TM j) o.guard = true then ⟨o, TM j, V j, loOf P ops b j, hiOf P ops b j⟩ :: MS j else MS j

theorem putK_raw {β : Type} {n : Nat} {tm : T Value} {dst : Option Tmp} {v : Value} {k : T Value → Option β} {r : β} (he : putK n tm dst v k = some r) :
    ∃ tm', k tm' = some r ∧ (∀ d, dst = some d → d < n ∧ tm' = T.put v tm d) ∧ (dst = none → tm' = tm) := by
  unfold putK at he
  cases dst with
  | none => exact ⟨tm, he, by simp, fun _ => rfl⟩
  | some d =>
    simp only at he
    cases hb : Nat.blt d n with
    | false => simp [hb] at he
    | true =>
      simp only [hb, T.setK_eq] at he
      exact ⟨_, he, fun d' hd => by cases hd; exact ⟨Nat.le_of_ble_eq_true hb, rfl⟩, by simp⟩
theorem evText_trace (ops : List Oper) (b : List Nat) (n : Nat) (k : T Value → AHeap → Option Res) (r : Res) : ∀ (l : List Oper) (i : Nat) (tm : T Value) (h : AHeap) (hs : List AHeap) (ms : List Met),
    evText P ih ops b n k l i tm h hs ms = some r →
    ∃ V TM HH HS MS, TM i = tm ∧ HH i = h ∧ HS i = hs ∧ MS i = ms ∧ (∀ j o, l[j]? = some o → StepAt P ih ops b n V TM HH HS MS (i + j) o) ∧
      k (TM (i + l.length)) (HH (i + l.length)) = some r ∧ allHold P (HS (i + l.length)).reverse (MS (i + l.length)) = true
  | [], i, tm, h, hs, ms, he => by
    simp only [evText] at he
    cases ha : allHold P hs.reverse ms with
    | false => simp [ha] at he
    | true =>
      simp only [ha, cond_true] at he
      exact ⟨fun _ => undef, fun _ => tm, fun _ => h, fun _ => hs, fun _ => ms, rfl, rfl, rfl, rfl, by simp, by simpa using he, by simpa using ha⟩
  | o :: rest, i, tm, h, hs, ms, he => by
    simp only [evText, stepText] at he
    -- one step, then the rest
    have key : ∃ v tm' h' hs' ms', evText P ih ops b n k rest (i + 1) tm' h' hs' ms' = some r ∧
        (wantedA ops tm o.guard = true → evOper o.op ih P o tm h = some (v, h')) ∧ (wantedA ops tm o.guard = false → v = undef ∧ h' = h) ∧
        (∀ d, o.dst = some d → d < n ∧ tm' = T.put v tm d) ∧ (o.dst = none → tm' = tm) ∧
        (kindOf P o = .eff → hs' = h' :: hs ∧ ms' = ms) ∧ (kindOf P o = .pure → hs' = hs ∧ ms' = ms) ∧
        (kindOf P o = .read → hs' = hs ∧ ms' = if wantedA ops tm o.guard = true then ⟨o, tm, v, loOf P ops b i, hiOf P ops b i⟩ :: ms else ms) := by
      cases hw : wantedA ops tm o.guard with
      | true =>
        simp only [hw, cond_true, contText] at he
        cases hev : evOper o.op ih P o tm h with
        | none => simp [hev] at he
        | some vh =>
          obtain ⟨v, h'⟩ := vh
          simp only [hev] at he
          obtain ⟨tm', h1, h2, h3⟩ := putK_raw he
          unfold noteOp at h1
          cases hk : kindOf P o <;> simp only [hk, cond_true] at h1
          · exact ⟨v, tm', h', _, _, h1, fun _ => rfl, by simp, h2, h3, fun _ => ⟨rfl, rfl⟩, by simp, by simp⟩
          · exact ⟨v, tm', h', _, _, h1, fun _ => rfl, by simp, h2, h3, by simp, by simp, fun _ => ⟨rfl, by simp⟩⟩
          · exact ⟨v, tm', h', _, _, h1, fun _ => rfl, by simp, h2, h3, by simp, fun _ => ⟨rfl, rfl⟩, by simp⟩
      | false =>
        simp only [hw, cond_false] at he
        obtain ⟨tm', h1, h2, h3⟩ := putK_raw he
        unfold noteOp at h1
        cases hk : kindOf P o <;> simp only [hk, cond_false] at h1
        · exact ⟨undef, tm', h, _, _, h1, by simp, fun _ => ⟨rfl, rfl⟩, h2, h3, fun _ => ⟨rfl, rfl⟩, by simp, by simp⟩
        · exact ⟨undef, tm', h, _, _, h1, by simp, fun _ => ⟨rfl, rfl⟩, h2, h3, by simp, by simp, fun _ => ⟨rfl, by simp⟩⟩
        · exact ⟨undef, tm', h, _, _, h1, by simp, fun _ => ⟨rfl, rfl⟩, h2, h3, by simp, fun _ => ⟨rfl, rfl⟩, by simp⟩
    obtain ⟨v, tm', h', hs', ms', g0, g1, g2, g3, g4, g5, g6, g7⟩ := key
    obtain ⟨V, TM, HH, HS, MS, q1, q2, q3, q4, q5, q6, q7⟩ := evText_trace ops b n k r rest (i + 1) tm' h' hs' ms' g0
    have hupd : ∀ {α : Type} (f : Nat → α) (x : α) (j : Nat), j ≠ i → (fun m => if m = i then x else f m) j = f j := fun f x j hj => if_neg hj
    refine ⟨fun m => if m = i then v else V m, fun m => if m = i then tm else TM m, fun m => if m = i then h else HH m, fun m => if m = i then hs else HS m, fun m => if m = i then ms else MS m,
      if_pos rfl, if_pos rfl, if_pos rfl, if_pos rfl, ?_, ?_, ?_⟩
    · intro j x hj
      cases j with
      | zero =>
        simp at hj; subst hj
        have hne : ¬ (i + 1 = i) := by omega
        refine ⟨?_, ?_, ?_, ?_, ?_, ?_, ?_⟩ <;> simp only [Nat.add_zero, if_true, if_neg hne, q1, q2, q3, q4]
        · exact g1
        · exact g2
        · exact g3
        · exact g4
        · exact g5
        · exact g6
        · exact g7
      | succ j =>
        have hS := q5 j x (by simpa using hj)
        have h1 : ¬ (i + (j + 1) = i) := by omega
        have h2 : ¬ (i + (j + 1) + 1 = i) := by omega
        rw [show i + 1 + j = i + (j + 1) by omega] at hS
        refine ⟨?_, ?_, ?_, ?_, ?_, ?_, ?_⟩ <;> simp only [if_neg h1, if_neg h2]
        · exact hS.want
        · exact hS.not
        · exact hS.dst
        · exact hS.none
        · exact hS.eff
        · exact hS.pure
        · exact hS.read
    · have h1 : ¬ (i + (o :: rest).length = i) := by simp
      simp only [if_neg h1]
      rw [show i + (o :: rest).length = i + 1 + rest.length by simp; omega]; exact q6
    · have h1 : ¬ (i + (o :: rest).length = i) := by simp
      simp only [if_neg h1]
      rw [show i + (o :: rest).length = i + 1 + rest.length by simp; omega]; exact q7
end
end Go.Ev
