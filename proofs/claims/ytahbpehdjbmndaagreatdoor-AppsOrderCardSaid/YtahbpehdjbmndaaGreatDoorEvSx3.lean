/-
  The symbolic executor is the evaluator: regions, code, calls; no condition.
-/
import Derived.Test.YtahbpehdjbmndaaGreatDoorEvSx2
namespace Go.Ev
open Go.RowKit

theorem T.put_same {α : Type} {v : α} : ∀ (t : T α) (i : Nat), t.get i = some v → T.put v t i = t := by
  intro t
  induction t with
  | leaf => intro i h; cases h
  | node x l r ihl ihr =>
    intro i h
    cases i with
    | zero =>
      have h' : x = some v := h
      subst h'
      rfl
    | succ m =>
      have h' : Bool.rec (motive := fun _ => Option α) (r.get (Nat.div m 2)) (l.get (Nat.div m 2)) (Nat.beq (Nat.mod m 2) 0) = some v := h
      rw [boolRec_if] at h'
      simp only [T.put]
      by_cases hb : m % 2 = 0
      · rw [if_pos hb] at h' ⊢; rw [show T.put v l (m / 2) = l from ihl _ h']
      · rw [if_neg hb] at h' ⊢; rw [show T.put v r (m / 2) = r from ihr _ h']

section
variable {P : Program} {orc : Orc} {n : Nat}

theorem guard_ok {ops : List Oper} {dec : List Nat} {tm : T Value} {g : Option (Nat × Bool)} {run skip : List Nat → T Value → Prop} (hs : guardW ops dec tm g run skip) : ∃ dec', (wantedA ops tm g = true ∧ run dec' tm) ∨ (wantedA ops tm g = false ∧ skip dec' tm) := by
  unfold guardW at hs
  cases g with
  | none => exact ⟨dec, .inl ⟨rfl, hs⟩⟩
  | some jw =>
    simp only at hs
    show ∃ dec', (wantedG ops tm jw = true ∧ _) ∨ (wantedG ops tm jw = false ∧ _)
    unfold wantedG
    cases hd : dstOf ops jw.1 with
    | none => simp [hd] at hs
    | some t =>
      simp only [hd] at hs ⊢
      cases hm : memN jw.1 dec with
      | true =>
        simp only [hm, cond_true] at hs
        cases hg : tm.get t with
        | none => simp [hg] at hs
        | some v =>
          simp only [hg] at hs
          unfold guardL at hs
          cases v <;> simp only at hs
          rename_i b
          refine ⟨dec, ?_⟩
          simp only [isBool]
          cases b <;> cases hw : jw.2 <;> rw [hw] at hs <;> simp only [cond_true, cond_false] at hs <;> first | exact .inl ⟨rfl, hs⟩ | exact .inr ⟨rfl, hs⟩
      | false =>
      simp only [hm, cond_false] at hs
      cases hg : tm.get t with
      | none => simp [hg] at hs
      | some v =>
        simp only [hg] at hs
        unfold guardV at hs
        cases v <;> simp only at hs
        rename_i b
        have hc := CondW.elim hs
        simp only [T.setK_eq] at hc
        refine ⟨jw.1 :: dec, ?_⟩
        cases b with
        | true =>
          simp only [if_true] at hc
          rw [T.put_same tm t hg] at hc
          simp only [isBool]
          cases hw : jw.2 with
          | true => rw [hw] at hc; exact .inl ⟨rfl, hc⟩
          | false => rw [hw] at hc; exact .inr ⟨rfl, hc⟩
        | false =>
          simp only [Bool.false_eq_true, if_false] at hc
          rw [T.put_same tm t hg] at hc
          simp only [isBool]
          cases hw : jw.2 with
          | true => rw [hw] at hc; exact .inr ⟨rfl, hc⟩
          | false => rw [hw] at hc; exact .inl ⟨rfl, hc⟩
theorem putW_ok {tm : T Value} {dst : Option Tmp} {v : Value} {k : T Value → Prop} (hs : putW n tm dst v k) : ∃ tm', (∀ {β : Type} (q : T Value → Option β), putK n tm dst v q = q tm') ∧ k tm' := by
  unfold putW at hs
  cases dst with
  | none => exact ⟨tm, fun q => rfl, hs⟩
  | some d =>
    simp only at hs
    cases hb : Nat.blt d n with
    | false => simp [hb] at hs
    | true =>
      simp only [hb, T.setK_eq] at hs
      exact ⟨T.put v tm d, fun q => by simp only [putK, hb, T.setK_eq], hs⟩
theorem ops_ok (ops : List Oper) : ∀ (l : List Oper) {dec : List Nat} {tm : T Value} {h : AHeap} {k : T Value → AHeap → Prop}, sxOps P orc ops n l dec tm h k →
    ∃ f tm' h', (∀ g, f ≤ g → ∀ (q : T Value → AHeap → Option Res), evOps P (ev P orc g) ops n l tm h q = q tm' h') ∧ k tm' h'
  | [], dec, tm, h, k, hs => ⟨0, tm, h, fun _ _ _ => rfl, hs⟩
  | o :: l, dec, tm, h, k, hs => by
    have hs' : sxStep P orc ops n o dec tm h (fun dec' tm' h' => sxOps P orc ops n l dec' tm' h' k) := hs
    unfold sxStep at hs'
    obtain ⟨dec', hg⟩ := guard_ok hs'
    rcases hg with ⟨hw, hr⟩ | ⟨hw, hr⟩
    · obtain ⟨f1, v, h1, g1, g2⟩ := sxOper_ok hr
      obtain ⟨tm1, g3, g4⟩ := putW_ok g2
      obtain ⟨f2, tm2, h2, g5, g6⟩ := ops_ok ops l g4
      refine ⟨max f1 f2, tm2, h2, fun g hg q => ?_, g6⟩
      show stepOp P (ev P orc g) ops n o tm h (fun tm' h' => evOps P (ev P orc g) ops n l tm' h' q) = _
      simp only [stepOp, hw, contOp, g1 g (by omega), g3]
      exact g5 g (by omega) q
    · obtain ⟨tm1, g3, g4⟩ := putW_ok hr
      obtain ⟨f2, tm2, h2, g5, g6⟩ := ops_ok ops l g4
      refine ⟨f2, tm2, h2, fun g hg q => ?_, g6⟩
      show stepOp P (ev P orc g) ops n o tm h (fun tm' h' => evOps P (ev P orc g) ops n l tm' h' q) = _
      simp only [stepOp, hw, g3]
      exact g5 g hg q

/-! ### A region that draws its order -/
def MsOk (P : Program) (hs : List AHeap) (ms : List MetC) : Prop := ∀ m ∈ ms, ∃ H h', hs.reverse[m.cur]? = some H ∧ evOper m.m.o.op ihNone P m.m.o m.m.tm H = some (m.m.v, h')
theorem MsOk.cons {hs : List AHeap} {ms : List MetC} (h : MsOk P hs ms) (H : AHeap) : MsOk P (H :: hs) ms := by
  intro m hm
  obtain ⟨H', h', h1, h2⟩ := h m hm
  refine ⟨H', h', ?_, h2⟩
  have hlt := (List.getElem?_eq_some_iff.1 h1).1
  rw [List.reverse_cons, List.getElem?_append_left hlt]; exact h1
theorem hold1_ok {m : MetC} {rest : Prop} : ∀ {hs : List AHeap} {k : Nat}, holdW1 P m rest hs k → (∀ j H, hs[j]? = some H → k + j = m.cur → ∃ h', evOper m.m.o.op ihNone P m.m.o m.m.tm H = some (m.m.v, h')) → rest ∧ holdsIn P m.m hs k = true
  | [], k, hs, _ => ⟨hs, rfl⟩
  | H :: hs, k, h0, hc => by
    have h1 : Bool.rec (motive := fun _ => Prop) (holdW1 P m rest hs (k + 1)) (SameW (evOper m.m.o.op ihNone P m.m.o m.m.tm H) m.m.v (holdW1 P m rest hs (k + 1))) (Nat.ble m.m.lo k && Nat.ble k m.m.hi && !Nat.beq k m.cur) := h0
    have hc' : ∀ j H, hs[j]? = some H → k + 1 + j = m.cur → ∃ h', evOper m.m.o.op ihNone P m.m.o m.m.tm H = some (m.m.v, h') := fun j H' hj hjc => hc (j + 1) H' (by simpa using hj) (by omega)
    have hat : ∀ h', evOper m.m.o.op ihNone P m.m.o m.m.tm H = some (m.m.v, h') → holdsAt P m.m H = true := by
      intro h' he
      obtain ⟨⟨o, tm, v, lo, hi⟩, cur⟩ := m
      simp only at he
      simp only [holdsAt, he]
      exact sameOr_self _
    cases hb : (Nat.ble m.m.lo k && Nat.ble k m.m.hi && !Nat.beq k m.cur) with
    | true =>
      rw [hb] at h1
      obtain ⟨h', h2, h3⟩ := h1
      obtain ⟨h4, h5⟩ := hold1_ok h3 hc'
      refine ⟨h4, ?_⟩
      simp only [holdsIn, h5, hat h' h2, Bool.or_true, Bool.and_true]
    | false =>
      rw [hb] at h1
      obtain ⟨h4, h5⟩ := hold1_ok h1 hc'
      refine ⟨h4, ?_⟩
      simp only [holdsIn, h5, Bool.and_true, Bool.or_eq_true, Bool.not_eq_true']
      cases hin : (Nat.ble m.m.lo k && Nat.ble k m.m.hi) with
      | false => exact .inl rfl
      | true =>
        right
        rw [hin] at hb
        have hkc : k = m.cur := Nat.eq_of_beq_eq_true (by simpa using hb)
        obtain ⟨h', he⟩ := hc 0 H rfl (by omega)
        exact hat h' he
theorem hold_ok {hs : List AHeap} {rest : Prop} : ∀ {ms : List MetC}, holdW P hs rest ms → MsOk P hs.reverse ms → rest ∧ allHold P hs (ms.map (·.m)) = true
  | [], h0, _ => ⟨h0, rfl⟩
  | m :: ms, h0, hm => by
    have h1 : holdW1 P m (holdW P hs rest ms) hs 0 := h0
    obtain ⟨h2, h3⟩ := hold1_ok h1 (fun j H hj hjc => by
      obtain ⟨H', h', e1, e2⟩ := hm m List.mem_cons_self
      rw [List.reverse_reverse] at e1
      have : j = m.cur := by omega
      subst this
      rw [hj] at e1; cases e1
      exact ⟨h', e2⟩)
    obtain ⟨h4, h5⟩ := hold_ok h2 (fun m' hm' => hm m' (List.mem_cons_of_mem _ hm'))
    exact ⟨h4, by simp only [List.map_cons, allHold, h3, h5, Bool.and_self]⟩
theorem text_ok (ops : List Oper) (b : List Nat) {k : T Value → AHeap → Prop} : ∀ (l : List Oper) {i : Nat} {dec : List Nat} {tm : T Value} {h : AHeap} {hs : List AHeap} {ms : List MetC} {cur : Nat}, sxText P orc ops b n k l i dec tm h hs ms cur →
    hs.reverse[cur]? = some h → hs.length = cur + 1 → MsOk P hs ms →
    ∃ f tm' h', (∀ g, f ≤ g → ∀ (q : T Value → AHeap → Option Res), evText P (ev P orc g) ops b n q l i tm h hs (ms.map (·.m)) = q tm' h') ∧ k tm' h'
  | [], i, dec, tm, h, hs, ms, cur, h0, _, _, hm => by
    have h1 : holdW P hs.reverse (k tm h) ms := h0
    obtain ⟨h2, h3⟩ := hold_ok h1 (by rw [List.reverse_reverse]; exact hm)
    exact ⟨0, tm, h, fun g _ q => by simp only [evText, h3, cond_true], h2⟩
  | o :: l, i, dec, tm, h, hs, ms, cur, h0, hcur, hlen, hm => by
    have h1 : guardW ops dec tm o.guard
      (fun dec tm => sxOper o.op P orc o tm h fun v h' => putW n tm o.dst v fun tm' => noteW P ops b i o true tm v h' hs ms cur (sxText P orc ops b n k l (i + 1) dec tm' h'))
      (fun dec tm => putW n tm o.dst undef fun tm' => noteW P ops b i o false tm undef h hs ms cur (sxText P orc ops b n k l (i + 1) dec tm' h)) := h0
    have hgrow : ∀ H : AHeap, (H :: hs).reverse[cur + 1]? = some H ∧ (H :: hs).length = cur + 1 + 1 := by
      intro H
      refine ⟨?_, by simp [hlen]⟩
      rw [List.reverse_cons, List.getElem?_append_right (by simp [hlen])]
      simp [hlen]
    obtain ⟨dec', hg⟩ := guard_ok h1
    rcases hg with ⟨hw, hr⟩ | ⟨hw, hr⟩
    · obtain ⟨f1, v, h1', g1, g2⟩ := sxOper_ok hr
      obtain ⟨tm1, g3, g4⟩ := putW_ok g2
      have hread := g1 f1 (Nat.le_refl _)
      cases hk : kindOf P o with
      | eff =>
        simp only [noteW, hk] at g4
        obtain ⟨f2, tm2, h2, g5, g6⟩ := text_ok ops b l g4 (hgrow h1').1 (hgrow h1').2 (hm.cons h1')
        refine ⟨max f1 f2, tm2, h2, fun g hg q => ?_, g6⟩
        simp only [evText, stepText, hw, cond_true, contText, g1 g (by omega), g3, noteOp, hk]
        exact g5 g (by omega) q
      | pure =>
        simp only [noteW, hk] at g4
        have he := (pure_apart hk hread h ihNone).1
        subst he
        obtain ⟨f2, tm2, h2, g5, g6⟩ := text_ok ops b l g4 hcur hlen hm
        refine ⟨max f1 f2, tm2, h2, fun g hg q => ?_, g6⟩
        simp only [evText, stepText, hw, cond_true, contText, g1 g (by omega), g3, noteOp, hk]
        exact g5 g (by omega) q
      | read =>
        simp only [noteW, hk, cond_true, forceNat_eq] at g4
        obtain ⟨he, hnone⟩ := read_keeps hk hread ihNone
        subst he
        have hm' : MsOk P hs (⟨⟨o, tm, v, loOf P ops b i, hiOf P ops b i⟩, cur⟩ :: ms) := by
          intro m hmm
          rcases List.mem_cons.1 hmm with rfl | hmm
          · exact ⟨h1', h1', hcur, by rw [hnone]; exact hread⟩
          · exact hm m hmm
        obtain ⟨f2, tm2, h2, g5, g6⟩ := text_ok ops b l g4 hcur hlen hm'
        refine ⟨max f1 f2, tm2, h2, fun g hg q => ?_, g6⟩
        simp only [evText, stepText, hw, cond_true, contText, g1 g (by omega), g3, noteOp, hk]
        exact g5 g (by omega) q
    · obtain ⟨tm1, g3, g4⟩ := putW_ok hr
      cases hk : kindOf P o with
      | eff =>
        simp only [noteW, hk] at g4
        obtain ⟨f2, tm2, h2, g5, g6⟩ := text_ok ops b l g4 (hgrow h).1 (hgrow h).2 (hm.cons h)
        refine ⟨f2, tm2, h2, fun g hg q => ?_, g6⟩
        simp only [evText, stepText, hw, cond_false, g3, noteOp, hk]
        exact g5 g hg q
      | pure =>
        simp only [noteW, hk] at g4
        obtain ⟨f2, tm2, h2, g5, g6⟩ := text_ok ops b l g4 hcur hlen hm
        refine ⟨f2, tm2, h2, fun g hg q => ?_, g6⟩
        simp only [evText, stepText, hw, cond_false, g3, noteOp, hk]
        exact g5 g hg q
      | read =>
        simp only [noteW, hk, cond_false] at g4
        obtain ⟨f2, tm2, h2, g5, g6⟩ := text_ok ops b l g4 hcur hlen hm
        refine ⟨f2, tm2, h2, fun g hg q => ?_, g6⟩
        simp only [evText, stepText, hw, cond_false, g3, noteOp, hk]
        exact g5 g hg q
/-- reads that stand where they are need no second look -/
theorem evOps_text {ih : IH} {ops : List Oper} {b : List Nat} (hst : ∀ i o, ops[i]? = some o → kindOf P o = .read → loOf P ops b i = efs P ops i ∧ hiOf P ops b i = efs P ops i) {q : T Value → AHeap → Option Res} :
    ∀ (l : List Oper) (i : Nat) (tm : T Value) (h : AHeap) (hs : List AHeap) (ms : List Met) (r : Res), (∀ j, l[j]? = ops[i + j]?) → hs.length = efs P ops i + 1 → (∃ tl, hs = h :: tl) → (∀ m ∈ ms, holdsIn P m hs.reverse 0 = true ∧ m.hi < hs.length) →
      evOps P ih ops n l tm h q = some r → evText P ih ops b n q l i tm h hs ms = some r
  | [], i, tm, h, hs, ms, r, _, _, _, hm, he => by
    have hall : allHold P hs.reverse ms = true := by
      have : ∀ (ms : List Met), (∀ m ∈ ms, holdsIn P m hs.reverse 0 = true) → allHold P hs.reverse ms = true := by
        intro ms
        induction ms with
        | nil => intro _; rfl
        | cons m ms ih => intro h; simp only [allHold, h m List.mem_cons_self, ih (fun m' hm' => h m' (List.mem_cons_of_mem _ hm')), Bool.and_self]
      exact this ms fun m hm' => (hm m hm').1
    simp only [evText, hall, cond_true]
    exact he
  | o :: l, i, tm, h, hs, ms, r, hl, hlen, hhd, hm, he => by
    have ho : ops[i]? = some o := by simpa using (hl 0).symm
    have hl' : ∀ j, l[j]? = ops[i + 1 + j]? := fun j => by have := hl (j + 1); rw [show i + (j + 1) = i + 1 + j by omega] at this; simpa using this
    have hgrow : ∀ (m : Met) (H : AHeap), holdsIn P m hs.reverse 0 = true → m.hi < hs.length → holdsIn P m (H :: hs).reverse 0 = true := by
      intro m H h1 h2
      have : ∀ (l : List AHeap) (k : Nat), holdsIn P m l k = true → m.hi < k + l.length → holdsIn P m (l ++ [H]) k = true := by
        intro l
        induction l with
        | nil =>
          intro k _ hk
          simp only [List.nil_append, holdsIn, Bool.and_true, Bool.or_eq_true, Bool.not_eq_true']
          left
          have : Nat.ble k m.hi = false := by
            cases hb : Nat.ble k m.hi with
            | false => rfl
            | true => have := Nat.le_of_ble_eq_true hb; simp at hk; omega
          rw [this, Bool.and_false]
        | cons x l ih =>
          intro k h3 hk
          simp only [holdsIn, Bool.and_eq_true, List.cons_append] at h3 ⊢
          exact ⟨h3.1, ih (k + 1) h3.2 (by simp at hk; omega)⟩
      rw [List.reverse_cons]
      exact this _ 0 h1 (by simpa using h2)
    have he' : stepOp P ih ops n o tm h (fun tm' h' => evOps P ih ops n l tm' h' q) = some r := he
    unfold stepOp at he'
    simp only [evText, stepText]
    cases hw : wantedA ops tm o.guard with
    | false =>
      simp only [hw] at he'
      simp only [cond_false]
      refine putK_mono (fun tm1 r1 h1 => ?_) he'
      unfold noteOp
      cases hk : kindOf P o with
      | eff =>
        simp only
        refine evOps_text hst l (i + 1) tm1 h _ ms r1 hl' ?_ ⟨_, rfl⟩ (fun m hm' => ⟨hgrow m h (hm m hm').1 (hm m hm').2, by have := (hm m hm').2; simp; omega⟩) h1
        rw [efs_succ ho, if_pos (isEff_iff.2 hk)]; simp [hlen]
      | pure =>
        simp only
        refine evOps_text hst l (i + 1) tm1 h _ ms r1 hl' ?_ hhd hm h1
        rw [efs_succ ho, if_neg (by rw [isEff_iff, hk]; simp)]; simp [hlen]
      | read =>
        simp only [cond_false]
        refine evOps_text hst l (i + 1) tm1 h _ ms r1 hl' ?_ hhd hm h1
        rw [efs_succ ho, if_neg (by rw [isEff_iff, hk]; simp)]; simp [hlen]
    | true =>
      simp only [hw] at he'
      simp only [cond_true, contText]
      unfold contOp at he'
      cases hev : evOper o.op ih P o tm h with
      | none => simp [hev] at he'
      | some vh =>
        obtain ⟨v, h'⟩ := vh
        simp only [hev] at he'
        simp only
        refine putK_mono (fun tm1 r1 h1 => ?_) he'
        unfold noteOp
        cases hk : kindOf P o with
        | eff =>
          simp only
          refine evOps_text hst l (i + 1) tm1 h' _ ms r1 hl' ?_ ⟨_, rfl⟩ (fun m hm' => ⟨hgrow m h' (hm m hm').1 (hm m hm').2, by have := (hm m hm').2; simp; omega⟩) h1
          rw [efs_succ ho, if_pos (isEff_iff.2 hk)]; simp [hlen]
        | pure =>
          simp only
          have he0 := (pure_apart hk hev h ihNone).1
          subst he0
          refine evOps_text hst l (i + 1) tm1 h' _ ms r1 hl' ?_ hhd hm h1
          rw [efs_succ ho, if_neg (by rw [isEff_iff, hk]; simp)]; simp [hlen]
        | read =>
          simp only [cond_true]
          obtain ⟨he0, hnone⟩ := read_keeps hk hev ihNone
          subst he0
          obtain ⟨s1, s2⟩ := hst i o ho hk
          refine evOps_text hst l (i + 1) tm1 h' _ _ r1 hl' ?_ hhd ?_ h1
          · rw [efs_succ ho, if_neg (by rw [isEff_iff, hk]; simp)]; simp [hlen]
          · intro m hm'
            rcases List.mem_cons.1 hm' with rfl | hm'
            · refine ⟨?_, by show hiOf P ops b i < hs.length; rw [s2, hlen]; omega⟩
              have hat : holdsAt P ⟨o, tm, v, loOf P ops b i, hiOf P ops b i⟩ h' = true := by
                simp only [holdsAt, hnone, hev]
                exact sameOr_self v
              have : ∀ (l : List AHeap) (k : Nat), (∀ j H, l[j]? = some H → k + j = efs P ops i → H = h') → holdsIn P ⟨o, tm, v, loOf P ops b i, hiOf P ops b i⟩ l k = true := by
                intro l
                induction l with
                | nil => intro k _; rfl
                | cons x l ih =>
                  intro k hx
                  simp only [holdsIn, ih (k + 1) (fun j H hj hk' => hx (j + 1) H (by simpa using hj) (by omega)), Bool.and_true, Bool.or_eq_true, Bool.not_eq_true']
                  by_cases hkk : k = efs P ops i
                  · right; rw [hx 0 x rfl (by omega)]; exact hat
                  · left
                    cases hb : (Nat.ble (loOf P ops b i) k && Nat.ble k (hiOf P ops b i)) with
                    | false => rfl
                    | true =>
                      simp only [Bool.and_eq_true] at hb
                      have a1 := Nat.le_of_ble_eq_true hb.1
                      have a2 := Nat.le_of_ble_eq_true hb.2
                      omega
              refine this _ 0 fun j H hj hk' => ?_
              obtain ⟨tl, rfl⟩ := hhd
              have hj' : j = tl.length := by simp at hlen; omega
              rw [List.reverse_cons, hj', List.getElem?_append_right (by simp)] at hj
              simpa using hj.symm
            · exact hm m hm'
theorem stable_ok {ops : List Oper} (hst : stable P ops = true) : ∀ i o, ops[i]? = some o → kindOf P o = .read → loOf P ops (befs ops []) i = efs P ops i ∧ hiOf P ops (befs ops []) i = efs P ops i := by
  intro i o ho hk
  have h1 := forallIdx_iff.1 hst i o ho
  simp only [Nat.zero_add, hk, Bool.and_eq_true] at h1
  have h2 : countEff P (fun e => Nat.blt e i) ops 0 = efs P ops i := by
    unfold efs
    congr 1
    funext e
    rw [Bool.eq_iff_iff]
    simp [Nat.blt_eq]
  rw [h2] at h1
  exact ⟨Nat.eq_of_beq_eq_true h1.1, Nat.eq_of_beq_eq_true h1.2⟩
theorem draw_ok {ops : List Oper} {tm : T Value} {h : AHeap} {k : T Value → AHeap → Prop} (hs : DrawW P orc ops n tm h k) :
    ∃ f tm' h', (∀ g, f ≤ g → ∀ (q : T Value → AHeap → Option Res) r, q tm' h' = some r → evDraw P (ev P orc g) ops n tm h q = some r) ∧ k tm' h' := by
  cases hs with
  | full b hd hb hs =>
    subst hb
    obtain ⟨f, tm', h', g1, g2⟩ := text_ok ops (befs ops []) ops hs rfl rfl (fun m hm => by simp at hm)
    refine ⟨f, tm', h', fun g hg q r hr => ?_, g2⟩
    simp only [evDraw, hd, cond_true]
    rw [← hr]
    exact g1 g hg q
  | easy hd he hs =>
    obtain ⟨f, tm', h', g1, g2⟩ := ops_ok _ _ hs
    refine ⟨f, tm', h', fun g hg q r hr => ?_, g2⟩
    simp only [evDraw, hd, cond_true]
    have h0 : efs P ops 0 = 0 := by
      have h1 : ∀ (l : List Oper) (i : Nat), countEff P (fun e => decide (e < 0)) l i = 0 := by
        intro l
        induction l with
        | nil => intro i; rfl
        | cons o l ih => intro i; simp only [countEff, ih]; cases isEff P o <;> simp
      exact h1 ops 0
    refine evOps_text (stable_ok he) ops 0 tm h [h] [] r (fun j => by simp) (by rw [h0]; rfl) ⟨[], rfl⟩ (fun m hm => by simp at hm) ?_
    rw [g1 g hg q]; exact hr

/-! ### Code -/
theorem lim_code {f : Nat} {c : Code} {ro : Option Nat} {tm : T Value} {mk : List Nat} {h : AHeap} {r : Res} (he : evCode c (ev P orc f) P n ro tm mk h = some r) : Lim P orc (.code c n ro tm mk h) r := ⟨f + 1, he⟩
theorem lim_two {t1 t2 : Task} {r1 r2 : Res} (h1 : Lim P orc t1 r1) (h2 : Lim P orc t2 r2) : ∃ f, ev P orc f t1 = some r1 ∧ ev P orc f t2 = some r2 := by
  obtain ⟨f, h1⟩ := h1
  obtain ⟨g, h2⟩ := h2
  exact ⟨max f g, ev_mono (Nat.le_max_left f g) _ _ h1, ev_mono (Nat.le_max_right f g) _ _ h2⟩
theorem sx_ok : ∀ (c : Code) {n : Nat} {ro : Option Nat} {tm : T Value} {mk : List Nat} {h : AHeap} {K : CodeK}, sx c P orc n ro tm mk h K →
    ∃ e tm' mk' h', Lim P orc (.code c n ro tm mk h) (.code e tm' mk' h') ∧ K e tm' mk' h' := by
  intro c
  induction c with
  | skip => intro n ro tm mk h K hs; exact ⟨_, _, _, _, lim_code (f := 0) rfl, hs⟩
  | region id ops draw =>
    intro n ro tm mk h K hs
    cases draw with
    | true =>
      have hs' : DrawW P orc ops.toList n tm h (fun tm' h' => K .normal tm' mk h') := hs
      obtain ⟨f, tm', h', g1, g2⟩ := draw_ok hs'
      refine ⟨.normal, tm', mk, h', lim_code (f := f) ?_, g2⟩
      exact g1 f (Nat.le_refl _) _ _ rfl
    | false =>
      have hs' : sxOps P orc ops.toList n ops.toList [] tm h (fun tm' h' => K .normal tm' mk h') := hs
      obtain ⟨f, tm', h', g1, g2⟩ := ops_ok _ _ hs'
      refine ⟨.normal, tm', mk, h', lim_code (f := f) ?_, g2⟩
      exact g1 f (Nat.le_refl _) _
  | seq a b iha ihb =>
    intro n ro tm mk h K hs
    have hs' : sx a P orc n ro tm mk h (seqK (fun tm' mk' h' => sx b P orc n ro tm' mk' h' K) K) := hs
    obtain ⟨e, tm1, mk1, h1, g1, g2⟩ := iha hs'
    cases e with
    | normal =>
      obtain ⟨e2, tm2, mk2, h2, g3, g4⟩ := ihb g2
      obtain ⟨f, g5, g6⟩ := lim_two g1 g3
      refine ⟨e2, tm2, mk2, h2, lim_code (f := f) ?_, g4⟩
      show thenCode (ev P orc f (.code a n ro tm mk h)) (fun tm' mk' h' => ev P orc f (.code b n ro tm' mk' h')) = _
      rw [g5]; exact g6
    | exit id => obtain ⟨f, g1⟩ := g1; exact ⟨_, _, _, _, lim_code (f := f) (show thenCode (ev P orc f (.code a n ro tm mk h)) _ = _ by rw [g1]; rfl), g2⟩
    | goto id => obtain ⟨f, g1⟩ := g1; exact ⟨_, _, _, _, lim_code (f := f) (show thenCode (ev P orc f (.code a n ro tm mk h)) _ = _ by rw [g1]; rfl), g2⟩
    | ret => obtain ⟨f, g1⟩ := g1; exact ⟨_, _, _, _, lim_code (f := f) (show thenCode (ev P orc f (.code a n ro tm mk h)) _ = _ by rw [g1]; rfl), g2⟩
  | cond x a b iha ihb =>
    intro n ro tm mk h K hs
    have hs' : sx1 P x tm (fun v => condV v (sx a P orc n ro tm mk h K) (sx b P orc n ro tm mk h K)) := hs
    obtain ⟨v, h1, h2⟩ := sx1_some hs'
    unfold condV at h2
    cases v <;> simp only at h2
    rename_i t
    have hc := CondW.elim h2
    cases t with
    | true =>
      simp only [if_true] at hc
      obtain ⟨e, tm1, mk1, h1', ⟨f, g1⟩, g2⟩ := iha hc
      refine ⟨e, tm1, mk1, h1', lim_code (f := f) ?_, g2⟩
      show cCond x a b (ev P orc f) P n ro tm mk h = _
      simp only [cCond, h1, g1]
    | false =>
      simp only [Bool.false_eq_true, if_false] at hc
      obtain ⟨e, tm1, mk1, h1', ⟨f, g1⟩, g2⟩ := ihb hc
      refine ⟨e, tm1, mk1, h1', lim_code (f := f) ?_, g2⟩
      show cCond x a b (ev P orc f) P n ro tm mk h = _
      simp only [cCond, h1, g1]
  | block id b ihb =>
    intro n ro tm mk h K hs
    have hs' : sx b P orc n ro tm mk h (blockK id K) := hs
    obtain ⟨e, tm1, mk1, h1, ⟨f, g1⟩, g2⟩ := ihb hs'
    have hrun : ∀ {r}, blockEnd id (some (.code e tm1 mk1 h1)) = some r → Lim P orc (.code (.block id b) n ro tm mk h) r := fun {r} hr => lim_code (f := f) (show blockEnd id (ev P orc f (.code b n ro tm mk h)) = _ by rw [g1]; exact hr)
    cases e with
    | normal => exact ⟨_, _, _, _, hrun rfl, g2⟩
    | goto l => exact ⟨_, _, _, _, hrun rfl, g2⟩
    | ret => exact ⟨_, _, _, _, hrun rfl, g2⟩
    | exit id' =>
      have g2' : bif Nat.beq id' id then K .normal tm1 mk1 h1 else K (.exit id') tm1 mk1 h1 := g2
      cases hb : Nat.beq id' id with
      | true => rw [hb] at g2'; exact ⟨_, _, _, _, hrun (by simp only [blockEnd, hb, cond_true]), g2'⟩
      | false => rw [hb] at g2'; exact ⟨_, _, _, _, hrun (by simp only [blockEnd, hb, cond_false]), g2'⟩
  | loop b _ =>
    intro n ro tm mk h K hs
    obtain ⟨e, tm', mk', h', g1, g2⟩ := (show LoopW P orc b n ro tm mk h K from hs)
    exact ⟨e, tm', mk', h', g1, g2⟩
  | rangeFunc g ps a b _ _ =>
    intro n ro tm mk h K hs
    obtain ⟨e, tm', mk', h', g1, g2⟩ := (show RangeW P orc g ps a b n ro tm mk h K from hs)
    exact ⟨e, tm', mk', h', g1, g2⟩
  | exit id => intro n ro tm mk h K hs; exact ⟨_, _, _, _, lim_code (f := 0) rfl, hs⟩
  | scope b _ => intro n ro tm mk h K hs; exact (show False from hs).elim
  | label l => intro n ro tm mk h K hs; exact ⟨_, _, _, _, lim_code (f := 0) rfl, hs⟩
  | goto l => intro n ro tm mk h K hs; exact ⟨_, _, _, _, lim_code (f := 0) rfl, hs⟩
  | ret => intro n ro tm mk h K hs; exact ⟨_, _, _, _, lim_code (f := 0) rfl, hs⟩
  | refuse s => intro n ro tm mk h K hs; exact (show False from hs).elim

/-- **A LOOP**: what holds at its head, by a number that each round lowers. -/
theorem LoopW.rule {b : Code} {ro : Option Nat} {K : CodeK} (I : Nat → T Value → List Nat → AHeap → Prop) : ∀ (m : Nat) {tm : T Value} {mk : List Nat} {h : AHeap}, I m tm mk h →
    (∀ m tm mk h, I m tm mk h → sx b P orc n ro tm mk h (seqK (fun tm' mk' h' => ∃ m', m' < m ∧ I m' tm' mk' h') K)) → LoopW P orc b n ro tm mk h K := by
  intro m
  induction m using Nat.strongRecOn with
  | _ m ih =>
    intro tm mk h hI hstep
    obtain ⟨e, tm1, mk1, h1, g1, g2⟩ := sx_ok b (hstep m tm mk h hI)
    have hrun : ∀ {f r}, ev P orc f (.code b n ro tm mk h) = some (.code e tm1 mk1 h1) → thenCode (some (.code e tm1 mk1 h1)) (fun tm' mk' h' => ev P orc f (.code (.loop b) n ro tm' mk' h')) = some r → Lim P orc (.code (.loop b) n ro tm mk h) r := fun {f r} hf hr =>
      lim_code (f := f) (show thenCode (ev P orc f (.code b n ro tm mk h)) _ = _ by rw [hf]; exact hr)
    cases e with
    | normal =>
      obtain ⟨m', hlt, hI'⟩ := g2
      obtain ⟨e2, tm2, mk2, h2, g3, g4⟩ := ih m' hlt hI' hstep
      obtain ⟨f, g5, g6⟩ := lim_two g1 g3
      exact ⟨e2, tm2, mk2, h2, hrun g5 g6, g4⟩
    | exit id => obtain ⟨f, g1⟩ := g1; exact ⟨_, _, _, _, hrun g1 rfl, g2⟩
    | goto id => obtain ⟨f, g1⟩ := g1; exact ⟨_, _, _, _, hrun g1 rfl, g2⟩
    | ret => obtain ⟨f, g1⟩ := g1; exact ⟨_, _, _, _, hrun g1 rfl, g2⟩

/-! ### A call -/
theorem init_raw : ∀ (l : List Value) {i : Nat} {tm : T Value} {k : T Value → Prop}, initW l i tm k → ∃ tm', (∀ {β : Type} (q : T Value → Option β), initK l i tm q = q tm') ∧ k tm'
  | [], i, tm, k, hs => ⟨tm, fun _ => rfl, hs⟩
  | v :: l, i, tm, k, hs => by
    have hs' : T.setK v tm i (fun tm' => initW l (i + 1) tm' k) := hs
    rw [T.setK_eq] at hs'
    obtain ⟨tm', h1, h2⟩ := init_raw l hs'
    exact ⟨tm', fun q => by simp only [initK, T.setK_eq]; exact h1 q, h2⟩
theorem rets_ok {tm : T Value} {h : AHeap} : ∀ {rs : List ResultVar} {k : List Value → Prop}, retsW P tm h rs k → ∃ vs, resultsA P tm h rs = some vs ∧ k vs
  | [], k, hs => ⟨[], rfl, hs⟩
  | x :: rs, k, hs => by
    cases x with
    | tmp t =>
      have hs' : Option.rec (motive := fun _ => Prop) (retsW P tm h rs fun vs => k (undef :: vs)) (fun v => retsW P tm h rs fun vs => k (v :: vs)) (tm.get t) := hs
      cases hg : tm.get t with
      | none =>
        rw [hg] at hs'
        obtain ⟨vs, h1, h2⟩ := rets_ok hs'
        exact ⟨undef :: vs, by simp [resultsA, resultA, h1, getT, hg], h2⟩
      | some v =>
        rw [hg] at hs'
        obtain ⟨vs, h1, h2⟩ := rets_ok hs'
        exact ⟨v :: vs, by simp [resultsA, resultA, h1, getT, hg], h2⟩
    | cell a t =>
      have hs' : Option.rec (motive := fun _ => Prop) False (fun p => ptrW p fun i o => ldShape h (shapeOf P t) i o fun v => retsW P tm h rs fun vs => k (v :: vs)) (tm.get a) := hs
      cases hg : tm.get a with
      | none => rw [hg] at hs'; exact hs'.elim
      | some p =>
        rw [hg] at hs'
        obtain ⟨i, o, rfl, h1⟩ := ptrW_some hs'
        obtain ⟨v, h2, h3⟩ := shape_ok h1
        obtain ⟨vs, h4, h5⟩ := rets_ok h3
        exact ⟨v :: vs, by simp [resultsA, resultA, getT, hg, loadA, atAddr, h2, h4], h5⟩
theorem shutW_ok {mk : List Nat} {h : AHeap} {k : AHeap → Prop} (hs : shutW mk h k) : ∃ h', (∀ q : AHeap → Option Res, shutAll mk h q = q h') ∧ k h' := by
  unfold shutW at hs
  cases mk with
  | nil => exact ⟨h, fun q => rfl, hs⟩
  | cons m ms => obtain ⟨h', h1, h2⟩ := hs; exact ⟨h', h1, h2⟩
/-- **A FUNCTION's CALL OUT OF ITS BODY.** -/
theorem enterW {f : FuncId} {args : List Value} {h : AHeap} {K : OpK} (ho : orc f args h = none) (hs : callW P orc f args h K) : CallW P orc f args h K := by
  unfold callW at hs
  cases hf : P.funcs[f]? with
  | none => simp [hf] at hs
  | some fn =>
    simp only [hf, fnW] at hs
    cases hb : fn.body with
    | none => simp [hb] at hs
    | some c =>
      simp only [hb] at hs
      cases hl : Nat.ble args.length fn.ntmps with
      | false => simp [hl] at hs
      | true =>
        simp only [hl, cond_true] at hs
        obtain ⟨tm0, g1, g2⟩ := init_raw _ hs
        obtain ⟨e, tm1, mk1, h1, ⟨fu, g3⟩, g4⟩ := sx_ok c g2
        unfold leaveW at g4
        cases hil : isLeave e with
        | false => simp [hil] at g4
        | true =>
          simp only [hil, cond_true] at g4
          obtain ⟨h2, g5, g6⟩ := shutW_ok g4
          obtain ⟨vs, g7, g8⟩ := rets_ok g6
          refine ⟨oneOrAll vs, h2, ⟨fu + 1, ?_⟩, g8⟩
          show evCall P orc (ev P orc fu) f args h = _
          simp only [evCall, ho, evFn, hf, enter, hb, hl, cond_true, g1, g3, leave, hil, g5, retVal, g7]
theorem CallW.mono {f : FuncId} {args : List Value} {h : AHeap} {K K' : OpK} (hc : CallW P orc f args h K) (hk : ∀ v h', K v h' → K' v h') : CallW P orc f args h K' := by
  obtain ⟨v, h', h1, h2⟩ := hc
  exact ⟨v, h', h1, hk _ _ h2⟩
end
end Go.Ev
