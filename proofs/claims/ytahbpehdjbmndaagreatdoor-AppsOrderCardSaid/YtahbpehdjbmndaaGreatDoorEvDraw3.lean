/-
  The evaluator is sound: a region that draws its order: in every order it comes to the same; no condition.
-/
import Derived.Test.YtahbpehdjbmndaaGreatDoorEvDraw2
namespace Go.Ev
open Go.RowKit

section
variable {P : Program} {w0 : World} {ih : IH} {ops : Array Oper} {n : Nat} {tm : T Value} {h : AHeap} {V : Nat → Value} {TM : Nat → T Value} {HH : Nat → AHeap} {HS : Nat → List AHeap} {MS : Nat → List Met} {ρ : Ren}

def inD (listed : Array Bool) (i : Nat) : Prop := listed.getD i false = true
def cntD (P : Program) (ops : Array Oper) (listed : Array Bool) : Nat := countEff P (fun i => listed.getD i false) ops.toList 0
structure Inv (P : Program) (w0 : World) (ops : Array Oper) (n : Nat) (tm : T Value) (V : Nat → Value) (hs : List AHeap) (ρ : Ren) (df : List Deferred) (listed : Array Bool) (A : Act) (w : World) : Prop where
  ex : ∃ σ tmc H, ρ.le σ ∧ Rep P w0 σ H w ∧ hs[cntD P ops listed]? = some H ∧ TRel σ n tmc A.tmps ∧ TmOf ops.toList V tm (inD listed) tmc
  df : A.defers = df
  size : listed.size = ops.size
  closed : Closed ops.toList (inD listed)

theorem getD_set {listed : Array Bool} {j : Nat} (hj : j < listed.size) (i : Nat) : (listed.setIfInBounds j true).getD i false = if i = j then true else listed.getD i false := by
  simp only [Array.getD_eq_getD_getElem?]
  by_cases e : i = j
  · subst e; simp [hj]
  · rw [Array.getElem?_setIfInBounds_ne (by omega), if_neg e]
theorem inD_set {listed : Array Bool} {j : Nat} (hj : j < listed.size) (i : Nat) : inD (listed.setIfInBounds j true) i ↔ inD listed i ∨ i = j := by
  unfold inD
  rw [getD_set hj]
  by_cases e : i = j <;> simp [e]
theorem ready_mem {md : Region.Mode} {listed : Array Bool} {j : Nat} (hm : j ∈ Region.ready md ops listed) (hsz : listed.size = ops.size) :
    j < ops.size ∧ ¬ inD listed j ∧ ∃ o, ops[j]? = some o ∧ ∀ e ∈ o.after.toList, bindsAny e = true → inD listed e.on := by
  simp only [Region.ready, List.mem_filter, List.mem_range, Bool.and_eq_true, Bool.not_eq_true'] at hm
  obtain ⟨h1, h2, h3⟩ := hm
  refine ⟨h1, ?_, ?_⟩
  · unfold inD
    rw [Array.getD_eq_getD_getElem?] at h2 ⊢
    rw [Array.getElem?_eq_getElem (by omega)] at h2 ⊢
    simp at h2 ⊢; exact h2
  · have ho : ops[j]? = some ops[j] := Array.getElem?_eq_getElem h1
    refine ⟨ops[j], ho, fun e he hb => ?_⟩
    rw [ho] at h3
    simp only [Option.map_some, Option.getD_some] at h3
    rw [← Array.all_toList, List.all_eq_true] at h3
    have := h3 e he
    simp only [Bool.or_eq_true, Bool.not_eq_true'] at this
    rcases this with h4 | h4
    · exfalso
      unfold bindsAny at hb
      unfold Region.binds at h4
      cases hg : e.ground <;> simp [hg] at hb h4
    · exact h4
theorem ready_closed {listed : Array Bool} {j : Nat} {o : Oper} (ho : ops[j]? = some o) (hr : ∀ e ∈ o.after.toList, bindsAny e = true → inD listed e.on) (hcl : Closed ops.toList (inD listed)) :
    ∀ i, ((befs ops.toList []).getD j 0).testBit i = true → inD listed i := by
  intro i hi
  obtain ⟨o', ho', e, he, hb, hi'⟩ := bef_spec hi
  rw [Array.getElem?_toList, ho] at ho'
  cases ho'
  have h1 := hr e he hb
  rcases hi' with rfl | hi'
  · exact h1
  · exact hcl _ _ h1 hi'
theorem fits_ready {md : Region.Mode} {listed : Array Bool} (hsz : listed.size = ops.size) : ∀ (l seen : List Nat), fitsMode md ops.toList seen l = true → (∀ i ∈ seen, inD listed i) → Region.ready md ops listed = [] → ∀ i, i < ops.size → inD listed i
  | [], seen, hf, hs, hr, i, hi => by
    simp only [fitsMode] at hf
    have := forallIdx_iff.1 hf i ops[i] (by simp [hi])
    rw [Nat.zero_add, memN_iff] at this
    exact hs i this
  | j :: l, seen, hf, hs, hr, i, hi => by
    simp only [fitsMode, Bool.and_eq_true] at hf
    obtain ⟨h1, h2⟩ := hf
    by_cases hj : inD listed j
    · exact fits_ready hsz l (j :: seen) h2 (fun k hk => by
        rcases List.mem_cons.1 hk with rfl | hk
        · exact hj
        · exact hs k hk) hr i hi
    · exfalso
      rw [nthL_eq, Array.getElem?_toList] at h1
      cases ho : ops[j]? with
      | none => simp [ho] at h1
      | some o =>
        simp only [ho] at h1
        have hlt : j < ops.size := (Array.getElem?_eq_some_iff.1 ho).1
        have : j ∈ Region.ready md ops listed := by
          simp only [Region.ready, List.mem_filter, List.mem_range, Bool.and_eq_true, Bool.not_eq_true']
          refine ⟨hlt, ?_, ?_⟩
          · unfold inD at hj
            rw [Array.getD_eq_getD_getElem?, Array.getElem?_eq_getElem (by omega)] at hj ⊢
            simp at hj ⊢; exact hj
          · rw [ho]
            simp only [Option.map_some, Option.getD_some]
            rw [List.all_eq_true] at h1
            rw [← Array.all_toList, List.all_eq_true]
            intro e he
            have := h1 e he
            simp only [Bool.or_eq_true, memN_iff] at this ⊢
            rcases this with h3 | h3
            · exact .inl h3
            · exact .inr (hs _ h3)
        rw [hr] at this
        cases this

theorem isEff_count {listed : Array Bool} {j : Nat} {o : Oper} (hord : DrawOrd P ops.toList) (hsz : listed.size = ops.size) (ho : ops[j]? = some o) (hj : ¬ inD listed j) (hcl : Closed ops.toList (inD listed))
    (hready : ∀ i, ((befs ops.toList []).getD j 0).testBit i = true → inD listed i) :
    cntD P ops (listed.setIfInBounds j true) = cntD P ops listed + (if isEff P o = true then 1 else 0) ∧ (isEff P o = true → cntD P ops listed = efs P ops.toList j) ∧
    loOf P ops.toList (befs ops.toList []) j ≤ cntD P ops listed ∧ cntD P ops listed ≤ hiOf P ops.toList (befs ops.toList []) j := by
  have hlt : j < listed.size := by rw [hsz]; exact (Array.getElem?_eq_some_iff.1 ho).1
  have hj' : listed.getD j false = false := by unfold inD at hj; simpa using hj
  have ho' : ops.toList[j]? = some o := by simpa using ho
  refine ⟨?_, ?_, ?_, ?_⟩
  · unfold cntD
    refine countEff_insert ops.toList 0 j o ho' ?_ ?_ ?_
    · simpa using hj'
    · simp only [Nat.zero_add]; rw [getD_set hlt]; simp
    · intro k hk
      simp only [Nat.zero_add] at hk
      rw [getD_set hlt, if_neg hk]
  · intro he
    unfold cntD efs
    refine countEff_congr ops.toList 0 ?_
    intro k o' hk hke
    simp only [Nat.zero_add]
    by_cases hkj : k = j
    · subst hkj; rw [hj']; simp
    · have h1 := hord.effs j o k o' ho' hk hkj
      have h2 := hord.effs k o' j o hk ho' (by omega)
      simp only [effOrdered, he, hke, Bool.not_true, Bool.false_or, Bool.or_eq_true, Bool.not_eq_true'] at h1 h2
      by_cases hlt' : k < j
      · rw [decide_eq_true hlt']
        rcases h1 with h1 | h1
        · exfalso
          have : Nat.blt k j = true := Nat.ble_eq_true_of_le hlt'
          rw [this] at h1; cases h1
        · exact hready k h1
      · rw [decide_eq_false hlt']
        have hgt : j < k := by omega
        rcases h2 with h2 | h2
        · exfalso
          have : Nat.blt j k = true := Nat.ble_eq_true_of_le hgt
          rw [this] at h2; cases h2
        · cases hkd : listed.getD k false with
          | false => rfl
          | true => exact absurd (hcl k j hkd h2) hj
  · unfold loOf cntD
    exact countEff_mono ops.toList 0 fun k o' hk _ hb => hready _ (by simpa using hb)
  · unfold hiOf cntD
    refine countEff_mono ops.toList 0 fun k o' hk _ hb => ?_
    simp only [Nat.zero_add] at hb ⊢
    cases hbit : ((befs ops.toList []).getD k 0).testBit j with
    | false => rfl
    | true => exact absurd (hcl k j hb hbit) hj

/-- One operation, taken in whatever order. -/
theorem inv_step (hs : Sound P w0 ih) (hord : DrawOrd P ops.toList) (ht : Txt P ih ops.toList n tm h V TM HH HS MS) {df : List Deferred} {listed : Array Bool} {A : Act} {w : World} {md : Region.Mode} {ro : Option Nat} {m : Nat} {Q : Exit → Act → World → Prop}
    (hI : Inv P w0 ops n tm V (HS ops.toList.length).reverse ρ df listed A w) {j : Nat} (hj : j ∈ Region.ready md ops listed) {K : Act → World → Prop}
    (hK : ∀ A' w', Inv P w0 ops n tm V (HS ops.toList.length).reverse ρ df (listed.setIfInBounds j true) A' w' → K A' w') : wpOpIn (FF ro) m P ops Q j K A w := by
  obtain ⟨hlt, hnd, o, ho, hedges⟩ := ready_mem hj hI.size
  have hready := ready_closed ho hedges hI.closed
  have hlt' : j < listed.size := by rw [hI.size]; exact hlt
  have ho' : ops.toList[j]? = some o := by simpa using ho
  obtain ⟨σ, tmc, H, hle, hr, hH, htr, htm⟩ := hI.ex
  obtain ⟨c1, c2, c3, c4⟩ := isEff_count hord hI.size ho hnd hI.closed hready
  obtain ⟨l1, l2⟩ := looks_vals (P := P) (ops := ops.toList) (o := o) (tm1 := tmc) (tm2 := TM j) (fun t hm => hord.looks ht htm hI.closed ho' hnd hready hm)
  have hstep := ht.step j o ho'
  have hjle : j ≤ ops.toList.length := by simp; omega
  have hjle1 : j + 1 ≤ ops.toList.length := by simp; omega
  have hclosed : Closed ops.toList (inD (listed.setIfInBounds j true)) := by
    intro a b ha hb
    rw [inD_set hlt'] at ha ⊢
    rcases ha with ha | rfl
    · exact .inl (hI.closed a b ha hb)
    · exact .inl (hready b hb)
  -- the heap behind the operation
  have hnext : ∀ H', (isEff P o = true → H' = HH (j + 1)) → (isEff P o = false → H' = H) → (HS ops.toList.length).reverse[cntD P ops (listed.setIfInBounds j true)]? = some H' := by
    intro H' h1 h2
    rw [c1]
    cases he : isEff P o with
    | true =>
      rw [if_pos rfl, c2 he, h1 he]
      have := ht.heaps hjle1
      rw [efs_succ ho', if_pos he] at this
      exact this
    | false =>
      rw [h2 he]
      simpa using hH
  have hHeq : isEff P o = true → H = HH j := by
    intro he
    have := ht.heaps hjle
    rw [c2 he] at hH
    rw [hH] at this
    exact Option.some.inj this
  have done : ∀ τ v' w' H', σ.le τ → ren τ (V j) = some v' → Rep P w0 τ H' w' → (isEff P o = true → H' = HH (j + 1)) → (isEff P o = false → H' = H) → K (A.put o.dst v') w' := by
    intro τ v' w' H' h1 h2 h3 h4 h5
    refine hK _ _ ⟨?_, by rw [Act.put_defers]; exact hI.df, by simpa using hI.size, hclosed⟩
    cases hd : o.dst with
    | none =>
      refine ⟨τ, tmc, H', Ren.le_trans hle h1, h3, hnext H' h4 h5, (htr.mono h1), ?_⟩
      exact htm.put hord ho' (fun d hdd => by rw [hd] at hdd; cases hdd) (fun _ => rfl) (inD_set hlt')
    | some d =>
      refine ⟨τ, T.put (V j) tmc d, H', Ren.le_trans hle h1, h3, hnext H' h4 h5, (htr.mono h1).put (hstep.dst d hd).1 h2, ?_⟩
      exact htm.put hord ho' (fun d' hdd => by rw [hd] at hdd; cases hdd; rfl) (fun hn => by rw [hd] at hn; cases hn) (inD_set hlt')
  unfold wpOpIn
  simp only [ho]
  rw [← wanted_eq htr ops o, l2]
  cases hw : wantedA ops.toList (TM j) o.guard with
  | false =>
    simp only [Bool.false_eq_true, if_false]
    refine ⟨fun _ _ => trivial, ?_⟩
    obtain ⟨v1, v2⟩ := hstep.not hw
    refine done σ undef w H σ.le_refl (by rw [v1]; exact ren_undef) hr (fun he => ?_) (fun _ => rfl)
    rw [v2]; exact hHeq he
  | true =>
    simp only [if_true]
    have hev := hstep.want hw
    have hnow : ∃ H', evOper o.op ih P o tmc H = some (V j, H') ∧ (isEff P o = true → H' = HH (j + 1)) ∧ (isEff P o = false → H' = H) := by
      rw [evOper_congr l1]
      cases hk : kindOf P o with
      | eff =>
        have he := isEff_iff.2 hk
        refine ⟨HH (j + 1), by rw [hHeq he]; exact hev, fun _ => rfl, fun e => by rw [he] at e; cases e⟩
      | pure =>
        have he : isEff P o = false := by
          cases h1 : isEff P o with
          | false => rfl
          | true => rw [isEff_iff.1 h1] at hk; cases hk
        exact ⟨H, (pure_apart hk hev H ih).2, (fun e => by rw [he] at e; cases e), fun _ => rfl⟩
      | read =>
        have he : isEff P o = false := by
          cases h1 : isEff P o with
          | false => rfl
          | true => rw [isEff_iff.1 h1] at hk; cases hk
        have hm := ht.mets ho' hk hw
        have hh := holdsIn_iff (allHold_mem ht.hold _ hm) (cntD P ops listed) H hH (by simpa using c3) (by simpa using c4)
        simp only [holdsAt] at hh
        rw [(read_keeps hk hev ihNone).2 H] at hh
        cases hx : evOper o.op ih P o (TM j) H with
        | none => simp [hx] at hh
        | some r =>
          obtain ⟨v1, H1⟩ := r
          simp only [hx] at hh
          have h1 := sameOr_eq hh
          have h2 := (read_keeps hk hx ih).1
          rw [h1, h2]
          exact ⟨H, rfl, (fun e => by rw [he] at e; cases e), fun _ => rfl⟩
    obtain ⟨H', g1, g2, g3⟩ := hnow
    refine evOper_wp hs hr htr g1 ?_
    intro τ v' w' q1 q2 q3
    exact done τ v' w' H' q1 q2 q3 g2 g3

theorem inv_any (hs : Sound P w0 ih) (hord : DrawOrd P ops.toList) (ht : Txt P ih ops.toList n tm h V TM HH HS MS) {df : List Deferred} {md : Region.Mode} {ro : Option Nat} {m : Nat} {Q : Exit → Act → World → Prop}
    (hQ : ∀ listed A w, Inv P w0 ops n tm V (HS ops.toList.length).reverse ρ df listed A w → (∀ i, i < ops.size → inD listed i) → Q .normal A w) :
    ∀ (fuel : Nat) (listed : Array Bool) (A : Act) (w : World), listed.toList.count false = fuel → Inv P w0 ops n tm V (HS ops.toList.length).reverse ρ df listed A w → wpAnyIn (FF ro) m P md ops Q fuel listed A w
  | 0, listed, A, w, hc, hI => by
    have hall : ∀ i, i < ops.size → inD listed i := by
      intro i hi
      have hlt : i < listed.size := by rw [hI.size]; exact hi
      unfold inD
      rw [Array.getD_eq_getD_getElem?, Array.getElem?_eq_getElem hlt]
      have hm : listed[i] ∈ listed.toList := by simp
      cases hb : listed[i] with
      | true => rfl
      | false => rw [hb] at hm; exact absurd hm (List.count_eq_zero.1 hc)
    refine ⟨?_, hQ listed A w hI hall⟩
    cases hr : Region.ready md ops listed with
    | nil => rfl
    | cons j l =>
      have hj : j ∈ Region.ready md ops listed := by rw [hr]; exact List.mem_cons_self
      obtain ⟨h1, h2, _⟩ := ready_mem hj hI.size
      exact absurd (hall j h1) h2
  | fuel + 1, listed, A, w, hc, hI => by
    refine ⟨fun hr => hQ listed A w hI (fits_ready hI.size _ [] (hord.fits md) (fun i hi => by simp at hi) hr), fun j hj => ?_⟩
    obtain ⟨h1, h2, _⟩ := ready_mem hj hI.size
    refine inv_step hs hord ht hI hj fun A' w' hI' => inv_any hs hord ht hQ fuel _ A' w' ?_ hI'
    have hlt : j < listed.toList.length := by simp [hI.size]; exact h1
    rw [Array.toList_setIfInBounds, List.count_set hlt, hc]
    have hb : listed.toList[j] = false := by
      unfold inD at h2
      rw [Array.getD_eq_getD_getElem?, Array.getElem?_eq_getElem (by rw [hI.size]; exact h1)] at h2
      simpa using h2
    simp [hb]

/-- **A region that draws its order.** -/
theorem evDraw_wp (hs : Sound P w0 ih) {w : World} {A : Act} (hr : Rep P w0 ρ h w) (htr : TRel ρ n tm A.tmps) {k : T Value → AHeap → Option Res} {r : Res} (he : evDraw P ih ops.toList n tm h k = some r) {ro : Option Nat} {m : Nat} {id : Nat} {Q : Exit → Act → World → Prop}
    (hk : ∀ σ tm' h' A' w', ρ.le σ → Rep P w0 σ h' w' → TRel σ n tm' A'.tmps → A'.defers = A.defers → k tm' h' = some r → Q .normal A' w') : (Code.region id ops true).wpIn (FF ro) m P Q A w := by
  unfold evDraw at he
  cases hd : drawOk P ops.toList with
  | false => simp [hd] at he
  | true =>
    simp only [hd, cond_true] at he
    have hord := ord_of hd
    obtain ⟨V, TM, HH, HS, MS, q1, q2, q3, q4, q5, q6, q7⟩ := evText_trace ops.toList (befs ops.toList []) n k r ops.toList 0 tm h [h] [] he
    simp only [Nat.zero_add] at q5 q6 q7
    have ht : Txt P ih ops.toList n tm h V TM HH HS MS := ⟨q1, q2, q3, q4, q5, q7⟩
    have hend : ∀ listed A' w', Inv P w0 ops n tm V (HS ops.toList.length).reverse ρ A.defers listed A' w' → (∀ i, i < ops.size → inD listed i) → Q .normal A' w' := by
      intro listed A' w' hI hall
      obtain ⟨σ, tmc, H, hle, hr', hH, htr', htm⟩ := hI.ex
      have hcnt : cntD P ops listed = efs P ops.toList ops.toList.length := by
        unfold cntD efs
        refine countEff_congr _ _ fun i o hi _ => ?_
        have hlt := (List.getElem?_eq_some_iff.1 hi).1
        simp only [Nat.zero_add]
        rw [decide_eq_true hlt]
        exact hall i (by simpa using hlt)
      have hHH : H = HH ops.toList.length := by
        have := ht.heaps (Nat.le_refl _)
        rw [hcnt, this] at hH
        exact (Option.some.inj hH).symm
      subst hHH
      have htm2 := ht.tmOf hord ops.toList.length (Nat.le_refl _)
      have hget : ∀ t, tmc.get t = (TM ops.toList.length).get t := by
        intro t
        by_cases hex : ∃ (i : Nat) (o' : Oper), ops.toList[i]? = some o' ∧ o'.dst = some t
        · obtain ⟨i, o', h1, h2⟩ := hex
          have hlt := (List.getElem?_eq_some_iff.1 h1).1
          rw [htm.1 i o' t h1 (hall i (by simpa using hlt)) h2, htm2.1 i o' t h1 hlt h2]
        · rw [htm.2 t (fun i o h1 _ h2 => hex ⟨i, o, h1, h2⟩), htm2.2 t (fun i o h1 _ h2 => hex ⟨i, o, h1, h2⟩)]
      have htr2 : TRel σ n (TM ops.toList.length) A'.tmps := ⟨htr'.1, fun t => by
        have := htr'.2 t
        unfold getT at this ⊢
        rw [← hget t]; exact this⟩
      exact hk σ _ _ A' w' hle hr' htr2 hI.df q6
    have hstart : Inv P w0 ops n tm V (HS ops.toList.length).reverse ρ A.defers (Array.replicate ops.size false) A w.drew := by
      have hno : ∀ i, ¬ inD (Array.replicate ops.size false) i := by
        intro i hi
        unfold inD at hi
        rw [Array.getD_eq_getD_getElem?, Array.getElem?_replicate] at hi
        split at hi <;> simp at hi
      refine ⟨⟨ρ, tm, h, ρ.le_refl, hr.drew, ?_, htr, fun i o t _ hi => absurd hi (hno i), fun t _ => rfl⟩, rfl, by simp, fun i j hi => absurd hi (hno i)⟩
      have hc0 : cntD P ops (Array.replicate ops.size false) = efs P ops.toList 0 := by
        unfold cntD efs
        refine countEff_congr _ _ fun i o hi _ => ?_
        cases hx : (Array.replicate ops.size false).getD (0 + i) false with
        | false => simp
        | true => exact absurd hx (hno _)
      rw [hc0, ht.heaps (Nat.zero_le _), q2]
    have hall : ∀ md t, wpOpsIn (FF ro) m P ops Q (Region.linearise md ops t) A w.drew := by
      intro md t
      unfold Region.linearise
      refine wpAnyIn_sound ops.size t _ A _ (inv_any hs hord ht hend ops.size _ A _ (by simp) hstart)
    refine wpIn_region_draw fun t => ?_
    unfold Region.schedule
    split
    · exact hall .any t
    · exact hall _ _
end
end Go.Ev
