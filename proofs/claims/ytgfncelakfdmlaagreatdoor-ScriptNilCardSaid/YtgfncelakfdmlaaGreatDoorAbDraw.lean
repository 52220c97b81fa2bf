import Derived.Test.YtgfncelakfdmlaaGreatDoorAbAny
import Derived.Still
/-! From the checks to every order; the abstract run of a region. -/
namespace Go.Ab
open Go

def cntD (D : Nat → Bool) : Nat → Nat
  | 0 => 0
  | m + 1 => cntD D m + (if D m then 0 else 1)
theorem cntD_mark {D : Nat → Bool} {k : Nat} (hk : D k = false) : ∀ m, k < m → cntD (mark D k) m + 1 = cntD D m
  | 0, h => by omega
  | m + 1, h => by
    simp only [cntD]
    by_cases e : m = k
    · subst e
      have h1 : cntD (mark D m) m = cntD D m := by
        have : ∀ q, q ≤ m → cntD (mark D m) q = cntD D q := by
          intro q
          induction q with
          | zero => intro _; rfl
          | succ q ih =>
            intro hq
            simp only [cntD]
            rw [ih (by omega)]
            have : mark D m q = D q := by have : q ≠ m := by omega
                                          simp [mark, this]
            rw [this]
        exact this m (Nat.le_refl _)
      have h2 : mark D m m = true := by simp [mark]
      rw [h1, h2, hk]; simp
    · have ih := cntD_mark hk m (by omega)
      have h2 : mark D k m = D m := by simp [mark, e]
      rw [h2]; omega
theorem cntD_zero {D : Nat → Bool} : ∀ m, cntD D m = 0 → ∀ i, i < m → D i = true
  | 0, _, i, h => by omega
  | m + 1, h, i, hi => by
    simp only [cntD] at h
    by_cases e : i = m
    · subst e
      cases hd : D i with
      | true => rfl
      | false => simp [hd] at h
    · exact cntD_zero m (by omega) i (by omega)

section
variable {P : Program} {X : AExt} {call : ACall} {ops : Array Oper} {v : Nat → Value} {A0 : Tm} {loud : Nat → Bool} {N : Nat} {mask : Nat → Nat} {S : Nat → Mem} {base : Nat} {B : Nat → Option Blk} {Q : Exit → Act → World → Prop}

theorem wpAny_run (hng : NoNG P X) (hcall : CallOK P call) (hr : Run P X call ops N loud mask v A0 S base B) {df : List ADef} {j0 : J} {σ0 : Mem} {w0 : World}
    (hend : N = ops.size → ∀ j c w, TmR j (actD ops v A0 (fun _ => true) N) c.tmps → DfR j df c.defers → WR j (S N) w → Ext j0 σ0 w0 j (S N) w → Q .normal c w)
    (hstop : N < ops.size → (∀ i, i < N → (mask N).testBit i = true) ∧ (∀ i, N < i → i < ops.size → (mask i).testBit N = true) ∧
      ∀ K j c w, TmR j (actD ops v A0 (fun _ => true) N) c.tmps → DfR j df c.defers → WR j (S N) w → Ext j0 σ0 w0 j (S N) w → wpOp P ops Q N K c w) :
    ∀ (fuel : Nat) (listed : Array Bool) (σ : Mem) (j : J) (c : Act) (w : World), listed.size = ops.size → cntD (fun i => listed.getD i false) ops.size ≤ fuel →
      Inv P ops N loud v A0 S base B df j0 σ0 w0 (fun i => listed.getD i false) σ j c w → wpAny P .any ops Q fuel listed c w := by
  have hbound := hr.bound
  -- when all of the first N are done
  have full : ∀ {D : Nat → Bool} {σ j c w}, Inv P ops N loud v A0 S base B df j0 σ0 w0 D σ j c w → (∀ i, i < N → D i = true) →
      TmR j (actD ops v A0 (fun _ => true) N) c.tmps ∧ DfR j df c.defers ∧ WR j (S N) w ∧ Ext j0 σ0 w0 j (S N) w := by
    intro D σ j c w h hall
    obtain ⟨g1, g2, g3⟩ := h.less hr (k := N) (lastD_le _) (Nat.le_refl _) (fun l h1 h2 => by
      cases hl : loud l with
      | false => rfl
      | true => have := lastD_none (D := D) N l h1 h2 hl; rw [hall l h2] at this; cases this)
    refine ⟨⟨by have := h.tm.sz; rwa [sz_actD] at this ⊢, fun t => ?_⟩, h.df, h.wr.less g1 g2 g3, h.ext.same g1 g2 g3⟩
    rw [get_actD (D' := D) N fun i hi _ => (hall i hi).symm]
    exact h.tm.get t
  have noReady : ∀ (listed : Array Bool) {σ j c w}, listed.size = ops.size → Inv P ops N loud v A0 S base B df j0 σ0 w0 (fun i => listed.getD i false) σ j c w → Region.ready .any ops listed = [] → N = ops.size ∧ ∀ i, i < N → listed.getD i false = true := by
    intro listed σ j c w hsz h hn
    have key : ∀ i, i < ops.size → i ≤ N → (∀ k, k < i → listed.getD k false = true) → listed.getD i false = true := by
      intro i hi hiN hk
      cases hd : listed.getD i false with
      | true => rfl
      | false =>
        exfalso
        have hlt : i < listed.size := by omega
        have : i ∈ Region.ready .any ops listed := by
          refine mem_ready.2 ⟨?_, ops[i], by simp [hi], fun e he hb => hk _ (hr.edge i ops[i] (by simp [hi]) e he hb)⟩
          simp [Array.getD, hlt] at hd ⊢; exact hd
        rw [hn] at this; cases this
    have all : ∀ m, m ≤ N → ∀ i, i < m → listed.getD i false = true := by
      intro m
      induction m with
      | zero => intro _ i hi; omega
      | succ m ih =>
        intro hm i hi
        by_cases e : i = m
        · subst e; exact key i (by omega) (by omega) (ih (by omega))
        · exact ih (by omega) i (by omega)
    refine ⟨?_, all N (Nat.le_refl _)⟩
    rcases Nat.lt_or_ge N ops.size with hlt | hge
    · have := key N hlt (Nat.le_refl _) (all N (Nat.le_refl _))
      exact absurd (h.lt N this) (by omega)
    · omega
  intro fuel
  induction fuel with
  | zero =>
    intro listed σ j c w hsz hcnt h
    have hall := cntD_zero ops.size (by omega : cntD (fun i => listed.getD i false) ops.size = 0)
    have hN : N = ops.size := by
      rcases Nat.lt_or_ge N ops.size with hlt | hge
      · exact absurd (h.lt N (hall N hlt)) (by omega)
      · omega
    refine ⟨?_, ?_⟩
    · cases hrd : Region.ready .any ops listed with
      | nil => rfl
      | cons i l =>
        exfalso
        have hm : i ∈ Region.ready .any ops listed := by rw [hrd]; simp
        obtain ⟨h1, o, ho, _⟩ := mem_ready.1 hm
        have hi : i < ops.size := by
          rcases Nat.lt_or_ge i ops.size with h | h
          · exact h
          · simp [Array.getElem?_eq_none h] at ho
        have h2 := hall i hi
        simp [Array.getD, show i < listed.size by omega] at h1 h2
        rw [h1] at h2; cases h2
    · obtain ⟨f1, f2, f3, f4⟩ := full h (fun i hi => hall i (by omega))
      exact hend hN j c w f1 f2 f3 f4
  | succ fuel ih =>
    intro listed σ j c w hsz hcnt h
    refine ⟨fun hn => ?_, fun k hk => ?_⟩
    · obtain ⟨hN, hall⟩ := noReady listed hsz h hn
      obtain ⟨f1, f2, f3, f4⟩ := full h hall
      exact hend hN j c w f1 f2 f3 f4
    · obtain ⟨h1, o, ho, hdeps⟩ := mem_ready.1 hk
      have hi : k < ops.size := by
        rcases Nat.lt_or_ge k ops.size with h | h
        · exact h
        · simp [Array.getElem?_eq_none h] at ho
      have hki : k < listed.size := by omega
      have hkf : listed.getD k false = false := by simp [Array.getD, hki] at h1 ⊢; exact h1
      have hD' : (fun i => (listed.setIfInBounds k true).getD i false) = mark (fun i => listed.getD i false) k := by
        funext i
        by_cases e : i = k
        · subst e; simp [mark, Array.getD, hki]
        · have : (i == k) = false := by simp [e]
          simp only [mark, this, Bool.or_false, Array.getD_eq_getD_getElem?]
          rw [Array.getElem?_setIfInBounds_ne (Ne.symm e)]
      rcases Nat.lt_trichotomy k N with hlt | heq | hgt
      · refine wpOp_any hng hcall hr h hlt ho hkf hdeps fun σ' j' c' w' h' => ?_
        refine ih _ σ' j' c' w' (by simp [hsz]) ?_ (by rw [hD']; exact h')
        rw [hD']
        have := cntD_mark (D := fun i => listed.getD i false) hkf ops.size hi
        omega
      · subst heq
        obtain ⟨s1, s2, s3⟩ := hstop hi
        have hall : ∀ i, i < k → listed.getD i false = true := fun i hlt => hr.strict k o ho (fun x => listed.getD x false = true) h.closed hdeps i (s1 i hlt)
        obtain ⟨f1, f2, f3, f4⟩ := full h hall
        exact s3 _ j c w f1 f2 f3 f4
      · obtain ⟨s1, s2, s3⟩ := hstop (by omega)
        have := hr.strict k o ho (fun x => listed.getD x false = true) h.closed hdeps N (s2 k hgt hi)
        exact absurd (h.lt N this) (by omega)

theorem wp_run (hng : NoNG P X) (hcall : CallOK P call) (hm : P.follows .mixedOrders = true) (hr : Run P X call ops N loud mask v A0 S base B) {df : List ADef} {j : J} {c : Act} {σ0 : Mem} {w : World} {id : Nat}
    (htm : TmR j A0 c.tmps) (hdf : DfR j df c.defers) (hwr : WR j σ0 w) (hbase : σ0.next = base) (htop : base + N ≤ (S 0).next) (hG0 : (S 0).G = σ0.G) (hget0 : ∀ a, (S 0).get a = σ0.get a)
    (hend : N = ops.size → ∀ j' c w', TmR j' (actD ops v A0 (fun _ => true) N) c.tmps → DfR j' df c.defers → WR j' (S N) w' → Ext j σ0 w j' (S N) w' → Q .normal c w')
    (hstop : N < ops.size → (∀ i, i < N → (mask N).testBit i = true) ∧ (∀ i, N < i → i < ops.size → (mask i).testBit N = true) ∧
      ∀ K j' c w', TmR j' (actD ops v A0 (fun _ => true) N) c.tmps → DfR j' df c.defers → WR j' (S N) w' → Ext j σ0 w j' (S N) w' → wpOp P ops Q N K c w') :
    (Code.region id ops true).wp P Q c w := by
  refine wp_region_any hm ?_
  have hfalse : ∀ i, (Array.replicate ops.size false).getD i false = false := by
    intro i
    simp only [Array.getD_eq_getD_getElem?]
    rcases Nat.lt_or_ge i ops.size with h | h
    · simp [h]
    · rw [Array.getElem?_eq_none (by simp; omega)]; rfl
  have hz : (fun i => (Array.replicate ops.size false).getD i false) = fun _ => false := funext hfalse
  have hlz : ∀ m, lastD loud (fun _ => false) m = 0 := by
    intro m
    induction m with
    | zero => rfl
    | succ m ih => simp only [lastD, Bool.false_and, Bool.false_eq_true, if_false]; exact ih
  have hwr0 : WR j (S 0) { w with drawn := w.drawn + 1 } := by
    refine WR.drawn ⟨fun a im ha => ?_, ?_, ?_, ?_⟩ _
    · have := hwr.lt a im ha; omega
    · intro a a' im im' h1 h2 he s1 s2
      rw [hget0] at s1 s2
      exact hwr.inj a a' im im' h1 h2 he s1 s2
    · intro a im x ha hx
      rw [hget0] at hx
      exact hwr.blk a im x ha hx
    · intro g hg; exact hwr.glob g (by omega)
  have hext0 : Ext j σ0 w j (S 0) { w with drawn := w.drawn + 1 } :=
    ⟨Le.refl j, by omega, hG0, rfl, rfl, rfl, Nat.le_refl _, fun _ _ _ => rfl, fun a im h hs _ => ⟨a, im, h, rfl, by rwa [hget0] at hs⟩, fun _ _ h => .inl h⟩
  refine wpAny_run hng hcall hr (df := df) (j0 := j) (σ0 := σ0) (w0 := w) hend hstop ops.size _ (S 0) j c _ (by simp) ?_ ⟨fun i o _ hi => ?_, fun i hi => ?_, ?_, hdf, ?_, ?_, ?_, hwr0, hext0, htop, by omega, hG0, ?_⟩
  · have : ∀ m, cntD (fun i => (Array.replicate ops.size false).getD i false) m ≤ m := by
      intro m
      induction m with
      | zero => exact Nat.le_refl _
      | succ m ih => simp only [cntD]; split <;> omega
    exact this _
  · rw [hfalse] at hi; cases hi
  · rw [hfalse] at hi; cases hi
  · have : ∀ m, actD ops v A0 (fun _ => false) m = A0 := by
      intro m
      induction m with
      | zero => rfl
      | succ m ih => simp only [actD, Bool.false_eq_true, if_false]; exact ih
    rw [hz, this]; exact htm
  · rw [hz, hlz]
  · rw [hz, hlz]
  · intro a
    rw [hz, hlz]
    have : sel base B (fun i => (Array.replicate ops.size false).getD i false && decide (0 ≤ i)) a = none := by
      unfold sel; simp only [hfalse, Bool.false_and, Bool.and_false, Bool.false_eq_true, if_false]
    rw [this]; rfl
  · intro i hi _ _
    cases hj : j (base + i) with
    | none => rfl
    | some im => have := hwr.lt _ im hj; omega
end
end Go.Ab
