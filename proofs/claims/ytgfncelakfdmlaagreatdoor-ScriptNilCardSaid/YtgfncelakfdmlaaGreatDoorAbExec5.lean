import Derived.Test.YtgfncelakfdmlaaGreatDoorAbExec4
/-! append in the abstract memory; make. -/
namespace Go.Ab
open Go

section
variable {P : Program} {j : J} {σ : Mem} {w : World}

def newSlice (σ : Mem) (T : TypeId) (vs : List Value) (n size : Nat) : Value × Mem := (.slice (some ⟨σ.next, 0, none⟩) n (size * BIG + n), σ.new (.row vs T (0, 0)))
theorem capR_new {n size c sz : Nat} (hs : 0 < size) (hn : n < BIG) (h1 : n ≤ c) (h2 : c * size ≤ sz) : CapR 0 sz (size * BIG + n) c := by
  unfold CapR
  have hB : 0 < BIG := by unfold BIG; omega
  have : 1 * BIG ≤ size * BIG := Nat.mul_le_mul_right _ hs
  rw [if_neg (by omega)]
  have e1 : (size * BIG + n) % BIG = n := by rw [Nat.mul_comm, Nat.mul_add_mod]; exact Nat.mod_eq_of_lt hn
  have e2 : (size * BIG + n) / BIG = size := by rw [Nat.mul_comm, Nat.mul_add_div hB, Nat.div_eq_of_lt hn]; omega
  rw [e1, e2]
  exact ⟨h1, by omega⟩

def xAppendAt (P : Program) (σ : Mem) (e : TypeId) (i : TypeInfo) (news : List Value) (n : Nat) : Value → Option (Value × Mem)
  | .slice none len c =>
    if len = 0 && c = 0 then
      (if n = 0 then some (.slice none 0 0, σ) else if okGrow i n then some (newSlice σ e news n i.size) else none)
    else none
  | .slice (some a) len c =>
    if c < BIG then
      (if len + n ≤ c then (astores σ (a.add (len * i.size)) news).map fun σ' => (.slice (some a) (len + n) c, σ')
      else if okGrow i (len + n) then (aloads σ a (len * i.size)).map fun old => newSlice σ e (old ++ news) (len + n) i.size
      else none)
    else if c / BIG = i.size then
      (if len + n ≤ c % BIG then (astores σ (a.add (len * i.size)) news).map fun σ' => (.slice (some a) (len + n) c, σ')
      else match a.spot, σ.get a.block with
        | none, some (.row cs T fr) =>
          if a.off = 0 && T = e && fr.1 = 0 && fr.2 = 0 && len * i.size ≤ cs.length && len ≤ c % BIG && okGrow i (len + n) && news.all oneCell then
            some (newSlice (σ.kill a.block) e (cs.take (len * i.size) ++ news) (len + n) i.size)
          else none
        | _, _ => none)
    else none
  | _ => none

def xAppend (P : Program) (σ : Mem) (t0 t1 : TypeId) (s x : Value) : Option (Value × Mem) :=
  match P.underlying t0, P.underlying t1 with
  | some (.slice e), some d1 =>
    if isIntD d1 then none else
    (match P.info? e with
    | some i => (match i.zero with
      | some z => if z.cells.toList.all plain && z.cells.size = i.size && 0 < i.size && 0 < i.bytes then
          (match xNews σ i.size x with
          | some (news, n) => xAppendAt P σ e i news n s
          | none => none) else none
      | none => none)
    | none => none)
  | _, _ => none

theorem zeroCells_size (z : Array Value) (n : Nat) : (Builtin.zeroCells z n).size = n * z.size := by simp [Builtin.zeroCells]

theorem grown_ok (h : WR j σ w) {e : TypeId} {i : TypeInfo} {z : Value} (hz1 : z.cells.size = i.size) (hs : 0 < i.size) {old old' news news' : List Value} {len n cap' : Nat}
    (ho : VRs j old old') (hn : VRs j news news') (hol : old.length = len * i.size) (hnl : news.length = n * i.size) (hcap : len + n ≤ cap') (hbig : len + n < BIG)
    {m : Sem Value} (hm : m.run P w = .ok (.slice (some ⟨w.heap.size, 0, none⟩) (len + n) cap')
      { w with drawn := w.drawn + 1, heap := w.heap.push (.cells (old'.toArray ++ news'.toArray ++ Builtin.zeroCells z.cells (cap' - (len + n))) e (0, 0)) }) :
    Yields P j σ w m (newSlice σ e (old ++ news) (len + n) i.size).1 (newSlice σ e (old ++ news) (len + n) i.size).2 := by
  have hv : VRs j (old ++ news) (old' ++ news') := ho.append hn
  have hlen : (old ++ news).length = (len + n) * i.size := by simp [hol, hnl, Nat.add_mul]
  have hsz : (old'.toArray ++ news'.toArray ++ Builtin.zeroCells z.cells (cap' - (len + n))).size = cap' * i.size := by
    simp only [Array.size_append, List.size_toArray, zeroCells_size, hz1, ← ho.length, ← hn.length, hol, hnl]
    rw [← Nat.add_mul, ← Nat.add_mul]; congr 1; omega
  have hle : (old ++ news).length ≤ cap' * i.size := by rw [hlen]; exact Nat.mul_le_mul_right _ hcap
  have hnew := new_ok h (x := .row (old ++ news) e (0, 0)) (o := .cells (old'.toArray ++ news'.toArray ++ Builtin.zeroCells z.cells (cap' - (len + n))) e (0, 0)) (sz := cap' * i.size)
    (w' := { w with drawn := w.drawn + 1, heap := w.heap.push (.cells (old'.toArray ++ news'.toArray ++ Builtin.zeroCells z.cells (cap' - (len + n))) e (0, 0)) })
    (.row _ _ _ _ _ hsz (by simp [FrR, BIG]) hle (by
      have e1 : (old'.toArray ++ news'.toArray ++ Builtin.zeroCells z.cells (cap' - (len + n))).toList.take (old ++ news).length = old' ++ news' := by
        rw [hv.length]
        simp only [Array.toList_append]
        rw [List.take_append_of_le_length (by simp)]
        exact List.take_of_length_le (by simp)
      rw [e1]; exact hv.mono (le_upd h _))) rfl rfl rfl rfl
  exact ⟨_, _, _, hm, hnew.1, hnew.2, .slice ⟨σ.next, 0, none⟩ ⟨w.heap.size, cap' * i.size⟩ _ _ _ (upd_same _ _ _) (capR_new hs hbig hcap (Nat.le_refl _))⟩

theorem splice_all : ∀ (vs cs : List Value) (off : Nat), off + vs.length ≤ cs.length → splice cs off vs = cs.take off ++ vs ++ cs.drop (off + vs.length)
  | [], cs, off, _ => by simp [splice]
  | v :: vs, cs, off, h => by
    simp only [List.length_cons] at h
    simp only [splice]
    rw [splice_all vs (cs.set off v) (off + 1) (by simp; omega)]
    have e1 : (cs.set off v).take (off + 1) = cs.take off ++ [v] := by
      rw [List.take_set, List.take_add_one]
      rw [List.set_append_right _ _ (by simp; omega)]
      have : off < cs.length := by omega
      simp [this, Nat.min_eq_left (Nat.le_of_lt this)]
    have e2 : (cs.set off v).drop (off + 1 + vs.length) = cs.drop (off + 1 + vs.length) := by
      rw [List.drop_set]; rw [if_pos (by omega)]
    rw [e1, e2]
    simp [Nat.add_assoc, Nat.add_comm 1]
theorem splice_take_end {vs cs : List Value} {off : Nat} (h : off + vs.length ≤ cs.length) : (splice cs off vs).take (off + vs.length) = cs.take off ++ vs := by
  rw [splice_all vs cs off h]
  rw [List.take_append_of_le_length (by simp; omega)]
  exact List.take_of_length_le (by simp; omega)
theorem okGrow_big {i : TypeInfo} {n : Nat} (h : okGrow i n = true) : n < BIG := by
  simp only [okGrow, Bool.and_eq_true, decide_eq_true_eq] at h
  unfold BIG; omega

theorem xAppendAt_ok (h : WR j σ w) {t0 t1 ty e : TypeId} {i : TypeInfo} {d1 : TypeDesc} {z : Value} (hd0 : P.underlying t0 = some (.slice e)) (hd1 : P.underlying t1 = some d1) (hint : isIntD d1 = false)
    (hi : P.info? e = some i) (hz : i.zero = some z) (hzs : z.cells.size = i.size) (hsz : 0 < i.size) (hby : 0 < i.bytes)
    {s s' x' : Value} {n : Nat} {news news' : List Value} (hs : VR j s s') (g1 : (Builtin.lenOf x').run P w = .ok n w)
    (g2 : ∀ w2 : World, w2.heap = w.heap → (Builtin.firstCells i.size n x').run P w2 = .ok news'.toArray w2) (g3 : VRs j news news') (g4 : news.length = n * i.size)
    {r : Value × Mem} (hl : xAppendAt P σ e i news n s = some r) : Yields P j σ w (Builtin.append_ #[t0, t1] ty #[s', x']) r.1 r.2 := by
  cases s with
  | slice base len c =>
    cases base with
    | none =>
      simp only [xAppendAt] at hl
      obtain rfl := hs.nils_inv
      split at hl
      case isFalse => cases hl
      rename_i h0
      simp only [Bool.and_eq_true, decide_eq_true_eq] at h0
      obtain ⟨rfl, rfl⟩ := h0
      split at hl
      · rename_i hn0
        cases hl
        subst hn0
        refine Yields.same h ?_ (.nils 0 0)
        exact append_room (base := none) hd0 hi hd1 hint g1 (g2 w rfl) (by omega) (fun a e => by cases e) (fun _ => rfl)
      · rename_i hn0
        split at hl
        case isFalse => cases hl
        rename_i hok
        cases hl
        obtain ⟨cap', c1, c2⟩ := append_grow (ty := ty) (base := none) (c := 0) (len := 0) hd0 hi hd1 hint hz g1 g2 (old := #[]) (fun w2 _ => by simp [Builtin.firstCells]) (by omega) (by simpa using hok) hby
        have := grown_ok (P := P) h (z := z) (e := e) hzs hsz (old := []) (old' := []) (len := 0) .nil g3 (by simp) g4 c1 (by simpa using okGrow_big hok) (m := Builtin.append_ #[t0, t1] ty #[.slice none 0 0, x']) (by simpa using c2)
        simpa using this
    | some a =>
      simp only [xAppendAt] at hl
      obtain ⟨im, c', hj, hcr, rfl⟩ := hs.slice_inv
      have room : ∀ σ', len + n ≤ c' → astores σ (a.add (len * i.size)) news = some σ' →
          Yields P j σ w (Builtin.append_ #[t0, t1] ty #[.slice (some { a with block := im.b }) len c', x']) (.slice (some a) (len + n) c) σ' := by
        intro σ' hle hst
        obtain ⟨w', s1, s2, s3⟩ := stores_ok P h (a := a.add (len * i.size)) (by rw [add_blk]; exact hj) hst g3
        refine ⟨j, w', .slice (some { a with block := im.b }) (len + n) c', ?_, s2, s3, .slice a im _ _ _ hj hcr⟩
        exact append_room hd0 hi hd1 hint g1 (g2 w rfl) hle (fun b e => by cases e; rw [← add_block a im.b]; simpa using s1) (fun e => by cases e)
      split at hl
      · rename_i hbig
        obtain rfl := hcr.known hbig
        split at hl
        · rename_i hle
          simp only [Option.map_eq_some_iff] at hl
          obtain ⟨σ', hst, rfl⟩ := hl
          exact room σ' hle hst
        · rename_i hnle
          split at hl
          case isFalse => cases hl
          rename_i hok
          simp only [Option.map_eq_some_iff] at hl
          obtain ⟨old, hld, rfl⟩ := hl
          obtain ⟨old', l1, l2, l3⟩ := loads_all P h hj hld
          obtain ⟨cap', c1, c2⟩ := append_grow (ty := ty) (base := some { a with block := im.b }) (c := c') (len := len) hd0 hi hd1 hint hz g1 g2 (old := old'.toArray) (fun w2 hw2 => by simpa [Builtin.firstCells] using l1 w2 hw2) hnle hok hby
          exact grown_ok (P := P) h hzs hsz l2 g3 (by rw [l2.length]; exact l3) g4 c1 (okGrow_big hok) c2
      · rename_i hbig
        obtain ⟨hlb, hfit⟩ := hcr.unknown hbig
        split at hl
        case isFalse => cases hl
        rename_i hdiv
        split at hl
        · rename_i hle
          simp only [Option.map_eq_some_iff] at hl
          obtain ⟨σ', hst, rfl⟩ := hl
          exact room σ' (Nat.le_trans hle hlb) hst
        · rename_i hnle
          split at hl
          case h_2 => cases hl
          rename_i cs T fr hsp hg
          split at hl
          case isFalse => cases hl
          rename_i hc
          simp only [Bool.and_eq_true, decide_eq_true_eq] at hc
          obtain ⟨⟨⟨⟨⟨⟨⟨hoff, rfl⟩, hf1⟩, hf2⟩, hlen⟩, hlenb⟩, hok⟩, hone⟩ := hc
          cases hl
          obtain ⟨b, off, sp⟩ := a
          simp only at hoff hsp hg hj hfit
          subst hoff; subst hsp
          obtain ⟨cc, fr', hw, hcs, hfr, hcl, hcv⟩ := row_of h hj hg
          have hfr0 : fr' = (0, 0) := by
            have : fr = (0, 0) := Prod.ext hf1 hf2
            subst this
            simpa [FrR, BIG] using hfr
          subst hfr0
          have htk : VRs j (cs.take (len * i.size)) (cc.toList.take (len * i.size)) := by
            have := hcv.take (len * i.size)
            rwa [List.take_take, Nat.min_eq_left hlen] at this
          have htl : (cs.take (len * i.size)).length = len * i.size := by simp; omega
          by_cases hroom : len + n ≤ c'
          · -- in place: the block gets a new name
            have hnl := g3.length
            have hone' : ∀ v ∈ news', oneCell v = true := by
              intro v' hm
              obtain ⟨k, hk⟩ := List.getElem?_of_mem hm
              have hk' : k < news.length := by
                rw [hnl]; rcases Nat.lt_or_ge k news'.length with h | h
                · exact h
                · simp [List.getElem?_eq_none h] at hk
              obtain ⟨u, hu1, hu2⟩ := g3.get (List.getElem?_eq_getElem hk')
              rw [hk] at hu1; cases hu1
              rw [oneCell_vr hu2]
              exact List.all_eq_true.1 hone _ (List.getElem_mem hk')
            have hin : len * i.size + news'.length ≤ cc.size := by
              rw [← hnl, g4, hcs, ← Nat.add_mul]
              rw [hdiv] at hfit
              have := Nat.mul_le_mul_right i.size hroom
              omega
            obtain ⟨w', hr, hh, ho1, ht, hou⟩ := run_storeCells P im.b T (0, 0) news' (len * i.size) 0 w cc hw hone' (by simpa using hin) (fun k _ => by simp [frz])
            have e1 : (cs.take (len * i.size) ++ news).length = len * i.size + news'.length := by rw [List.length_append, htl, hnl]
            have hre := renew_ok h hj hg (x := .row (cs.take (len * i.size) ++ news) T (0, 0)) (o := .cells (splice cc.toList (len * i.size + 0) news').toArray T (0, 0))
              (.row _ _ _ _ _ (by simp [splice_length, hcs]) (by simp [FrR, BIG]) (by rw [e1, ← hcs]; exact hin) (by
                rw [e1]
                simp only [Nat.add_zero, List.toList_toArray]
                rw [splice_take_end (by simpa using hin)]
                exact (htk.append g3).mono (le_upd h _))) hh ho1 ht hou
            refine ⟨_, w', .slice (some ⟨im.b, 0, none⟩) (len + n) c', ?_, hre.1, hre.2, .slice ⟨σ.next, 0, none⟩ im _ _ _ (upd_same _ _ _) ?_⟩
            · refine append_room hd0 hi hd1 hint g1 (g2 w rfl) hroom (fun b e => ?_) (fun e => by cases e)
              cases e
              rw [addr_add _ rfl]
              simpa using hr
            · refine capR_new hsz (okGrow_big hok) hroom ?_
              rw [hdiv] at hfit; omega
          · obtain ⟨k1, k2⟩ := kill_ok h b
            have hld : ∀ w2 : World, w2.heap = w.heap → (loadCells ⟨im.b, 0, none⟩ (len * i.size)).run P w2 = .ok (cc.toList.take (len * i.size)).toArray w2 := by
              intro w2 hw2
              have := run_loadCellsFrom P w2 ⟨im.b, 0, none⟩ (cc.toList.take (len * i.size)) 0 #[] (by
                intro k v hk
                rw [List.getElem?_take] at hk
                split at hk
                · rw [addr_add _ rfl]
                  simp only [World.cell?, hw2, hw]
                  simpa using hk
                · cases hk)
              have hlen' : (cc.toList.take (len * i.size)).length = len * i.size := by simp; omega
              rw [hlen'] at this
              simpa [loadCells] using this
            obtain ⟨cap', c1, c2⟩ := append_grow (ty := ty) (base := some ⟨im.b, 0, none⟩) (c := c') (len := len) hd0 hi hd1 hint hz g1 g2 (old := (cc.toList.take (len * i.size)).toArray) (fun w2 hw2 => by simpa [Builtin.firstCells] using hld w2 hw2) hroom hok hby
            obtain ⟨j', w', v', y1, y2, y3, y4⟩ := grown_ok (P := P) k1 hzs hsz htk g3 htl g4 c1 (okGrow_big hok) c2
            exact ⟨j', w', v', y1, y2, k2.trans y3, y4⟩
      
  | _ => cases hl

theorem xAppend_ok (h : WR j σ w) {t0 t1 ty : TypeId} {s s' x x' : Value} (hs : VR j s s') (hx : VR j x x') {r : Value × Mem} (hl : xAppend P σ t0 t1 s x = some r) :
    Yields P j σ w (Builtin.append_ #[t0, t1] ty #[s', x']) r.1 r.2 := by
  unfold xAppend at hl
  split at hl
  case h_2 => cases hl
  rename_i e d1 hd0 hd1
  split at hl
  · cases hl
  rename_i hint
  replace hint : isIntD d1 = false := by simpa using hint
  split at hl
  case h_2 => cases hl
  rename_i i hi
  split at hl
  case h_2 => cases hl
  rename_i z hz
  split at hl
  case isFalse => cases hl
  rename_i hc
  simp only [Bool.and_eq_true, decide_eq_true_eq] at hc
  obtain ⟨⟨⟨hpl, hzs⟩, hsz⟩, hby⟩ := hc
  split at hl
  case h_2 => cases hl
  rename_i news n hnews
  obtain ⟨news', g1, g2, g3, g4⟩ := xNews_ok h hx hnews
  exact xAppendAt_ok h hd0 hd1 hint hi hz hzs hsz hby hs g1 g2 g3 g4 hl
end
end Go.Ab
