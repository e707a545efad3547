/- The abstract machine, and the contracts of the code: part 39. -/
import Derived.Test.YtchljppcenckaaaFwU6

section
/- Any order of a region: the rule. -/
namespace Go.Fw
set_option linter.unusedVariables false
set_option linter.unusedSimpArgs false
open Go

theorem set_get_true {listed : Array Bool} {j : Nat} (hj : j < listed.size) (i : Nat) : (listed.setIfInBounds j true).getD i false = true ↔ (i = j ∨ listed.getD i false = true) := by
  by_cases e : i = j
  · subst e
    simp only [true_or, iff_true]
    rw [Array.getD_eq_getD_getElem?, Array.getElem?_setIfInBounds_self_of_lt hj]
    rfl
  · rw [getD_set_ne false (fun h => e h.symm)]
    simp [e]

theorem slIdxs_lk {s : Slots} {H : List Blk} (h : (slIdxs s).all (fun k => decide (k < H.length)) = true) (i : Nat) : ∀ k ∈ (lk i s).idxs, k < H.length := by
  induction s with
  | nil => intro k hk; simp [lk, AV.idxs] at hk
  | cons p s ih =>
    obtain ⟨j, v⟩ := p
    simp only [slIdxs, List.all_append, Bool.and_eq_true] at h
    intro k hk
    simp only [lk] at hk
    split at hk
    · have := List.all_eq_true.1 h.1 k hk; simpa using this
    · exact ih h.2 k hk

theorem viewOk_ok {H : List Blk} : ∀ {V : List Nat}, viewOk H V = true → ∀ i ∈ V, ∀ B, H[i]? = some B → ∀ k ∈ blkIdxs B, k < H.length
  | [], _, i, hi => by simp at hi
  | j :: V, h, i, hi => by
    simp only [viewOk, Bool.and_eq_true] at h
    rcases List.mem_cons.1 hi with rfl | hi
    · intro B hB k hk
      have h1 := h.1
      rw [hB] at h1
      have := List.all_eq_true.1 h1 k hk; simpa using this
    · exact viewOk_ok h.2 i hi

theorem blksIdxs_get {Nw : List Blk} {i : Nat} {B : Blk} (h : Nw[i]? = some B) : ∀ k ∈ blkIdxs B, k ∈ blksIdxs Nw := by
  induction Nw generalizing i with
  | nil => simp at h
  | cons C r ih =>
    intro k hk
    simp only [blksIdxs, List.mem_append]
    cases i with
    | zero => simp at h; subst h; exact .inl hk
    | succ i => exact .inr (ih (by simpa using h) k hk)

section
variable {P : Program} {E : Env} {q : List TypeId} {gl : GCalls} {N : Nat} {ops : List Oper} {fs : List Info} {s0 sN : Slots} {H0 HN : List Blk}

theorem d_order (hX : XOk P E q) (hcl : GClOk P gl) {c : Ctx} (hck : c.k ≤ H0.length) (T : DT E q gl N ops fs s0 H0 sN HN) (hd : DOk ops fs) (hs0 : ∀ t, ∀ k ∈ (lk t s0).idxs, k < H0.length) {Q : Exit → Act → World → Prop}
    (hQ : ∀ m w a, Inv c m w HN → RelS m N a sN → Q .normal a w) : ∀ (fuel : Nat) (listed : Array Bool) (a : Act) (w : World) (m : Mem) (σ τ : Nat) (Hr : List Blk), listed.size = ops.length → countF listed = fuel →
    (∀ (j : Nat) (o : Oper), ops[j]? = some o → listed.getD j false = true → ∀ i ∈ aft o, listed.getD i false = true) → Inv c m w Hr → Stage T listed σ τ Hr → a.defers = [] → a.tmps.size = N →
    (∀ (i : Nat) (o : Oper) (d : Nat), ops[i]? = some o → listed.getD i false = true → o.dst = some d → RelA m (T.val i) (a.tmps.getD d undef)) →
    (∀ t, (∀ (i : Nat) (o : Oper), ops[i]? = some o → listed.getD i false = true → o.dst ≠ some t) → RelA m (lk t s0) (a.tmps.getD t undef)) →
    wpAny P .any ops.toArray Q fuel listed a w := by
  have hlenf := hd.len
  have h00 : T.hp 0 = H0 := T.zero.2
  -- all done: the slots and the blocks of the text
  have fin : ∀ (listed : Array Bool) (a : Act) (w : World) (m : Mem) (σ τ : Nat) (Hr : List Blk), (∀ (i : Nat) (o : Oper), ops[i]? = some o → listed.getD i false = true) → Inv c m w Hr → Stage T listed σ τ Hr → a.defers = [] → a.tmps.size = N →
      (∀ (i : Nat) (o : Oper) (d : Nat), ops[i]? = some o → listed.getD i false = true → o.dst = some d → RelA m (T.val i) (a.tmps.getD d undef)) →
      (∀ t, (∀ (i : Nat) (o : Oper), ops[i]? = some o → listed.getD i false = true → o.dst ≠ some t) → RelA m (lk t s0) (a.tmps.getD t undef)) → Q .normal a w := by
    intro listed a w m σ τ Hr hall hi hst h1 h2 h3 h4
    have hallf : ∀ (k : Nat) (f : Info), fs[k]? = some f → listed.getD k false = true := fun k f hf => by
      have := (List.getElem?_eq_some_iff.1 hf).1
      exact hall k _ (List.getElem?_eq_getElem (by omega))
    have hτ : τ = ops.length := by
      rcases hst.next with h | ⟨f, hf, hc⟩
      · exact h
      · have := hst.todo τ f hf (by omega) (Nat.le_refl _)
        rw [hallf τ f hf] at this; cases this
    have hfull := hst.full hd (fun k f hf _ _ => hallf k f hf)
    rw [hfull, hτ, T.last.2] at hi
    refine hQ m w a hi ⟨h1, h2, fun t => ?_⟩
    rw [← T.last.1]
    rcases T.lk_pre t ops.length (Nat.le_refl _) with ⟨i, o, _, hio, hdst, he⟩ | ⟨hno, he⟩
    · rw [he]; exact h3 i o t hio (hall i o hio) hdst
    · rw [he]
      exact h4 t fun i o hio _ => hno i o (List.getElem?_eq_some_iff.1 hio).1 hio
  intro fuel
  induction fuel with
  | zero =>
    intro listed a w m σ τ Hr hsz hcnt hdeps hi hst h1 h2 h3 h4
    have hall : ∀ (i : Nat) (o : Oper), ops[i]? = some o → listed.getD i false = true := by
      intro i o hio
      have hlt := (List.getElem?_eq_some_iff.1 hio).1
      have hlt' : i < listed.size := by omega
      cases e : listed.getD i false with
      | true => rfl
      | false =>
        have : false ∈ listed.toList := by
          rw [Array.getD_eq_getD_getElem?, Array.getElem?_eq_getElem hlt'] at e
          simp at e
          rw [← e]; exact Array.getElem_mem_toList _
        have := List.count_pos_iff.2 this
        unfold countF at hcnt; omega
    refine ⟨?_, fin listed a w m σ τ Hr hall hi hst h1 h2 h3 h4⟩
    cases e : Region.ready .any ops.toArray listed with
    | nil => rfl
    | cons x xs =>
      have hx : x ∈ Region.ready .any ops.toArray listed := by rw [e]; simp
      obtain ⟨g1, o, g2, _⟩ := mem_ready.1 hx
      have := hall x o (by simpa using g2)
      rw [Array.getD_eq_getD_getElem?] at g1 this
      cases hh : listed[x]? with
      | none => rw [hh] at this; simp at this
      | some b => rw [hh] at g1 this; simp at g1 this; rw [g1] at this; cases this
  | succ fuel ih =>
    intro listed a w m σ τ Hr hsz hcnt hdeps hi hst h1 h2 h3 h4
    refine ⟨fun hready => ?_, fun j hj => ?_⟩
    · refine fin listed a w m σ τ Hr ?_ hi hst h1 h2 h3 h4
      intro i
      induction i using Nat.strongRecOn with
      | _ i ihi =>
        intro o hio
        cases e : listed.getD i false with
        | true => rfl
        | false =>
          exfalso
          have hlt := (List.getElem?_eq_some_iff.1 hio).1
          have : i ∈ Region.ready .any ops.toArray listed := by
            refine mem_ready.2 ⟨?_, o, by simpa using hio, fun e' he' hb => ?_⟩
            · rw [Array.getD_eq_getD_getElem?] at e ⊢
              rw [Array.getElem?_eq_getElem (by omega)] at e ⊢
              simpa using e
            · have hmem : e'.on ∈ aft o := by
                simp only [aft, List.mem_map, List.mem_filter]
                exact ⟨e', ⟨Array.mem_toList_iff.2 he', hb⟩, rfl⟩
              have hback := hd.dep.back i o _ hio hmem
              have hlt2 : e'.on < ops.length := by omega
              exact ihi _ hback _ (List.getElem?_eq_getElem hlt2)
          rw [hready] at this; cases this
    · obtain ⟨g1, o, g2, g3⟩ := mem_ready.1 hj
      have hjo : ops[j]? = some o := by simpa using g2
      have hjlt := (List.getElem?_eq_some_iff.1 hjo).1
      obtain ⟨f, hjf0⟩ : ∃ f, fs[j]? = some f := ⟨fs[j]'(by omega), List.getElem?_eq_getElem _⟩
      have hjl : listed[j]? = some false := by
        rw [Array.getD_eq_getD_getElem?, Array.getElem?_eq_getElem (by omega)] at g1
        rw [Array.getElem?_eq_getElem (by omega)]
        simpa using g1
      have hjf : listed.getD j false = false := by rw [Array.getD_eq_getD_getElem?, hjl]; rfl
      have hafter : ∀ i ∈ aft o, listed.getD i false = true := by
        intro i hi'
        simp only [aft, List.mem_map, List.mem_filter] at hi'
        obtain ⟨e', ⟨he1, he2⟩, rfl⟩ := hi'
        exact g3 e' (Array.mem_toList_iff.1 he1) he2
      have hancl := anc_listed hd hdeps
      have hanc : ∀ k ∈ f.anc, listed.getD k false = true := by
        intro k hk
        rcases hd.anc j o f hjo hjf0 k hk with h | ⟨b, hb, g, hg, hkg⟩
        · exact hafter k h
        · exact hancl b g hg (hafter b hb) k hkg
      have hanclt := anc_lt hd j f hjf0
      have hset := set_get_true (listed := listed) (j := j) (by omega)
      -- what the operation looks at
      have hlook : ∀ t ∈ o.looksAt ops.toArray, RelA m (lk t (T.pre j)) (a.tmps.getD t undef) := by
        intro t ht
        rcases T.lk_pre t j (by omega) with ⟨i, p, hij, hip, hpd, he⟩ | ⟨hno, he⟩
        · rw [he]
          have hlisted : listed.getD i false = true := by
            rcases hd.dep.look i j p o t hip hjo hpd ht with ⟨_, h5⟩ | ⟨h5, _⟩
            · exact hafter i h5
            · omega
          exact h3 i p t hip hlisted hpd
        · rw [he]
          refine h4 t fun i p hip hli hpd => ?_
          rcases hd.dep.look i j p o t hip hjo hpd ht with ⟨h5, _⟩ | ⟨h5, h6⟩
          · exact hno i p h5 hip hpd
          · have := hdeps i p hip hli j h6
            rw [hjf] at this; cases this
      have hslp : ∀ ks : List Nat, (∀ t ∈ ks, t ∈ o.looksAt ops.toArray) → ∀ t, RelA m (lk t (prune ks (T.pre j))) (a.tmps.getD t undef) := by
        intro ks hks t
        rcases lk_prune_or ks (T.pre j) t with ⟨hm, he⟩ | he
        · rw [he]; exact hlook t (hks t hm)
        · rw [he]; exact .any
      have hws : wantA ops (prune (o.looksAt ops.toArray) (T.pre j)) o = wantA ops (T.pre j) o := wantA_congr fun t ht => lk_prune ht
      have hrelL : RelS m N a (prune (o.looksAt ops.toArray) (T.pre j)) := ⟨h1, h2, hslp _ (fun _ h => h)⟩
      -- behind the operation
      have next : ∀ (m' : Mem) (w' : World) (u : Value) (σ' τ' : Nat) (Hr' : List Blk), Inv c m' w' Hr' → Stage T (listed.setIfInBounds j true) σ' τ' Hr' → (o.dst ≠ none → RelA m' (T.val j) u) →
          (∀ (i : Nat) (p : Oper) (d : Nat), ops[i]? = some p → listed.getD i false = true → p.dst = some d → ∀ x, RelA m (T.val i) x → RelA m' (T.val i) x) → (∀ t x, RelA m (lk t s0) x → RelA m' (lk t s0) x) →
          wpAny P .any ops.toArray Q fuel (listed.setIfInBounds j true) (a.put o.dst u) w' := by
        intro m' w' u σ' τ' Hr' i1 st1 r1 rv rs
        have hput : ∀ t, (a.put o.dst u).tmps.getD t undef = if o.dst = some t ∧ t < N then u else a.tmps.getD t undef := by
          intro t
          cases hdst : o.dst with
          | none => simp [Act.put]
          | some d =>
            simp only [Act.put]
            by_cases e : t = d
            · subst e
              by_cases ht : t < N
              · rw [if_pos ⟨rfl, ht⟩]; simp [h2, ht]
              · rw [if_neg (fun h => ht h.2), Array.setIfInBounds_eq_of_size_le (by omega)]
            · rw [if_neg (fun h => e (Option.some.inj h.1).symm), Array.getD_eq_getD_getElem?, Array.getElem?_setIfInBounds_ne (fun h => e h.symm), Array.getD_eq_getD_getElem?]
        refine ih _ _ w' m' σ' τ' Hr' (by simpa using hsz) ?_ ?_ i1 st1 ?_ ?_ ?_ ?_
        · have : (listed.setIfInBounds j true).toList = listed.toList.set j true := by simp
          unfold countF at hcnt ⊢
          rw [this, List.count_set (by simp; omega)]
          have hge : listed.toList[j]'(by simp; omega) = false := by
            have := hjl
            rw [Array.getElem?_eq_getElem (by omega)] at this
            simpa using this
          rw [hge]
          have e1 : (false == false) = true := rfl
          have e2 : (true == false) = false := rfl
          rw [e1, e2]
          simp only [if_true, Bool.false_eq_true, if_false]
          omega
        · intro i p hip hli k hk
          rw [hset] at hli ⊢
          right
          rcases hli with rfl | hli
          · rw [hjo] at hip; cases hip; exact hafter k hk
          · exact hdeps i p hip hli k hk
        · cases o.dst <;> exact h1
        · cases o.dst <;> simp [Act.put, h2]
        · intro i p d' hip hli hpd
          rw [hset] at hli
          rw [hput]
          by_cases e : i = j
          · subst e
            rw [hjo] at hip; cases hip
            rcases T.put i _ hjo with ⟨hn, _⟩ | ⟨d, hdst, hdN, _⟩
            · rw [hn] at hpd; cases hpd
            · rw [hdst] at hpd; cases hpd
              rw [if_pos ⟨hdst, hdN⟩]; exact r1 (by rw [hdst]; simp)
          · rw [if_neg (fun he => e (hd.dep.once i j p o d' hip hjo hpd he.1))]
            exact rv i p d' hip (hli.resolve_left e) hpd _ (h3 i p d' hip (hli.resolve_left e) hpd)
        · intro t ht
          rw [hput]
          rw [if_neg (fun he => ht j o hjo ((hset j).2 (.inl rfl)) he.1)]
          exact rs t _ (h4 t fun i p hip hli => ht i p hip ((hset i).2 (.inr hli)))
      -- a stage goes on where the blocks stay
      have stay : (f.cls = 0 ∨ (f.cls ≠ 2 ∧ T.hp (j + 1) = T.hp j ∧ σ ≤ j ∧ j < τ)) → Stage T (listed.setIfInBounds j true) σ τ Hr := by
        intro hc
        refine ⟨hst.le, hst.top, fun k f' hf' hc' hk => (hset k).2 (.inr (hst.done k f' hf' hc' hk)), fun k f' hf' hc' hk => ?_, hst.still, hst.next, hst.len, hst.old, fun k i hk1 hk2 hi1 hi2 => ?_, hst.inn⟩
        · cases e : (listed.setIfInBounds j true).getD k false with
          | false => rfl
          | true =>
            rcases (hset k).1 e with rfl | h
            · rw [hjf0] at hf'; cases hf'
              rcases hc with hc | ⟨_, _, _, h9⟩
              · exact (hc' hc).elim
              · omega
            · rw [hst.todo k f' hf' hc' hk] at h; cases h
        · have hkj : k ≠ j := by
            rintro rfl
            have : T.hp (k + 1) = T.hp k := by
              rcases hc with hc | ⟨_, h9, _⟩
              · exact (T.grow hd k hjlt).2.2 f hjf0 hc
              · exact h9
            rw [this] at hi2; omega
          rw [hst.new k i hk1 hk2 hi1 hi2]
          have : (listed.setIfInBounds j true).getD k false = listed.getD k false := getD_set_ne false (fun h => hkj h.symm)
          rw [this]
      -- where an operation stands that looks at memory
      have hσj : f.cls ≠ 0 → σ ≤ j := fun hc => by
        rcases Nat.lt_or_ge j σ with h | h
        · have := hst.done j f hjf0 hc h
          rw [hjf] at this; cases this
        · exact h
      have hjτ1 : f.cls = 1 → j < τ := fun hc => by
        rcases Nat.lt_or_ge j τ with h | h
        · exact h
        · exfalso
          rcases hst.next with he | ⟨g, hg, hgc⟩
          · omega
          · have hne : j ≠ τ := by rintro rfl; rw [hjf0] at hg; cases hg; omega
            rcases hd.bar τ g hg hgc j f hjf0 (by omega) hne with ⟨h5, _⟩ | ⟨h5, h6⟩
            · omega
            · have := hanc τ h6
              rw [hst.todo τ g hg (by omega) (Nat.le_refl _)] at this; cases this
      have hjτ2 : f.cls = 2 → j = τ := fun hc => by
        have hge : τ ≤ j := by
          rcases Nat.lt_or_ge j τ with h | h
          · have := hst.still j f (hσj (by omega)) h hjf0; omega
          · exact h
        rcases hst.next with he | ⟨g, hg, hgc⟩
        · omega
        · rcases Nat.eq_or_lt_of_le hge with he | hlt
          · exact he.symm
          · exfalso
            rcases hd.bar j f hjf0 hc τ g hg (by omega) (by omega) with ⟨_, h6⟩ | ⟨h5, _⟩
            · have := hanc τ h6
              rw [hst.todo τ g hg (by omega) (Nat.le_refl _)] at this; cases this
            · omega
      -- ahead of a turning operation all is as in the text
      have hfullZ : f.cls = 2 → Hr = T.hp j := fun hc => by
        have hτ := hjτ2 hc
        have := hst.full hd (fun k g hg hg0 hk => by
          rcases hd.bar j f hjf0 hc k g hg hg0 (by omega) with ⟨_, h6⟩ | ⟨h5, _⟩
          · exact hanc k h6
          · omega)
        rw [this, hτ]
      -- the stretch behind a turning operation
      have newStage : ∀ (m' : Mem) (w' : World), f.cls = 2 → Inv c m' w' (T.hp (j + 1)) → ∃ (m2 : Mem) (σ' τ' : Nat) (Hr' : List Blk), Ext m' m2 ∧ Inv c m2 w' Hr' ∧ Stage T (listed.setIfInBounds j true) σ' τ' Hr' := by
        intro m' w' hc i1
        have hτ := hjτ2 hc
        obtain ⟨τ', t1, t2, t3, t4⟩ := next_turn fs ops.length (j + 1) (by omega)
        obtain ⟨m2, e2, i2⟩ := i1.pad ((T.hp τ').length - (T.hp (j + 1)).length)
        have hmono := T.mono hd (j + 1) τ' t1 t2
        have hstill : ∀ k g, j + 1 ≤ k → k < τ' → fs[k]? = some g → g.cls ≤ 1 := fun k g h1 h2 h3 => by
          have := hd.top k g h3; have := t3 k g h1 h2 h3; omega
        obtain ⟨R, hR⟩ := T.prefix_ hd (j + 1) τ' t2 t1 hstill
        have hun : ∀ k g, fs[k]? = some g → g.cls ≠ 0 → j < k → listed.getD k false = false := by
          intro k g hg hg0 hk
          rcases hd.bar j f hjf0 hc k g hg hg0 (by omega) with ⟨h5, _⟩ | ⟨_, h6⟩
          · omega
          · cases e : listed.getD k false with
            | false => rfl
            | true => have := hancl k g hg e j h6; rw [hjf] at this; cases this
        have hun' : ∀ k g, fs[k]? = some g → g.cls ≠ 0 → j < k → (listed.setIfInBounds j true).getD k false = false := by
          intro k g hg hg0 hk
          rw [getD_set_ne false (show j ≠ k by omega)]; exact hun k g hg hg0 hk
        refine ⟨m2, j + 1, τ', _, e2, i2, ⟨t1, t2, fun k g hg hg0 hk => ?_, fun k g hg hg0 hk => hun' k g hg hg0 (by omega), hstill, t4, ?_, fun i hi => ?_, fun k i hk1 hk2 hi1 hi2 => ?_, fun i B hi hB => ?_⟩⟩
        · rcases Nat.lt_or_ge k j with h | h
          · rcases hd.bar j f hjf0 hc k g hg hg0 (by omega) with ⟨_, h6⟩ | ⟨h5, _⟩
            · exact (hset k).2 (.inr (hanc k h6))
            · omega
          · exact (hset k).2 (.inl (by omega))
        · rw [List.length_append, List.length_replicate]; omega
        · rw [List.getElem?_append_left hi, hR, List.getElem?_append_left hi]
        · have hge : (T.hp (j + 1)).length ≤ i := Nat.le_trans (T.mono hd (j + 1) k hk1 (by omega)) hi1
          have hlt : i < (T.hp τ').length := Nat.lt_of_lt_of_le hi2 (T.mono hd (k + 1) τ' (by omega) t2)
          obtain ⟨o', g, ho', hg⟩ := DT.at_op hd k (by omega)
          have hg0 : g.cls ≠ 0 := fun h0 => by rw [(T.grow hd k (by omega)).2.2 g hg h0] at hi2; omega
          rw [if_neg (by rw [hun' k g hg hg0 (by omega)]; simp), List.getElem?_append_right hge, List.getElem?_replicate, if_pos (by omega)]
        · intro k hk
          have := i1.blk_lt hB k hk
          rw [i1.len] at this; exact this
      have hsame : ∀ {m' : Mem}, Ext m m' → (∀ (i : Nat) (p : Oper) (d : Nat), ops[i]? = some p → listed.getD i false = true → p.dst = some d → ∀ x, RelA m (T.val i) x → RelA m' (T.val i) x) ∧ (∀ t x, RelA m (lk t s0) x → RelA m' (lk t s0) x) :=
        fun e => ⟨fun i p d _ _ _ x hx => hx.mono e, fun t x hx => hx.mono e⟩
      unfold wpOp
      have hjo' : ops.toArray[j]? = some o := by simpa using hjo
      rw [hjo']
      simp only
      rcases T.step j o f hjo hjf0 with ⟨hw, hund, hpj⟩ | ⟨hw, hstep⟩
      · rw [← hws] at hw
        rw [if_neg (by rw [wantA_ok hrelL (by simpa using hw)]; simp)]
        have htop := hd.top j f hjf0
        by_cases hc2 : f.cls = 2
        · have hH := hfullZ hc2
          obtain ⟨m2, σ', τ', Hr', e2, i2, st2⟩ := newStage m w hc2 (by rw [hpj, ← hH]; exact hi)
          obtain ⟨rv, rs⟩ := hsame e2
          exact next m2 w undef σ' τ' Hr' i2 st2 (fun _ => by rw [hund]; exact .und) rv rs
        · have hst' : Stage T (listed.setIfInBounds j true) σ τ Hr := by
            by_cases hc0 : f.cls = 0
            · exact stay (.inl hc0)
            · exact stay (.inr ⟨hc2, hpj, hσj hc0, hjτ1 (by omega)⟩)
          obtain ⟨rv, rs⟩ := hsame (Ext.refl m)
          exact next m w undef σ τ Hr hi hst' (fun _ => by rw [hund]; exact .und) rv rs
      · rw [← hws] at hw
        rw [if_pos (wantA_ok hrelL (by simpa using hw))]
        refine .inl ?_
        have hlooks := hd.looks j o f hjo hjf0
        have hslf := hslp f.looks hlooks
        unfold dstep at hstep
        split at hstep
        · rename_i hc0
          unfold dS at hstep
          split at hstep
          · rename_i v hv
            split at hstep
            · simp only [Option.some.injEq, Prod.mk.injEq] at hstep
              obtain ⟨hv1, hv2⟩ := hstep
              have hsx : ∀ x, RelA m (ev (prune f.looks (T.pre j)) x) (a.eval x) := fun x => by
                cases x with
                | tmp t => exact hslf t
                | const v => exact konst_ok m v
                | global g => exact .any
                | func f => exact .t .fn
              have hrun : ∃ m' w' u, Ext m m' ∧ Inv c m' w' Hr ∧ RelA m' v u ∧ (execOp a.eval o).run P w = .ok (.value u) w' := by
                unfold dC at hv
                split at hv
                · exact sstep_ok (P := P) hX hi hsx hv
                · rename_i i0 r0 he0
                  split at hv
                  case isFalse => cases hv
                  rename_i hchk
                  simp only [Bool.and_eq_true] at hchk
                  obtain ⟨⟨k1, k2⟩, k3⟩ := hchk
                  have hj0 := T.mono hd 0 j (by omega) (by omega)
                  have hσ0 := T.mono hd 0 σ (by omega) (by have := hst.le; have := hst.top; omega)
                  have hτ0 := T.mono hd 0 τ (by omega) hst.top
                  rw [h00] at hj0 hσ0 hτ0
                  have hln : ((T.hp j).take H0.length).length = H0.length := by rw [List.length_take]; omega
                  refine (fun (q : ∃ u, RelA m v u ∧ (execOp a.eval o).run P w = .ok (.value u) w) => let ⟨u, r, run⟩ := q; ⟨m, w, u, .refl _, hi, r, run⟩ : _ → ∃ m' w' u, Ext m m' ∧ Inv c m' w' Hr ∧ RelA m' v u ∧ (execOp a.eval o).run P w = .ok (.value u) w') ?_
                  refine still_masked (P := P) hX.env hi (Hj := (T.hp j).take H0.length) (by rw [hln, hst.len]; exact hτ0) (by rw [hln]; exact hck) (V := i0 :: r0) (fun i hiV hlt => ⟨?_, viewOk_ok k3 i hiV⟩) hsx (fun x k hk => ?_) hv
                  · rw [hln] at hlt
                    have hall := T.stays hd i hlt (hd.st j f hjf0 hc0 i (by rw [he0]; exact hiV))
                    rw [hst.old i (by omega), hall τ hst.top, List.getElem?_take, if_pos hlt, hall j (by omega)]
                  · rw [hln]
                    cases x with
                    | tmp t =>
                      have h8 : ∀ (s : Slots), (slIdxs s).all (fun k => decide (k < H0.length)) = true → ∀ i, ∀ k ∈ (lk i s).idxs, k < H0.length := fun s h => slIdxs_lk (H := H0) h
                      exact h8 _ k1 t k hk
                    | const v =>
                      have h8 : (konst v).idxs = [] := by unfold konst; split <;> (try split) <;> rfl
                      rw [show ev (prune f.looks (T.pre j)) (.const v) = konst v from rfl, h8] at hk
                      simp at hk
                    | global g => simp [ev, AV.idxs] at hk
                    | func f => simp [ev, AV.idxs] at hk
              obtain ⟨m', w', u, e1, i1, r1, run⟩ := hrun
              unfold Oper.wp
              rw [run]
              obtain ⟨rv, rs⟩ := hsame e1
              exact next m' w' u σ τ Hr i1 (stay (.inl hc0)) (fun _ => by rw [← hv1]; exact r1) rv rs
            · cases hstep
          · cases hstep
        · rename_i hc0
          split at hstep
          · rename_i hc1
            unfold dA at hstep
            split at hstep
            case isFalse => cases hstep
            rename_i hchk
            simp only [Bool.and_eq_true] at hchk
            obtain ⟨⟨k1, k2⟩, k3⟩ := hchk
            split at hstep
            case h_2 => cases hstep
            rename_i v H' hg
            split at hstep
            case isFalse => cases hstep
            rename_i hpre
            split at hstep
            case isFalse => cases hstep
            rename_i hchk2
            simp only [Bool.and_eq_true] at hchk2
            obtain ⟨k4, k5⟩ := hchk2
            simp only [Option.some.injEq, Prod.mk.injEq] at hstep
            obtain ⟨hv1, hv2⟩ := hstep
            subst hv1
            -- the new blocks
            have hH' : H' = maskV (reach (T.hp j) 60 (slIdxs (prune f.looks (T.pre j))) []) 0 (T.hp j) ++ H'.drop (T.hp j).length := by
              rw [← hpre, List.take_append_drop]
            generalize hNw : H'.drop (T.hp j).length = Nw at *
            rw [hH'] at hg
            have hσ := hσj hc0
            have hτ := hjτ1 hc1
            have hstill : ∀ k g, σ ≤ k → k < τ → fs[k]? = some g → g.cls ≤ 1 := hst.still
            have hlen1 : (T.hp (j + 1)).length = (T.hp j).length + Nw.length := by rw [← hv2, List.length_append]
            have hroom : (T.hp j).length + Nw.length ≤ Hr.length := by
              rw [← hlen1, hst.len]; exact T.mono hd (j + 1) τ (by omega) hst.top
            have hn0 : H0.length ≤ (T.hp j).length := by have := T.mono hd 0 j (by omega) (by omega); rwa [h00] at this
            have hn0σ : H0.length ≤ (T.hp σ).length := by have := T.mono hd 0 σ (by omega) (by omega); rwa [h00] at this
            have hσle := T.mono hd σ j hσ (by omega)
            obtain ⟨Rj, hRj⟩ := T.prefix_ hd j τ hst.top (by omega) (fun k g h1 h2 h3 => hstill k g (by omega) h2 h3)
            obtain ⟨Rj1, hRj1⟩ := T.prefix_ hd (j + 1) τ hst.top (by omega) (fun k g h1 h2 h3 => hstill k g (by omega) h2 h3)
            -- blocks of operations that are surely ahead
            have hseen : ∀ i, posA H0.length ((List.range (j + 1)).map fun k => (T.hp k).length) f.anc i = true → i < (T.hp j).length → Hr[i]? = (T.hp j)[i]? := by
              intro i hpi hlt
              have hτj : (T.hp τ)[i]? = (T.hp j)[i]? := by rw [hRj, List.getElem?_append_left hlt]
              rcases Nat.lt_or_ge i (T.hp σ).length with h | h
              · rw [hst.old i h, hτj]
              · rcases T.posA_ok hd j hjlt f o hjo hjf0 hanclt hpi with h5 | ⟨k, hk, hkj, hk1, hk2⟩
                · omega
                · have hkσ : σ ≤ k := by
                    rcases Nat.lt_or_ge k σ with h6 | h6
                    · have := T.mono hd (k + 1) σ (by omega) (by omega); omega
                    · exact h6
                  rw [hst.new k i hkσ (by omega) hk1 hk2, if_pos (hanc k hk), hτj]
            -- no block, and no value, speaks of the new ones
            have hout : ∀ {jj : Nat} {ff : Info} {i : Nat}, jj < ops.length → fs[jj]? = some ff → listed.getD jj false = true →
                posV H0.length ((List.range (jj + 1)).map fun k => (T.hp k).length) ff.anc (T.hp jj).length (T.hp (jj + 1)).length i = true → ¬ ((T.hp j).length ≤ i ∧ i < (T.hp j).length + Nw.length) := by
              intro jj ff i hjj hff hl hp ⟨hh1, hh2⟩
              have hne : jj ≠ j := by rintro rfl; rw [hjf] at hl; cases hl
              have rng : ∀ k, k < ops.length → k ≠ j → (T.hp k).length ≤ i → i < (T.hp (k + 1)).length → False := by
                intro k hk hkj g1 g2
                rcases Nat.lt_or_ge k j with h | h
                · have := T.mono hd (k + 1) j (by omega) (by omega); omega
                · have := T.mono hd (j + 1) k (by omega) (by omega); omega
              simp only [posV, Bool.or_eq_true, Bool.and_eq_true, decide_eq_true_eq] at hp
              rcases hp with hp | hp
              · exact rng jj hjj hne hp.1 hp.2
              · obtain ⟨oo, hoo⟩ : ∃ oo, ops[jj]? = some oo := ⟨ops[jj], List.getElem?_eq_getElem hjj⟩
                have hal := anc_lt hd jj ff hff
                rcases T.posA_ok hd jj hjj ff oo hoo hff hal hp with h5 | ⟨k, hk, hkj, hk1, hk2⟩
                · omega
                · refine rng k (by omega) ?_ hk1 hk2
                  rintro rfl
                  have := hancl jj ff hff hl k hk
                  rw [hjf] at this; cases this
            have hment : ∀ (i : Nat) (B : Blk), Hr[i]? = some B → ∀ k ∈ blkIdxs B, ¬ ((T.hp j).length ≤ k ∧ k < (T.hp j).length + Nw.length) := by
              intro i B hB k hk
              have hiH := (List.getElem?_eq_some_iff.1 hB).1
              rw [hst.len] at hiH
              rcases Nat.lt_or_ge i (T.hp σ).length with h | h
              · obtain ⟨R, hR⟩ := T.prefix_ hd σ τ hst.top hst.le hstill
                rw [hst.old i h, hR, List.getElem?_append_left h] at hB
                have := hst.inn i B h hB k hk
                omega
              · obtain ⟨kk, q1, q2, q3, q4⟩ := T.owner hd σ τ hst.top hst.le i h hiH
                rw [hst.new kk i q1 q2 q3 q4] at hB
                split at hB
                · rename_i hkl
                  have hkklt : kk < ops.length := by have := hst.top; omega
                  obtain ⟨oo, ff, hoo, hff⟩ := DT.at_op hd kk hkklt
                  -- its making
                  have hne0 : ff.cls ≠ 0 := fun h0 => by rw [(T.grow hd kk hkklt).2.2 ff hff h0] at q4; omega
                  have hle1 := hstill kk ff q1 q2 hff
                  obtain ⟨R1, hR1⟩ := T.prefix_ hd (kk + 1) τ hst.top (by omega) (fun k g h1 h2 h3 => hstill k g (by omega) h2 h3)
                  rw [hR1, List.getElem?_append_left q4] at hB
                  rcases T.step kk oo ff hoo hff with ⟨_, _, he⟩ | ⟨_, hst2⟩
                  · rw [he] at q4; omega
                  · unfold dstep at hst2
                    rw [if_neg hne0, if_pos (by omega)] at hst2
                    unfold dA at hst2
                    split at hst2
                    case isFalse => cases hst2
                    split at hst2
                    case h_2 => cases hst2
                    rename_i v2 H2 hg2
                    split at hst2
                    case isFalse => cases hst2
                    rename_i hpre2
                    split at hst2
                    case isFalse => cases hst2
                    rename_i hc2
                    simp only [Bool.and_eq_true, List.all_eq_true] at hc2
                    simp only [Option.some.injEq, Prod.mk.injEq] at hst2
                    have hB2 := hB
                    rw [← hst2.2, List.getElem?_append_right q3] at hB2
                    have hpk := hc2.2 k (blksIdxs_get hB2 k hk)
                    rw [hst2.2] at hpk
                    exact hout hkklt hff hkl hpk
                · cases hB; simp [blkIdxs] at hk
            have hval : ∀ (i : Nat) (p : Oper), ops[i]? = some p → listed.getD i false = true → ∀ k ∈ (T.val i).idxs, ¬ ((T.hp j).length ≤ k ∧ k < (T.hp j).length + Nw.length) := by
              intro i p hip hli k hk
              have hilt := (List.getElem?_eq_some_iff.1 hip).1
              obtain ⟨_, ff, _, hff⟩ := DT.at_op hd i hilt
              refine hout hilt hff hli ?_
              rcases T.step i p ff hip hff with ⟨_, hu, _⟩ | ⟨_, hst2⟩
              · rw [hu] at hk; simp [AV.idxs] at hk
              · unfold dstep at hst2
                split at hst2
                · unfold dS at hst2
                  split at hst2
                  · split at hst2
                    · rename_i hc
                      simp only [Option.some.injEq, Prod.mk.injEq] at hst2
                      rw [← hst2.1] at hk
                      have := List.all_eq_true.1 hc k hk
                      simp only [posV, this, Bool.or_true]
                    · cases hst2
                  · cases hst2
                · split at hst2
                  · unfold dA at hst2
                    split at hst2
                    case isFalse => cases hst2
                    split at hst2
                    case h_2 => cases hst2
                    split at hst2
                    case isFalse => cases hst2
                    split at hst2
                    case isFalse => cases hst2
                    rename_i hc2
                    simp only [Bool.and_eq_true, List.all_eq_true] at hc2
                    simp only [Option.some.injEq, Prod.mk.injEq] at hst2
                    rw [← hst2.1] at hk
                    have := hc2.1 k hk
                    rw [hst2.2] at this
                    exact this
                  · unfold dZ at hst2
                    split at hst2
                    · split at hst2
                      · rename_i hc2
                        split at hst2
                        · simp only [Bool.and_eq_true, List.all_eq_true] at hc2
                          simp only [Option.some.injEq, Prod.mk.injEq] at hst2
                          rw [← hst2.1] at hk
                          have := hc2.1 k hk
                          rw [hst2.2] at this
                          exact this
                        · cases hst2
                      · cases hst2
                    · cases hst2
            refine gstep_masked hX hcl hi (Hj := T.hp j) (Nw := Nw) (by omega) (V := reach (T.hp j) 60 (slIdxs (prune f.looks (T.pre j))) []) (fun i hiV hlt => ⟨hseen i (List.all_eq_true.1 k2 i hiV) hlt, viewOk_ok k3 i hiV⟩) h1 h2 hslf (slIdxs_lk k1) hg hroom ?_ hment _ _ fun m2 w' u hM hn hη i1 r1 => ?_
            · intro i hi1 hi2
              rw [hst.new j i hσ hτ hi1 (by omega), if_neg (by rw [hjf]; simp)]
            · refine next m2 w' u σ τ _ i1 ?_ (fun _ => r1) (fun i p d hip hli _ x hx => hx.on hM fun k hk => ⟨by rw [hn]; exact hx.idxs_lt k hk, hη k (hval i p hip hli k hk)⟩)
                (fun t x hx => hx.on hM fun k hk => ⟨by rw [hn]; exact hx.idxs_lt k hk, hη k (by have := hs0 t k hk; omega)⟩)
              refine ⟨hst.le, hst.top, fun k g hg' hg0 hk => (hset k).2 (.inr (hst.done k g hg' hg0 hk)), fun k g hg' hg0 hk => ?_, hst.still, hst.next, by rw [over_len hroom]; exact hst.len, fun i hi' => ?_, fun k i hk1 hk2 hi1 hi2 => ?_, hst.inn⟩
              · rw [getD_set_ne false (show j ≠ k by omega)]; exact hst.todo k g hg' hg0 hk
              · rw [over_get hroom, if_neg (by omega)]; exact hst.old i hi'
              · rw [over_get hroom]
                by_cases hkj : k = j
                · subst hkj
                  rw [if_pos (by omega), if_pos ((hset k).2 (.inl rfl)), hRj1, List.getElem?_append_left hi2, ← hv2, List.getElem?_append_right hi1]
                · have : ¬ ((T.hp j).length ≤ i ∧ i < (T.hp j).length + Nw.length) := by
                    intro hrng
                    rcases Nat.lt_or_ge k j with h | h
                    · have := T.mono hd (k + 1) j (by omega) (by omega); omega
                    · have := T.mono hd (j + 1) k (by omega) (by have := hst.top; omega); omega
                  rw [if_neg this, hst.new k i hk1 hk2 hi1 hi2]
                  have : (listed.setIfInBounds j true).getD k false = listed.getD k false := getD_set_ne false (fun h => hkj h.symm)
                  rw [this]
          · rename_i hc1
            have hc2 : f.cls = 2 := by have := hd.top j f hjf0; omega
            have hH := hfullZ hc2
            unfold dZ at hstep
            split at hstep
            · rename_i v H' hg
              split at hstep
              · split at hstep
                · simp only [Option.some.injEq, Prod.mk.injEq] at hstep
                  obtain ⟨hv1, hv2⟩ := hstep
                  subst hv1; subst hv2
                  refine gstep_ok hX hcl (S := ⟨prune f.looks (T.pre j), T.hp j⟩) (by rw [← hH]; exact hi) ⟨h1, h2, hslf⟩ hg _ _ fun m' w' u e1 i1 r1 => ?_
                  obtain ⟨m2, σ', τ', Hr', e2, i2, st2⟩ := newStage m' w' hc2 i1
                  obtain ⟨rv, rs⟩ := hsame (e1.trans e2)
                  exact next m2 w' u σ' τ' Hr' i2 st2 (fun _ => r1.mono e2) rv rs
                · cases hstep
              · cases hstep
            · cases hstep

/-! ### The rule. -/

noncomputable def drunP (E : Env) (q : List TypeId) (gl : GCalls) (N : Nat) (keep : List Nat) (ops : List Oper) (fs : List Info) (S : AS) : Option AS :=
  match drun E q gl N ops S.H.length (ops.zip fs) [S.H.length] S.s S.H with
  | some S' => some ⟨prune keep S'.s, S'.H⟩
  | none => none

theorem AWP.gdraw {kp : Nat} (hX : XOk P E q) (hcl : GClOk P gl) (keep : List Nat) (hmix : P.follows .mixedOrders = true) {id : Nat} {l : List Oper} (fs : List Info) (hdep : dOk l fs = true) {Q : Exit → AS → Prop} {S S' : AS}
    (h : drunP E q gl N keep l fs S = some S') (hQ : Q .normal S') : AWP kp P N (.region id l.toArray true) Q S := by
  unfold drunP at h
  split at h
  case h_2 => cases h
  rename_i S1 hq
  cases h
  have hd := dOk_ok hdep
  obtain ⟨T⟩ := dt_of hd.len (sN := S1.s) (HN := S1.H) hq
  intro c hc m w a hi hs
  refine wp_region_any hmix ?_
  have hcount : countF (Array.replicate l.toArray.size false) = l.toArray.size := by simp [countF]
  have hfalse : ∀ k, (Array.replicate l.toArray.size false).getD k false = false := by
    intro k
    rw [Array.getD_eq_getD_getElem?, Array.getElem?_replicate]
    split <;> rfl
  obtain ⟨τ, t1, t2, t3, t4⟩ := next_turn fs l.length 0 (by omega)
  have hstill : ∀ k g, 0 ≤ k → k < τ → fs[k]? = some g → g.cls ≤ 1 := fun k g h1 h2 h3 => by
    have := hd.top k g h3; have := t3 k g h1 h2 h3; omega
  obtain ⟨R, hR⟩ := T.prefix_ hd 0 τ t2 t1 hstill
  have h00 : T.hp 0 = S.H := T.zero.2
  rw [h00] at hR
  obtain ⟨m2, e2, i2⟩ := hi.drawn.pad R.length
  have hck : c.k ≤ S.H.length := by
    rcases Nat.eq_zero_or_pos c.k with h0 | h0
    · omega
    · have := (hi.keep (c.k - 1) (by omega)).1; rw [hi.len] at this; omega
  refine d_order hX hcl hck T hd (fun t k hk => ?_) (fun m' w' a' h1 h2 => ⟨m', ⟨prune keep S1.s, S1.H⟩, h1, h2.prune keep, hQ⟩) _ _ a _ m2 0 τ _ (by simp) hcount ?_ i2 ?_ hs.1 hs.2.1 ?_ ?_
  · have := (hs.2.2 t).idxs_lt k hk
    rw [hi.len] at this; exact this
  · intro j o hj hl i _
    rw [hfalse] at hl; cases hl
  · refine ⟨t1, t2, fun k g _ _ hk => by omega, fun k g _ _ _ => hfalse k, hstill, t4, by rw [hR]; simp, fun i hi' => ?_, fun k i hk1 hk2 hi1 hi2 => ?_, fun i B hi' hB k hk => ?_⟩
    · rw [h00] at hi'
      rw [hR, List.getElem?_append_left hi', List.getElem?_append_left hi']
    · have g1 := T.mono hd 0 k (by omega) (by omega)
      have g2 := T.mono hd (k + 1) τ (by omega) t2
      rw [h00] at g1
      have g3 : (T.hp τ).length = S.H.length + R.length := by rw [hR]; simp
      rw [if_neg (by rw [hfalse]; simp), List.getElem?_append_right (by omega), List.getElem?_replicate, if_pos (by omega)]
    · rw [h00] at hB ⊢
      have := hi.blk_lt hB k hk
      rw [hi.len] at this; exact this
  · intro i o d hj hl _
    rw [hfalse] at hl; cases hl
  · intro t _
    exact (hs.2.2 t).mono e2

theorem AWP.gseqD {kp : Nat} (hX : XOk P E q) (hcl : GClOk P gl) (keep : List Nat) (hmix : P.follows .mixedOrders = true) {id : Nat} {l : List Oper} (fs : List Info) (hdep : dOk l fs = true) {y : Code} {Q : Exit → AS → Prop} {S S' : AS}
    (h : drunP E q gl N keep l fs S = some S') (hQ : AWP kp P N y Q S') : AWP kp P N (.seq (.region id l.toArray true) y) Q S :=
  AWP.seq (AWP.gdraw hX hcl keep hmix fs hdep h hQ)

end

end Go.Fw

end
