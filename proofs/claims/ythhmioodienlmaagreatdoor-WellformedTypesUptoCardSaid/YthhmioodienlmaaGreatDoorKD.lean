/- The abstract machine: maps. -/
import Derived.Test.YthhmioodienlmaaGreatDoorKC
import Derived.RangeFuncCalls
set_option linter.unusedSimpArgs false
set_option linter.unusedVariables false
namespace Go.Proofs.YthhmioodienlmaaGreatDoor
open Go

variable {P : Program} {G : List GI} {T : Tips} {K : Kmem} {w : World} {H H' : List HO}

/-- the kinds of keys that the abstract machine takes -/
inductive MapK where
  | str | int (k : IntKind) | strs (n : Nat) | no
  deriving DecidableEq

/-- a struct of strings alone -/
def strsF (P : Program) : Nat → List Field → Bool
  | _, [] => true
  | i, f :: fs => f.offset == i && f.name != "_" && (match P.underlying f.type with | some .string => true | _ => false) && strsF P (i + 1) fs
def strsK (P : Program) (k : TypeId) (fs : Array Field) : Bool := !(P.stoodInHeld k) && strsF P 0 fs.toList

def mapK (P : Program) (t : TypeId) : MapK :=
  match P.underlying t with
  | some (.map k _) => match P.underlying k with
    | some .string => .str
    | some (.int ik) => .int ik
    | some (.struct fs) => if strsK P k fs = true then .strs fs.size else .no
    | _ => .no
  | _ => .no

def MKey.isK : MapK → MKey → Bool
  | .str, .str _ => true
  | .int k, .int k' _ => decide (k = k')
  | .strs n, .strs l => decide (l.length = n)
  | _, _ => false

def strsOf : List AV → Option (List Str)
  | [] => some []
  | .d (.str s) :: l => match strsOf l with | some r => some (s :: r) | none => none
  | _ => none
def mkey : AV → Option MKey
  | .d (.str s) => some (.str s)
  | .d (.int k n) => some (.int k n)
  | .agg cs => match strsOf cs with | some l => some (.strs l) | none => none
  | _ => none

def mget (k : MKey) : List (MKey × AV) → Option AV
  | [] => none
  | (k', a) :: es => if k' = k then some a else mget k es
def mset (k : MKey) (v : AV) : List (MKey × AV) → List (MKey × AV)
  | [] => [(k, v)]
  | (k', a) :: es => if k' = k then (k, v) :: es else (k', a) :: mset k v es
def mdel (k : MKey) : List (MKey × AV) → List (MKey × AV)
  | [] => []
  | (k', a) :: es => if k' = k then es else (k', a) :: mdel k es
def mallK (mk : MapK) (es : List (MKey × AV)) : Bool := es.all fun e => e.1.isK mk

theorem strsOf_rel : ∀ {cs : List AV} {l : List Str} {vs : List Value}, strsOf cs = some l → RelAs G T K cs vs → vs = (l.map fun s => Value.string ⟨s.toArray⟩) ∧ ∀ s ∈ l, s.length ≤ lim
  | [], l, vs, h, r => by
    simp only [strsOf, Option.some.injEq] at h; subst h
    simp only [RelAs] at r; subst r
    exact ⟨rfl, fun s hs => by cases hs⟩
  | a :: cs, l, vs, h, r => by
    simp only [RelAs] at r
    obtain ⟨v, ws, rfl, r1, r2⟩ := r
    unfold strsOf at h
    split at h
    · rename_i e; cases e
    · rename_i s l' e
      cases e
      split at h
      · rename_i r' hr
        simp only [Option.some.injEq] at h; subst h
        obtain ⟨rfl, h2⟩ := strsOf_rel hr r2
        simp only [RelA, RelD] at r1
        refine ⟨by rw [r1.1]; rfl, fun x hx => ?_⟩
        rcases List.mem_cons.1 hx with rfl | hx
        · exact r1.2
        · exact h2 x hx
      · cases h
    · cases h

theorem mkey_rel {a : AV} {k : MKey} {v : Value} (h : mkey a = some k) (ha : RelA G T K a v) : keyRel k v := by
  unfold mkey at h
  split at h
  · cases h; simp only [RelA, RelD] at ha; simp only [keyRel]; exact ha
  · cases h; simp only [RelA, RelD] at ha; simp only [keyRel]; exact ha
  · split at h
    · rename_i l hl
      cases h
      simp only [RelA] at ha
      obtain ⟨vs, rfl, r⟩ := ha
      obtain ⟨h1, h2⟩ := strsOf_rel hl r
      simp only [keyRel]
      exact ⟨by rw [← h1], h2⟩
    · cases h
  · cases h

/-- what the type of keys is -/
def KeyD (P : Program) (kt : TypeId) (mk : MapK) : Prop :=
  (∃ d, P.underlying kt = some d ∧ ((mk = .str ∧ d = .string) ∨ ∃ ik, mk = .int ik ∧ d = .int ik)) ∨ ∃ fs, mk = .strs fs.size ∧ P.underlying kt = some (.struct fs) ∧ strsK P kt fs = true

/-- the description of a type of maps -/
theorem mapK_spec {t : TypeId} {mk : MapK} (h : mapK P t = mk) (hn : mk ≠ .no) : ∃ k e, P.underlying t = some (.map k e) ∧ KeyD P k mk := by
  unfold mapK at h
  split at h
  · rename_i k e hu
    split at h
    · rename_i hk; exact ⟨k, e, hu, .inl ⟨_, hk, .inl ⟨h.symm, rfl⟩⟩⟩
    · rename_i ik hk; exact ⟨k, e, hu, .inl ⟨_, hk, .inr ⟨ik, h.symm, rfl⟩⟩⟩
    · rename_i fs hk
      split at h
      · rename_i hs; exact ⟨k, e, hu, .inr ⟨fs, h.symm, hk, hs⟩⟩
      · exact absurd h.symm hn
    · exact absurd h.symm hn
  · exact absurd h.symm hn

theorem sameNow_spec {mk : MapK} {d : TypeDesc} (hd : (mk = .str ∧ d = .string) ∨ ∃ ik, mk = .int ik ∧ d = .int ik) {k k' : MKey} {v v' : Value} (h1 : k.isK mk = true) (h2 : k'.isK mk = true) (r1 : keyRel k v) (r2 : keyRel k' v') :
    Instr.sameNow d v v' = some (decide (k' = k)) := by
  rcases hd with ⟨rfl, rfl⟩ | ⟨ik, rfl, rfl⟩
  · cases k <;> cases k' <;> simp only [MKey.isK] at h1 h2 <;> first | (cases h2; done) | (cases h1; done) | skip
    simp only [keyRel] at r1 r2
    obtain ⟨rfl, _⟩ := r1
    obtain ⟨rfl, _⟩ := r2
    rename_i s s' _ _
    simp only [Instr.sameNow, beq_toListBytes, ByteArray.toList_mk, MKey.str.injEq]
    congr 1
    by_cases h : s' = s
    · subst h; simp
    · have : ¬ s = s' := fun e => h e.symm
      simp [h, this]
  · cases k <;> cases k' <;> simp only [MKey.isK] at h1 h2 <;> first | (cases h2; done) | (cases h1; done) | skip
    simp only [decide_eq_true_eq] at h1 h2
    subst h1; subst h2
    simp only [keyRel] at r1 r2
    subst r1; subst r2
    rename_i n n'
    simp only [Instr.sameNow, if_true, MKey.int.injEq, true_and]
    congr 1
    by_cases h : n' = n
    · subst h; simp
    · have : ¬ n = n' := fun e => h e.symm
      simp [h, this]

theorem findNow_spec {mk : MapK} {d : TypeDesc} (hd : (mk = .str ∧ d = .string) ∨ ∃ ik, mk = .int ik ∧ d = .int ik) {k : MKey} {kv : Value} (h1 : k.isK mk = true) (r1 : keyRel k kv) :
    ∀ {es : List (MKey × AV)} {bs : List Nat} {ms : List MapEntry} (i : Nat), MapRel G T K es bs ms → mallK mk es = true →
      (mget k es = none ∧ Instr.findNow d kv ms i = some none) ∨ ∃ j a m, mget k es = some a ∧ ms[j]? = some m ∧ RelA G T K a m.val ∧ keyRel k m.key ∧ Instr.findNow d kv ms i = some (some (i + j, m.val)) ∧
        (∀ v kv' vv, keyRel k kv' → RelA G T K v vv → MapRel G T K (mset k v es) bs (ms.modify j fun e => { e with key := kv', val := vv })) ∧ (mset k a es).length = es.length ∧ MapRel G T K (mdel k es) (bs.eraseIdx j) (ms.eraseIdx j) ∧ j < ms.length
  | [], bs, ms, i, hr, _ => by
    simp only [MapRel] at hr
    obtain ⟨rfl, rfl⟩ := hr
    exact .inl ⟨rfl, rfl⟩
  | (k', a) :: es, bs, ms, i, hr, hk => by
    simp only [MapRel] at hr
    obtain ⟨b, bs', m, ms', rfl, rfl, e1, e2, e3, e4⟩ := hr
    simp only [mallK, List.all_cons, Bool.and_eq_true] at hk
    have hs := sameNow_spec hd h1 hk.1 r1 e2
    by_cases hkk : k' = k
    · subst hkk
      refine .inr ⟨0, a, m, by simp [mget], rfl, e3, e2, ?_, ?_, by simp [mset], ?_, by simp⟩
      · simp only [Instr.findNow, hs, decide_true]
        rfl
      · intro v kv' vv hkv hv
        simp only [mset, if_true, List.modify_zero_cons, MapRel]
        exact ⟨b, bs', _, ms', rfl, rfl, e1, hkv, hv, e4⟩
      · simpa [mdel] using e4
    · rcases findNow_spec hd h1 r1 (i + 1) e4 hk.2 with ⟨g1, g2⟩ | ⟨j, a', m', g1, g2, g3, g4, g5, g6, g7, g8, g9⟩
      · refine .inl ⟨by simp [mget, hkk, g1], ?_⟩
        simp only [Instr.findNow, hs, hkk, decide_false]
        exact g2
      · refine .inr ⟨j + 1, a', m', by simp [mget, hkk, g1], by simpa using g2, g3, g4, ?_, ?_, by simp [mset, hkk, g7], ?_, by simpa using g9⟩
        · simp only [Instr.findNow, hs, hkk, decide_false]
          rw [g5]; congr 3; omega
        · intro v kv' vv hkv hv
          simp only [mset, hkk, if_false, List.modify_succ_cons, MapRel]
          exact ⟨b, bs', m, _, rfl, rfl, e1, e2, e3, g6 v kv' vv hkv hv⟩
        · simp only [mdel, hkk, if_false, List.eraseIdx_cons_succ, MapRel]
          exact ⟨b, _, m, _, rfl, rfl, e1, e2, e3, g8⟩

theorem run_part_str {t : TypeId} (ht : P.underlying t = some .string) {cs : Array Value} {o : Nat} {v : Value} (hv : cs[o]? = some v) : (part t cs o).run P w = .ok v w := by
  unfold part
  have hr : isRowT P t = false := by unfold isRowT; rw [ht]
  rw [Sem.run_bind, run_isAgg ht, hr]
  simp [hv]

theorem check_key {mk : MapK} {kt : TypeId} (hd : KeyD P kt mk) {k : MKey} {kv : Value} (h1 : k.isK mk = true) (r1 : keyRel k kv) (e : Bool) (n : Nat) :
    (Instr.checkKey e (n + 1 + 1) kt kv).run P w = .ok () w := by
  rcases hd with ⟨d, hu, ⟨rfl, rfl⟩ | ⟨ik, rfl, rfl⟩⟩ | ⟨fs, rfl, hu, hs⟩
  · simp [Instr.checkKey, run_under hu]
  · simp [Instr.checkKey, run_under hu]
  · cases k <;> simp only [MKey.isK] at h1 <;> try (cases h1; done)
    rename_i l
    simp only [decide_eq_true_eq] at h1
    simp only [keyRel] at r1
    obtain ⟨rfl, _⟩ := r1
    simp only [strsK, Bool.and_eq_true] at hs
    have hc : ∀ (j : Nat) (s : Str), l[j]? = some s → (l.map fun s => Value.string ⟨s.toArray⟩).toArray[0 + j]? = some (.string ⟨s.toArray⟩) := fun j s hj => by simp [hj]
    have hl : l.length = fs.toList.length := by simpa using h1
    have hF := hs.2
    unfold Instr.checkKey
    simp only [Sem.run_bind, run_under hu, Result.andThen_ok]
    rw [← Array.forIn_toList]
    generalize (l.map fun s => Value.string ⟨s.toArray⟩).toArray = cs at hc ⊢
    generalize fs.toList = fl at hl hF ⊢
    clear h1 hs hu
    generalize 0 = i at hc hF
    induction fl generalizing i l with
    | nil => simp
    | cons f fl ih =>
      simp only [strsF, Bool.and_eq_true, beq_iff_eq] at hF
      obtain ⟨⟨⟨h1, h2⟩, h3⟩, h4⟩ := hF
      have hu : P.underlying f.type = some .string := by
        split at h3
        · assumption
        · cases h3
      have hne : f.name ≠ "_" := by simpa using h2
      cases l with
      | nil => simp at hl
      | cons s l =>
        have h0 := hc 0 s rfl
        rw [Nat.add_zero] at h0
        have hck : (Instr.checkKey e (n + 1) f.type (.string ⟨s.toArray⟩)).run P w = .ok () w := by simp [Instr.checkKey, run_under hu]
        rw [List.forIn_cons]
        simp only [hne, ne_eq, not_false_eq_true, if_true, Sem.run_bind, h1, run_part_str hu h0, Result.andThen_ok, hck, Sem.run_pure]
        refine ih (l := l) (i := i + 1) ?_ ?_ ?_ ?_ <;> first | exact h4 | (intro s' hs'; rename_i hlen; exact hlen s' (List.mem_cons_of_mem _ hs')) | (simpa using hl) | exact (fun j s' hs' => by have := hc (j + 1) s' (by simpa using hs'); rwa [show i + 1 + j = i + (j + 1) by omega]) | skip

theorem eq_fields {d : Nat} : ∀ {fs : List Field} {i : Nat} {xs ys : Array Value} {l l' : List Str}, strsF P i fs = true → (∀ j s, l[j]? = some s → xs[i + j]? = some (.string ⟨s.toArray⟩)) → (∀ j s, l'[j]? = some s → ys[i + j]? = some (.string ⟨s.toArray⟩)) →
    l.length = fs.length → l'.length = fs.length → (Op.eqFields (d + 1) xs ys fs).run P w = .ok (decide (l' = l)) w
  | [], i, xs, ys, l, l', h, hx, hy, hl, hl' => by
    have : l = [] := List.eq_nil_of_length_eq_zero (by simpa using hl)
    have : l' = [] := List.eq_nil_of_length_eq_zero (by simpa using hl')
    subst l; subst l'
    simp [Op.eqFields]
  | f :: fs, i, xs, ys, l, l', h, hx, hy, hl, hl' => by
    simp only [strsF, Bool.and_eq_true, beq_iff_eq] at h
    obtain ⟨⟨⟨h1, h2⟩, h3⟩, h4⟩ := h
    have hu : P.underlying f.type = some .string := by
      split at h3
      · assumption
      · cases h3
    have hne : f.name ≠ "_" := by simpa using h2
    cases l with
    | nil => simp at hl
    | cons s l =>
      cases l' with
      | nil => simp at hl'
      | cons s' l' =>
        have h0 := hx 0 s rfl
        have h0' := hy 0 s' rfl
        rw [Nat.add_zero] at h0 h0'
        have ih := eq_fields (d := d) (i := i + 1) (xs := xs) (ys := ys) (l := l) (l' := l') h4 (fun j x hj => by have := hx (j + 1) x (by simpa using hj); rwa [show i + 1 + j = i + (j + 1) by omega])
          (fun j x hj => by have := hy (j + 1) x (by simpa using hj); rwa [show i + 1 + j = i + (j + 1) by omega]) (by simpa using hl) (by simpa using hl')
        simp only [Op.eqFields]
        rw [if_pos hne]
        simp only [Sem.run_bind, h1, run_part_str hu h0, run_part_str hu h0', Result.andThen_ok, run_equalIn_string w d f.type _ _ hu]
        by_cases hs : s' = s
        · subst hs
          simp only [beq_self_eq_true, if_true, List.cons.injEq, true_and]
          exact ih
        · have hb : ((⟨s.toArray⟩ : ByteArray).toList == (⟨s'.toArray⟩ : ByteArray).toList) = false := by
            simp only [ByteArray.toList_mk, beq_eq_false_iff_ne, ne_eq]
            exact fun e => hs e.symm
          rw [hb]
          simp [hs]

theorem eq_key {kt : TypeId} {fs : Array Field} (hu : P.underlying kt = some (.struct fs)) (hs : strsK P kt fs = true) {l l' : List Str} {v v' : Value} (h1 : l.length = fs.size) (h2 : l'.length = fs.size) (r1 : keyRel (.strs l) v) (r2 : keyRel (.strs l') v') :
    (Op.equal kt v v').run P w = .ok (decide (l' = l)) w := by
  simp only [keyRel] at r1 r2
  obtain ⟨rfl, _⟩ := r1
  obtain ⟨rfl, _⟩ := r2
  simp only [strsK, Bool.and_eq_true, Bool.not_eq_true'] at hs
  have hf : P.fieldsOf kt = fs := by unfold Program.fieldsOf; rw [hu]
  have := run_equalIn_struct (P := P) w 9999 kt (l.map fun s => Value.string ⟨s.toArray⟩).toArray (l'.map fun s => Value.string ⟨s.toArray⟩).toArray (by rw [hf]; exact hu) hs.1
  rw [hf] at this
  have h3 : Op.equal kt (.agg (l.map fun s => Value.string ⟨s.toArray⟩).toArray) (.agg (l'.map fun s => Value.string ⟨s.toArray⟩).toArray) = Op.equalIn (9999 + 1) kt (.agg (l.map fun s => Value.string ⟨s.toArray⟩).toArray) (.agg (l'.map fun s => Value.string ⟨s.toArray⟩).toArray) := rfl
  rw [h3, this]
  exact eq_fields (d := 9998) (i := 0) hs.2 (fun j s hj => by simp [hj]) (fun j s hj => by simp [hj]) (by simpa using h1) (by simpa using h2)

theorem findAsk_spec {kt : TypeId} {fs : Array Field} (hu : P.underlying kt = some (.struct fs)) (hs : strsK P kt fs = true) {k : MKey} {kv : Value} (h1 : k.isK (.strs fs.size) = true) (r1 : keyRel k kv) :
    ∀ {es : List (MKey × AV)} {bs : List Nat} {ms : List MapEntry} (i : Nat), MapRel G T K es bs ms → mallK (.strs fs.size) es = true →
      (mget k es = none ∧ (Instr.findAsking kt kv ms i).run P w = .ok none w) ∨ ∃ j a m, mget k es = some a ∧ ms[j]? = some m ∧ RelA G T K a m.val ∧ keyRel k m.key ∧ (Instr.findAsking kt kv ms i).run P w = .ok (some (i + j, m.val)) w ∧
        (∀ v kv' vv, keyRel k kv' → RelA G T K v vv → MapRel G T K (mset k v es) bs (ms.modify j fun e => { e with key := kv', val := vv })) ∧ (mset k a es).length = es.length ∧ MapRel G T K (mdel k es) (bs.eraseIdx j) (ms.eraseIdx j) ∧ j < ms.length
  | [], bs, ms, i, hr, _ => by
    simp only [MapRel] at hr
    obtain ⟨rfl, rfl⟩ := hr
    exact .inl ⟨rfl, by simp [Instr.findAsking]⟩
  | (k', a) :: es, bs, ms, i, hr, hk => by
    simp only [MapRel] at hr
    obtain ⟨b, bs', m, ms', rfl, rfl, e1, e2, e3, e4⟩ := hr
    simp only [mallK, List.all_cons, Bool.and_eq_true] at hk
    obtain ⟨l, rfl⟩ : ∃ l, k = .strs l := by cases k <;> simp [MKey.isK] at h1 ⊢
    obtain ⟨l', rfl⟩ : ∃ l, k' = .strs l := by have := hk.1; cases k' <;> simp [MKey.isK] at this ⊢
    have hq := eq_key (w := w) hu hs (of_decide_eq_true h1) (of_decide_eq_true hk.1) r1 e2
    by_cases hkk : l' = l
    · subst hkk
      refine .inr ⟨0, a, m, by simp [mget], rfl, e3, e2, ?_, ?_, by simp [mset], ?_, by simp⟩
      · simp only [Instr.findAsking, Sem.run_bind, hq, decide_true, Result.andThen_ok, if_true, Sem.run_pure, Nat.add_zero]
      · intro v kv' vv hkv hv
        simp only [mset, if_true, List.modify_zero_cons, MapRel]
        exact ⟨b, bs', _, ms', rfl, rfl, e1, hkv, hv, e4⟩
      · simpa [mdel] using e4
    · have hkk' : ¬ MKey.strs l' = MKey.strs l := fun e => hkk (by cases e; rfl)
      rcases findAsk_spec hu hs h1 r1 (i + 1) e4 hk.2 with ⟨g1, g2⟩ | ⟨j, a', m', g1, g2, g3, g4, g5, g6, g7, g8, g9⟩
      · refine .inl ⟨by simp [mget, hkk', g1], ?_⟩
        simp only [Instr.findAsking, Sem.run_bind, hq, hkk, decide_false, Result.andThen_ok, Bool.false_eq_true, if_false]
        exact g2
      · refine .inr ⟨j + 1, a', m', by simp [mget, hkk', g1], by simpa using g2, g3, g4, ?_, ?_, by simp [mset, hkk', g7], ?_, by simpa using g9⟩
        · simp only [Instr.findAsking, Sem.run_bind, hq, hkk, decide_false, Result.andThen_ok, Bool.false_eq_true, if_false]
          rw [g5, show i + 1 + j = i + (j + 1) by omega]
        · intro v kv' vv hkv hv
          simp only [mset, hkk', if_false, List.modify_succ_cons, MapRel]
          exact ⟨b, bs', m, _, rfl, rfl, e1, e2, e3, g6 v kv' vv hkv hv⟩
        · simp only [mdel, hkk', if_false, List.eraseIdx_cons_succ, MapRel]
          exact ⟨b, _, m, _, rfl, rfl, e1, e2, e3, g8⟩

theorem run_find {kt : TypeId} {d : TypeDesc} (hu : P.underlying kt = some d) {kv : Value} {ms : List MapEntry} {r : Option (Nat × Value)} (h : Instr.findNow d kv ms 0 = some r) : (Instr.findKey kt kv ms).run P w = .ok r w := by
  simp [Instr.findKey, run_under hu, h]

theorem find_nil {mk : MapK} {kt : TypeId} (hd : KeyD P kt mk) {kv : Value} : (Instr.findKey kt kv []).run P w = .ok none w := by
  rcases hd with ⟨d, hu, _⟩ | ⟨fs, _, hu, _⟩
  · exact run_find hu rfl
  · exact run_find hu rfl

theorem find_spec {mk : MapK} {kt : TypeId} (hd : KeyD P kt mk) {k : MKey} {kv : Value} (h1 : k.isK mk = true) (r1 : keyRel k kv) {es : List (MKey × AV)} {bs : List Nat} {ms : List MapEntry} (hr : MapRel G T K es bs ms) (hall : mallK mk es = true) :
    (mget k es = none ∧ (Instr.findKey kt kv ms).run P w = .ok none w) ∨ ∃ j a m, mget k es = some a ∧ ms[j]? = some m ∧ RelA G T K a m.val ∧ keyRel k m.key ∧ (Instr.findKey kt kv ms).run P w = .ok (some (0 + j, m.val)) w ∧
        (∀ v kv' vv, keyRel k kv' → RelA G T K v vv → MapRel G T K (mset k v es) bs (ms.modify j fun e => { e with key := kv', val := vv })) ∧ (mset k a es).length = es.length ∧ MapRel G T K (mdel k es) (bs.eraseIdx j) (ms.eraseIdx j) ∧ j < ms.length := by
  rcases hd with ⟨d, hu, hd⟩ | ⟨fs, rfl, hu, hs⟩
  · rcases findNow_spec hd h1 r1 0 hr hall with ⟨f1, f2⟩ | ⟨j, a, m, f1, f2, f3, f4, f5, f6⟩
    · exact .inl ⟨f1, run_find hu f2⟩
    · exact .inr ⟨j, a, m, f1, f2, f3, f4, run_find hu f5, f6⟩
  · cases es with
    | nil =>
      simp only [MapRel] at hr
      obtain ⟨rfl, rfl⟩ := hr
      exact .inl ⟨rfl, run_find hu rfl⟩
    | cons x es =>
      obtain ⟨k', a⟩ := x
      have hr0 := hr
      simp only [MapRel] at hr0
      obtain ⟨b, bs', m, ms', rfl, rfl, _⟩ := hr0
      have hn : Instr.findNow (.struct fs) kv (m :: ms') 0 = none := by simp [Instr.findNow, Instr.sameNow]
      have hk : (Instr.findKey kt kv (m :: ms')).run P w = (Instr.findAsking kt kv (m :: ms')).run P w := by
        simp [Instr.findKey, run_under hu, hn]
      rw [hk]
      exact findAsk_spec hu hs h1 r1 0 hr hall

def oMakeMap (H : List HO) : Res := some (.map H.length, H ++ [.map 0 []])

theorem oMakeMap_sound (hI : Inv G K w H) {t : TypeId} {x : AV} (h : oMakeMap H = some (x, H')) :
    ∃ y w' G', (Instr.makeMap t none).run P w = .ok y w' ∧ RelA G' (tipsOf H') K x y ∧ Inv G' K w' H' ∧ Post G.length G (tipsOf H) K w G' (tipsOf H') K w' := by
  simp only [oMakeMap, Option.some.injEq, Prod.mk.injEq] at h
  obtain ⟨rfl, rfl⟩ := h
  obtain ⟨j1, j2⟩ := hI.new (w' := w.alloc (.map #[] 0)) (o := .map #[] 0) rfl ⟨rfl, rfl, rfl⟩ (.map 0 []) (.map w.heap.size []) (by simp [GI.blocks]) (by
    simp only [ObjRel]
    exact ⟨⟨#[], heap_push_eq rfl, by simp [MapRel]⟩, by simp, by simp⟩) (fun m ck es todo cur it snap ck' es' b bs e => by cases e) (by
      intro ck es e i ck' es' todo cur hi
      have hil : i < G.length := by rw [hI.len]; exact (List.getElem?_eq_some_iff.1 hi).1
      have ho := hI.obj i _ G[i] hi (List.getElem?_eq_getElem hil)
      cases e : G[i] <;> rw [e] at ho <;> simp only [ObjRel] at ho
      obtain ⟨b, bs, seen, last, _, hg, _⟩ := ho
      have : G[H.length]? = none := by rw [List.getElem?_eq_none]; rw [hI.len]; exact Nat.le_refl _
      rw [this] at hg
      rcases hg with hg | hg <;> cases hg)
  refine ⟨.map (some w.heap.size), _, _, ?_, ?_, j1, j2⟩
  · simp [Instr.makeMap]
  · simp only [RelA]
    exact ⟨.map w.heap.size [], by rw [← hI.len]; simp, rfl, .inr ⟨_, _, rfl, rfl⟩⟩

/-- the value of a key that is not there -/
def zval (te : TInf) : Option AV := AV.ofCells te.agg (te.zero.map .d)

def oLookup (mk : MapK) (te : Option TInf) (ok : Bool) (m k : AV) (H : List HO) : Res :=
  match te, mkey k with
  | some e, some kk =>
    match zval e with
    | some z =>
      if kk.isK mk = true ∧ mk ≠ .no then
        match m with
        | .map id => match H[id]? with
          | some (.map _ es) => if mallK mk es = true then some (if ok then .tup [(mget kk es).getD z, .d (.bool (mget kk es).isSome)] else (mget kk es).getD z, H) else none
          | _ => none
        | .d (.con (.map none)) => some (if ok then .tup [z, .d (.bool false)] else z, H)
        | _ => none
      else none
    | none => none
  | _, _ => none

theorem getObj_run {b ck : Nat} {ms : Array MapEntry} (h : w.heap[b]? = some (.map ms ck)) : (getObj b).run P w = .ok (.map ms ck) w := by
  simp only [getObj, Sem.run, h]
theorem setObj_run {b ck : Nat} {ms : Array MapEntry} (h : w.heap[b]? = some (.map ms ck)) (o : Obj) : (setObj b o).run P w = .ok () { w with heap := w.heap.setIfInBounds b o } := by
  simp [setObj, Sem.run, h]

theorem zval_run {e : TypeId} {te : TInf} {z : AV} (ht : tinfo P e = some te) (hz : zval te = some z) : ∃ v, (zeroValue e).run P w = .ok v w ∧ RelA G T K z v := by
  obtain ⟨i, d, v, h1, h2, h3, h4, rfl⟩ := tinfo_spec ht
  refine ⟨v, by simp [zeroValue, typeInfo, h1, h3], ?_⟩
  obtain ⟨r1, r2⟩ := tinfo_row ht h1 h3
  have hall : ∀ c ∈ v.cells.toList, c.oneCell' = true := fun c hc => (Array.all_eq_true_iff_forall_mem.1 h4.1) c (by simpa using hc)
  have hzr : RelAs G T K ((v.cells.toList.map absD).map .d) v.cells.toList := absDs_rel hall
  obtain ⟨y, hy, k1, k2⟩ := ofCells_rel hzr (by simpa only [zval, mkTI] using hz)
  cases hr : isRowT P e with
  | true =>
    obtain ⟨cs, rfl⟩ := r1 hr
    have := k1 hr
    simp only [Value.cells] at this
    rw [this] at hy
    exact hy
  | false =>
    have hl := k2 hr
    have hc : v.cells = #[v] := by
      cases v <;> first | rfl | exact absurd rfl (r2 hr _)
    rw [hc] at hl
    simp at hl
    rw [hl]; exact hy

theorem oLookup_sound (hI : Inv G K w H) {t : TypeId} {ok : Bool} {e : TypeId} {kt : TypeId} (hu : P.underlying t = some (.map kt e)) {m k x : AV} {vm vk : Value} (hm : RelA G (tipsOf H) K m vm) (hk : RelA G (tipsOf H) K k vk)
    (h : oLookup (mapK P t) (tinfo P e) ok m k H = some (x, H')) : H' = H ∧ ∃ y, (Instr.lookup t vm vk ok).run P w = .ok y w ∧ RelA G (tipsOf H) K x y := by
  unfold oLookup at h
  split at h
  · rename_i te kk hte hkk
    split at h
    · rename_i z hz
      split at h
      · rename_i hc
        obtain ⟨hc1, hc2⟩ := hc
        obtain ⟨k', e', g1, g3⟩ := mapK_spec rfl hc2
        rw [hu] at g1; cases g1
        have hkr := mkey_rel hkk hk
        obtain ⟨zv, hzv, hzr⟩ := zval_run (G := G) (T := tipsOf H) (K := K) (w := w) hte hz
        split at h
        · rename_i id
          split at h
          · rename_i ck es hH
            split at h
            · rename_i hall
              simp only [Option.some.injEq, Prod.mk.injEq] at h
              obtain ⟨rfl, rfl⟩ := h
              obtain ⟨b, bs, ms, q1, q2, q3, _⟩ := hI.map hH
              obtain rfl := hm.map_map q1
              have hck := fun e => check_key (w := w) g3 hc1 hkr e 9998
              refine ⟨rfl, ?_⟩
              rcases find_spec (w := w) g3 hc1 hkr q3 hall with ⟨f1, f2⟩ | ⟨j, a, m', f1, f2, f3, f4, f5, _⟩
              · rw [f1]
                refine ⟨if ok then .tuple #[zv, .bool false] else zv, ?_, ?_⟩
                · unfold Instr.lookup
                  simp only [Sem.run_bind, run_under hu, Result.andThen_ok, getObj_run q2, Sem.run_pure, hck, f2, hzv]
                · cases ok
                  · exact hzr
                  · simp only [if_true, RelA]
                    exact ⟨_, rfl, RelAs.cons hzr (RelAs.cons (by simp only [RelA, RelD]; rfl) RelAs.nil)⟩
              · rw [f1]
                refine ⟨if ok then .tuple #[m'.val, .bool true] else m'.val, ?_, ?_⟩
                · unfold Instr.lookup
                  simp only [Sem.run_bind, run_under hu, Result.andThen_ok, getObj_run q2, Sem.run_pure, hck, f5]
                · cases ok
                  · exact f3
                  · simp only [if_true, RelA]
                    exact ⟨_, rfl, RelAs.cons f3 (RelAs.cons (by simp only [RelA, RelD]; rfl) RelAs.nil)⟩
            · cases h
          · cases h
        · simp only [Option.some.injEq, Prod.mk.injEq] at h
          obtain ⟨rfl, rfl⟩ := h
          simp only [RelA, RelD] at hm
          obtain ⟨rfl, _⟩ := hm
          have hck := fun e => check_key (w := w) g3 hc1 hkr e 9998
          refine ⟨rfl, if ok then .tuple #[zv, .bool false] else zv, ?_, ?_⟩
          · unfold Instr.lookup
            simp only [Sem.run_bind, run_under hu, Result.andThen_ok, Sem.run_pure, hck, find_nil g3, hzv]
          · cases ok
            · exact hzr
            · simp only [if_true, RelA]
              exact ⟨_, rfl, RelAs.cons hzr (RelAs.cons (by simp only [RelA, RelD]) RelAs.nil)⟩
        · cases h
      · cases h
    · cases h
  · cases h

/-- a map changed in its place -/
theorem Inv.setMap (hI : Inv G K w H) {id ck ck' : Nat} {es es' : List (MKey × AV)} {b : Nat} {bs bs' : List Nat} {ms ms' : Array MapEntry} (hH : H[id]? = some (.map ck es)) (hG : G[id]? = some (.map b bs)) (hb : w.heap[b]? = some (.map ms ck))
    (hr : MapRel G (tipsOf H) K es' bs' ms'.toList) (hn : bs'.Nodup) (hlt : ∀ x ∈ bs', x < ck') (hck : ck ≤ ck') (hw : ck' = ck → es'.length ≤ es.length ∧ (es'.length = es.length → bs' = bs)) :
    Inv (G.set id (.map b bs')) K { w with heap := w.heap.setIfInBounds b (.map ms' ck') } (H.set id (.map ck' es')) ∧
      Post G.length G (tipsOf H) K w (G.set id (.map b bs')) (tipsOf (H.set id (.map ck' es'))) K { w with heap := w.heap.setIfInBounds b (.map ms' ck') } := by
  have hbl : b < w.heap.size := (Array.getElem?_eq_some_iff.1 hb).1
  have htips : tipsOf (H.set id (.map ck' es')) = tipsOf H := tipsOf_set_notTip hH rfl rfl
  have hil : id < G.length := (List.getElem?_eq_some_iff.1 hG).1
  have hKb : ∀ p v, K b p = some v → False := fun p v hk => by
    have := hI.agree b p v hk
    unfold World.cell? at this
    rw [hb] at this; simp at this
  have hevo : Evo G.length G (tipsOf H) (G.set id (.map b bs')) (tipsOf H) := fun i hi x hx => by
    by_cases e : id = i
    · subst e
      rw [hG] at hx; cases hx
      exact ⟨.map b bs', by rw [List.getElem?_set_self hil], .inr ⟨bs', rfl⟩⟩
    · exact ⟨x, by rw [List.getElem?_set_ne e, hx], evo1.refl _ _⟩
  refine hI.change id hG hH (by simp) (fun b' hb' hn => ?_) ⟨rfl, rfl, rfl⟩ (fun x hx => .inl hx) (Kle.refl K) (fun b' p v h1 h2 => by rw [h1] at h2; cases h2) (fun b' p v hk => ?_) (.inr ⟨bs', rfl⟩) ?_ ?_
  · exact Array.getElem?_setIfInBounds_ne (fun e => hn (by simp [GI.blocks, e]))
  · have hne : b ≠ b' := fun e => by subst e; exact hKb p v hk
    rw [← hI.agree b' p v hk]
    exact cell_same (Array.getElem?_setIfInBounds_ne hne)
  · simp only [ObjRel]
    refine ⟨⟨ms', by simp [hbl], ?_⟩, hn, hlt⟩
    rw [htips]
    exact MapRel.conv (fun x _ v r => r.evo (Kle.refl K) hevo) hr
  · intro i m ckI esI todo cur it snap ckm esm bm bsm k1 k2 k3 k4
    have hilH : id < H.length := (List.getElem?_eq_some_iff.1 hH).1
    have hi : id ≠ i := fun e => by
      subst e
      rw [List.getElem?_set_self hilH] at k1; cases k1
    rw [List.getElem?_set_ne hi] at k1 k2
    by_cases hm : id = m
    · subst hm
      rw [List.getElem?_set_self hilH] at k3; cases k3
      rw [List.getElem?_set_self hil] at k4; cases k4
      obtain ⟨w1, w2⟩ := hI.walks i id ckI esI todo cur it snap ck es b bs k1 k2 hH hG
      refine ⟨by omega, fun e => ?_⟩
      have hce : ck' = ck := by omega
      obtain ⟨v1, v2⟩ := hw hce
      obtain ⟨w3, w4⟩ := w2 (by omega)
      exact ⟨by omega, fun e2 => by rw [v2 (by omega)]; exact w4 (by omega)⟩
    · rw [List.getElem?_set_ne hm] at k3 k4
      exact hI.walks i m ckI esI todo cur it snap ckm esm bm bsm k1 k2 k3 k4

def mapAt (H : List HO) (m : AV) : Option (Nat × Nat × List (MKey × AV)) :=
  match m with
  | .map id => match H[id]? with | some (.map ck es) => some (id, ck, es) | _ => none
  | _ => none

def oMapUpdate (mk : MapK) (m k v : AV) (H : List HO) : Res :=
  match mapAt H m, mkey k with
  | some (id, ck, es), some kk =>
    if kk.isK mk = true ∧ mk ≠ .no ∧ mallK mk es = true then some (.tup [], H.set id (.map (if (mget kk es).isSome then ck else ck + 1) (mset kk v es))) else none
  | _, _ => none

def oDelete (mk : MapK) (m k : AV) (H : List HO) : Res :=
  match mapAt H m, mkey k with
  | some (id, ck, es), some kk => if kk.isK mk = true ∧ mk ≠ .no ∧ mallK mk es = true then some (.tup [], H.set id (.map ck (mdel kk es))) else none
  | _, _ => none

theorem keyRel_eq {k : MKey} {v v' : Value} (h1 : keyRel k v) (h2 : keyRel k v') : v = v' := by
  cases k with
  | str s => simp only [keyRel] at h1 h2; rw [h1.1, h2.1]
  | int ik n => simp only [keyRel] at h1 h2; rw [h1, h2]
  | strs l => simp only [keyRel] at h1 h2; rw [h1.1, h2.1]

theorem stays {mk : MapK} {k : MKey} {v : Value} (hk : k.isK mk = true) (h : keyRel k v) : (Instr.keyThatStays v v).run P w = .ok v w := by
  have : Instr.sameBits 10000 v v = true := by
    cases k with
    | str s => simp only [keyRel] at h; obtain ⟨rfl, _⟩ := h; simp [Instr.sameBits, beq_toListBytes]
    | int ik n => simp only [keyRel] at h; subst h; simp [Instr.sameBits]
    | strs l =>
      simp only [keyRel] at h; obtain ⟨rfl, hlen⟩ := h
      clear hlen
      rw [show (10000 : Nat) = 9999 + 1 from rfl, Instr.sameBits, beq_self_eq_true, Bool.true_and, List.all_eq_true]
      rintro ⟨x, y⟩ hxy
      have hxy' : x = y ∧ ∃ s : Str, x = .string ⟨s.toArray⟩ := by
        clear hk
        induction l with
        | nil => simp at hxy
        | cons s l ih =>
          simp only [List.map_cons, List.zip_cons_cons, List.mem_cons, Prod.mk.injEq] at hxy
          rcases hxy with ⟨rfl, rfl⟩ | hxy
          · exact ⟨rfl, s, rfl⟩
          · exact ih hxy
      obtain ⟨rfl, s, rfl⟩ := hxy'
      simp [Instr.sameBits, beq_toListBytes]
  simp [Instr.keyThatStays, this]

theorem mset_new {k : MKey} {v : AV} : ∀ {es : List (MKey × AV)}, mget k es = none → mset k v es = es ++ [(k, v)]
  | [], _ => rfl
  | (k', a) :: es, h => by
    simp only [mget] at h
    split at h
    · cases h
    · rename_i hk
      simp only [mset, if_neg hk, mset_new h, List.cons_append]

theorem MapRel.snoc {k : MKey} {a : AV} {b : Nat} {m : MapEntry} (h1 : m.born = b) (h2 : keyRel k m.key) (h3 : RelA G T K a m.val) : ∀ {es : List (MKey × AV)} {bs : List Nat} {ms : List MapEntry}, MapRel G T K es bs ms → MapRel G T K (es ++ [(k, a)]) (bs ++ [b]) (ms ++ [m])
  | [], bs, ms, r => by
    simp only [MapRel] at r
    obtain ⟨rfl, rfl⟩ := r
    simp only [List.nil_append, MapRel]
    exact ⟨b, [], m, [], rfl, rfl, h1, h2, h3, rfl, rfl⟩
  | (k', a') :: es, bs, ms, r => by
    simp only [MapRel] at r
    obtain ⟨b', bs', m', ms', rfl, rfl, r1, r2, r3, r4⟩ := r
    simp only [List.cons_append, MapRel]
    exact ⟨b', _, m', _, rfl, rfl, r1, r2, r3, MapRel.snoc h1 h2 h3 r4⟩

theorem mapAt_spec {m : AV} {id ck : Nat} {es : List (MKey × AV)} (h : mapAt H m = some (id, ck, es)) : m = .map id ∧ H[id]? = some (.map ck es) := by
  unfold mapAt at h
  split at h
  · split at h
    · rename_i hh; cases h; exact ⟨rfl, hh⟩
    · cases h
  · cases h

theorem mset_len {k : MKey} {a b : AV} : ∀ {es : List (MKey × AV)}, mget k es = some a → (mset k b es).length = es.length
  | [], h => by simp [mget] at h
  | (k', x) :: es, h => by
    simp only [mget] at h
    simp only [mset]
    split at h
    · rename_i hk; rw [if_pos hk]; rfl
    · rename_i hk; rw [if_neg hk]; simp [mset_len h]

theorem oMapUpdate_sound (hI : Inv G K w H) {t kt e : TypeId} (hu : P.underlying t = some (.map kt e)) {m k v x : AV} {vm vk vv : Value} (hm : RelA G (tipsOf H) K m vm) (hk : RelA G (tipsOf H) K k vk) (hv : RelA G (tipsOf H) K v vv)
    (h : oMapUpdate (mapK P t) m k v H = some (x, H')) : x = .tup [] ∧ ∃ w' G', (Instr.mapUpdate t vm vk vv).run P w = .ok () w' ∧ Inv G' K w' H' ∧ Post G.length G (tipsOf H) K w G' (tipsOf H') K w' := by
  unfold oMapUpdate at h
  split at h
  · rename_i id ck es kk hat hkk
    split at h
    · rename_i hc
      obtain ⟨hc1, hc2, hall⟩ := hc
      simp only [Option.some.injEq, Prod.mk.injEq] at h
      obtain ⟨rfl, rfl⟩ := h
      refine ⟨rfl, ?_⟩
      obtain ⟨rfl, hH⟩ := mapAt_spec hat
      obtain ⟨k', e', g1, g3⟩ := mapK_spec rfl hc2
      rw [hu] at g1; cases g1
      have hkr := mkey_rel hkk hk
      obtain ⟨b, bs, ms, q1, q2, q3, q4, q5⟩ := hI.map hH
      obtain rfl := hm.map_map q1
      have hck := fun e => check_key (w := w) g3 hc1 hkr e 9998
      rcases find_spec (w := w) g3 hc1 hkr q3 hall with ⟨f1, f2⟩ | ⟨j, a, m', f1, f2, f3, f4, f5, f6, f7, f8, f9⟩
      · have hl := q3.length
        obtain ⟨j1, j2⟩ := hI.setMap hH q1 q2 (ck' := ck + 1) (es' := es ++ [(kk, v)]) (bs' := bs ++ [ck]) (ms' := ms.push { key := vk, val := vv, born := ck }) (by
          rw [Array.toList_push]; exact MapRel.snoc (m := { key := vk, val := vv, born := ck }) rfl hkr hv q3) (by
          rw [List.nodup_append]
          refine ⟨q4, by simp, ?_⟩
          intro x hx y hy e
          simp at hy; subst hy; subst e
          exact Nat.lt_irrefl _ (q5 _ hx)) (by
          intro x hx
          simp only [List.mem_append, List.mem_singleton] at hx
          rcases hx with hx | rfl
          · have := q5 x hx; omega
          · omega) (by omega) (fun e => by omega)
        rw [f1, mset_new f1]
        refine ⟨_, _, ?_, j1, j2⟩
        unfold Instr.mapUpdate
        simp only [Sem.run_bind, run_under hu, Result.andThen_ok, getObj_run q2, hck, f2]
        exact setObj_run q2 _
      · have hml := mset_len (b := v) f1
        obtain ⟨j1, j2⟩ := hI.setMap hH q1 q2 (ck' := ck) (es' := mset kk v es) (bs' := bs) (ms' := ms.modify j fun e => { e with key := vk, val := vv }) (by
          rw [Array.toList_modify]; exact f6 v vk vv hkr hv) q4 q5 (by omega) (fun _ => ⟨by omega, fun _ => rfl⟩)
        rw [f1]
        refine ⟨_, _, ?_, j1, j2⟩
        unfold Instr.mapUpdate
        simp only [Sem.run_bind, run_under hu, Result.andThen_ok, getObj_run q2, hck, f5, Nat.zero_add]
        have hmj : (ms[j]?).map (·.key) = some m'.key := by
          rw [← Array.getElem?_toList, f2]; rfl
        have hkeq : m'.key = vk := keyRel_eq f4 hkr
        rw [hmj, hkeq]
        simp only [Option.getD_some, stays hc1 hkr, Result.andThen_ok]
        exact setObj_run q2 _
    · cases h
  · cases h

theorem mdel_len {k : MKey} {a : AV} : ∀ {es : List (MKey × AV)}, mget k es = some a → (mdel k es).length + 1 = es.length
  | [], h => by simp [mget] at h
  | (k', x) :: es, h => by
    simp only [mget] at h
    simp only [mdel]
    split at h
    · rename_i hk; rw [if_pos hk]; rfl
    · rename_i hk; rw [if_neg hk]; simp [mdel_len h]
theorem mdel_none {k : MKey} : ∀ {es : List (MKey × AV)}, mget k es = none → mdel k es = es
  | [], _ => rfl
  | (k', a) :: es, h => by
    simp only [mget] at h
    split at h
    · cases h
    · rename_i hk
      simp only [mdel, if_neg hk, mdel_none h]

theorem oDelete_sound (hI : Inv G K w H) {t t2 ty kt e : TypeId} (hu : P.underlying t = some (.map kt e)) {m k x : AV} {vm vk : Value} (hm : RelA G (tipsOf H) K m vm) (hk : RelA G (tipsOf H) K k vk)
    (h : oDelete (mapK P t) m k H = some (x, H')) : x = .tup [] ∧ ∃ w' G', (Builtin.delete_ #[t, t2] ty #[vm, vk]).run P w = .ok undef w' ∧ Inv G' K w' H' ∧ Post G.length G (tipsOf H) K w G' (tipsOf H') K w' := by
  unfold oDelete at h
  split at h
  · rename_i id ck es kk hat hkk
    split at h
    · rename_i hc
      obtain ⟨hc1, hc2, hall⟩ := hc
      simp only [Option.some.injEq, Prod.mk.injEq] at h
      obtain ⟨rfl, rfl⟩ := h
      refine ⟨rfl, ?_⟩
      obtain ⟨rfl, hH⟩ := mapAt_spec hat
      obtain ⟨k', e', g1, g3⟩ := mapK_spec rfl hc2
      rw [hu] at g1; cases g1
      have hkr := mkey_rel hkk hk
      obtain ⟨b, bs, ms, q1, q2, q3, q4, q5⟩ := hI.map hH
      obtain rfl := hm.map_map q1
      have hck := fun e => check_key (w := w) g3 hc1 hkr e 9998
      rcases find_spec (w := w) g3 hc1 hkr q3 hall with ⟨f1, f2⟩ | ⟨j, a, m', f1, f2, f3, f4, f5, f6, f7, f8, f9⟩
      · obtain ⟨j1, j2⟩ := hI.setMap hH q1 q2 (ck' := ck) (es' := mdel kk es) (bs' := bs) (ms' := ms) (by rw [mdel_none f1]; exact q3) q4 q5 (by omega) (fun _ => ⟨by rw [mdel_none f1]; exact Nat.le_refl _, fun _ => rfl⟩)
        refine ⟨_, _, ?_, j1, j2⟩
        unfold Builtin.delete_
        simp only [List.getElem?_toArray, List.getElem?_cons_zero, List.getElem?_cons_succ, Sem.run_bind, run_under hu, Result.andThen_ok, getObj_run q2, hck, f2, setObj_run q2]
        rfl
      · have hdl := mdel_len f1
        have hjl : j < ms.size := by simpa using f9
        obtain ⟨j1, j2⟩ := hI.setMap hH q1 q2 (ck' := ck) (es' := mdel kk es) (bs' := bs.eraseIdx j) (ms' := ms.eraseIdxIfInBounds j) (by
          rw [Array.eraseIdxIfInBounds, dif_pos hjl, Array.toList_eraseIdx]; exact f8) (List.Nodup.sublist (List.eraseIdx_sublist _ _) q4) (fun x hx => q5 x (List.mem_of_mem_eraseIdx hx)) (by omega) (fun _ => ⟨by omega, fun e => by omega⟩)
        refine ⟨_, _, ?_, j1, j2⟩
        unfold Builtin.delete_
        simp only [List.getElem?_toArray, List.getElem?_cons_zero, List.getElem?_cons_succ, Sem.run_bind, run_under hu, Result.andThen_ok, getObj_run q2, hck, f5, setObj_run q2, Nat.zero_add]
        rfl
    · cases h
  · cases h

/-! ### walks over maps -/
def keyAV : MKey → AV
  | .str s => .d (.str s)
  | .int k n => .d (.int k n)
  | .strs l => .agg (l.map fun s => .d (.str s))

def oRange (m : AV) (H : List HO) : Res :=
  match mapAt H m with
  | some (id, ck, es) => some (.iter H.length, H ++ [.iter id ck es es none])
  | none => none

theorem left_nil : ∀ {es : List (MKey × AV)} {snap : List Nat}, snap.length = es.length → left es snap #[] = es := by
  intro es snap h
  unfold left
  rw [List.filter_eq_self.2 (by simp)]
  rw [List.map_fst_zip (by omega)]

theorem oRange_sound (hI : Inv G K w H) {t kt e : TypeId} (hu : P.underlying t = some (.map kt e)) {m x : AV} {vm : Value} (hm : RelA G (tipsOf H) K m vm) (h : oRange m H = some (x, H')) :
    ∃ y w' G', (Instr.range t vm).run P w = .ok y w' ∧ RelA G' (tipsOf H') K x y ∧ Inv G' K w' H' ∧ Post G.length G (tipsOf H) K w G' (tipsOf H') K w' := by
  unfold oRange at h
  split at h
  · rename_i id ck es hat
    simp only [Option.some.injEq, Prod.mk.injEq] at h
    obtain ⟨rfl, rfl⟩ := h
    obtain ⟨rfl, hH⟩ := mapAt_spec hat
    obtain ⟨b, bs, ms, q1, q2, q3, q4, q5⟩ := hI.map hH
    obtain rfl := hm.map_map q1
    have hl := q3.length
    obtain ⟨j1, j2⟩ := hI.new (w' := w.alloc (.mapIter (some b) ck #[] ck)) (o := .mapIter (some b) ck #[] ck) rfl ⟨rfl, rfl, rfl⟩ (.iter id ck es es none) (.iter w.heap.size bs) (by simp [GI.blocks]) (by
      simp only [ObjRel]
      refine ⟨b, bs, #[], ck, heap_push_eq rfl, .inl ?_, hl.1, (left_nil hl.1).symm, rfl, fun k a e => by cases e⟩
      rw [List.getElem?_append_left (List.getElem?_eq_some_iff.1 q1).1]; exact q1) (by
      intro m ckI esI todo cur it snap ck' es' b' bs' e1 e2 h3 h4
      cases e1; cases e2
      rw [hH] at h3; cases h3
      rw [q1] at h4; cases h4
      exact ⟨Nat.le_refl _, fun _ => ⟨Nat.le_refl _, fun _ => rfl⟩⟩) (fun ck es e => by cases e)
    refine ⟨.pointer (some ⟨w.heap.size, 0, none⟩), _, _, ?_, ?_, j1, j2⟩
    · unfold Instr.range
      simp only [Sem.run_bind, run_under hu, Result.andThen_ok, getObj_run q2, Sem.run_pure]
      simp
    · simp only [RelA]
      exact ⟨.iter w.heap.size bs, by rw [← hI.len]; simp, rfl, .inr (.inl ⟨_, _, rfl, rfl⟩)⟩
  · cases h

theorem MapRel.left {seen : Array Nat} : ∀ {es : List (MKey × AV)} {snap : List Nat} {ms : List MapEntry}, MapRel G T K es snap ms → MapRel G T K (left es snap seen) (snap.filter fun x => !seen.contains x) (ms.filter fun e => !seen.contains e.born)
  | [], snap, ms, r => by
    simp only [MapRel] at r
    obtain ⟨rfl, rfl⟩ := r
    simp [Go.Proofs.YthhmioodienlmaaGreatDoor.left, MapRel]
  | (k, a) :: es, snap, ms, r => by
    simp only [MapRel] at r
    obtain ⟨b, bs', m, ms', rfl, rfl, e1, e2, e3, e4⟩ := r
    have ih := MapRel.left (seen := seen) e4
    subst e1
    by_cases hs : (!seen.contains m.born) = true
    · have h1 : Go.Proofs.YthhmioodienlmaaGreatDoor.left ((k, a) :: es) (m.born :: bs') seen = (k, a) :: Go.Proofs.YthhmioodienlmaaGreatDoor.left es bs' seen := by simp only [Go.Proofs.YthhmioodienlmaaGreatDoor.left, List.zip_cons_cons, List.filter_cons, hs, if_true, List.map_cons]
      rw [h1]
      simp only [List.filter_cons, hs, if_true]
      simp only [MapRel]
      exact ⟨_, _, m, _, rfl, rfl, rfl, e2, e3, ih⟩
    · have h1 : Go.Proofs.YthhmioodienlmaaGreatDoor.left ((k, a) :: es) (m.born :: bs') seen = Go.Proofs.YthhmioodienlmaaGreatDoor.left es bs' seen := by simp only [Go.Proofs.YthhmioodienlmaaGreatDoor.left, List.zip_cons_cons, List.filter_cons, hs]; rfl
      rw [h1]
      simp only [List.filter_cons, if_neg hs]
      exact ih

theorem MapRel.get : ∀ {es : List (MKey × AV)} {bs : List Nat} {ms : List MapEntry} {c : Nat} {m : MapEntry}, MapRel G T K es bs ms → ms[c]? = some m → ∃ k a, es[c]? = some (k, a) ∧ bs[c]? = some m.born ∧ keyRel k m.key ∧ RelA G T K a m.val
  | [], bs, ms, c, m, r, h => by
    simp only [MapRel] at r
    obtain ⟨rfl, rfl⟩ := r
    simp at h
  | (k, a) :: es, bs, ms, c, m, r, h => by
    simp only [MapRel] at r
    obtain ⟨b, bs', m', ms', rfl, rfl, e1, e2, e3, e4⟩ := r
    cases c with
    | zero => simp at h; subst h; exact ⟨k, a, rfl, by simp [e1], e2, e3⟩
    | succ c => simpa using MapRel.get e4 (by simpa using h)

theorem filter_ne_erase {α : Type} : ∀ {L : List (α × Nat)} {c : Nat} {x : α × Nat}, (L.map (·.2)).Nodup → L[c]? = some x → L.filter (fun y => y.2 != x.2) = L.eraseIdx c
  | [], c, x, _, h => by simp at h
  | y :: L, c, x, hn, h => by
    simp only [List.map_cons, List.nodup_cons] at hn
    cases c with
    | zero =>
      simp at h; subst h
      rw [List.filter_cons_of_neg (by simp), List.eraseIdx_cons_zero]
      apply List.filter_eq_self.2
      intro z hz
      simp only [bne_iff_ne, ne_eq]
      intro e
      exact hn.1 (by rw [← e]; exact List.mem_map_of_mem hz)
    | succ c =>
      have hx : x ∈ L := List.mem_of_getElem? (by simpa using h)
      rw [List.filter_cons_of_pos, List.eraseIdx_cons_succ, filter_ne_erase hn.2 (by simpa using h)]
      simp only [bne_iff_ne, ne_eq]
      intro e
      exact hn.1 (by rw [e]; exact List.mem_map_of_mem hx)

theorem run_choose_next (n : Nat) (hn : 0 < n) : ∃ c w2, (choose (.mapNext n)).run P w = .ok c w2 ∧ c < n ∧ w2.heap = w.heap ∧ Out w w2 := by
  rw [run_choose_drew]
  split
  · exact ⟨0, w, rfl, hn, rfl, ⟨rfl, rfl, rfl⟩⟩
  · refine ⟨_, w.drew, rfl, ?_, rfl, ⟨rfl, rfl, rfl⟩⟩
    simp only [Question.cut]
    exact Nat.mod_lt _ hn

def MKey.plain : MKey → Bool := fun _ => true

def aNext (it : AV) (H : List HO) (Kt : AV → List HO → Prop) : Prop :=
  match it with
  | .iter i => match H[i]? with
    | some (.iter m ck es todo _) => H[m]? = some (.map ck es) ∧ (∀ x ∈ es, x.1.plain = true) ∧ (todo = [] → Kt (.tup [.d (.bool false)]) H) ∧
      ∀ a k v b, todo = a ++ (k, v) :: b → Kt (.tup [.d (.bool true), keyAV k, v]) (H.set i (.iter m ck es (a ++ b) (some (k, v))))
    | _ => False
  | _ => False

def aEntry (it : AV) (H : List HO) (Kt : AV → List HO → Prop) : Prop :=
  match it with
  | .iter i => match H[i]? with
    | some (.iter m ck es _ (some (k, v))) => H[m]? = some (.map ck es) ∧ k.plain = true ∧ Kt (.tup [keyAV k, v]) H
    | _ => False
  | _ => False

theorem keyAV_rel {k : MKey} {v : Value} (h : keyRel k v) : RelA G T K (keyAV k) v := by
  cases k with
  | str s => simp only [keyAV, RelA, RelD, keyRel] at h ⊢; exact h
  | int ik n => simp only [keyAV, RelA, RelD, keyRel] at h ⊢; exact h
  | strs l =>
    simp only [keyRel] at h
    obtain ⟨rfl, h⟩ := h
    simp only [keyAV, RelA]
    refine ⟨_, rfl, ?_⟩
    induction l with
    | nil => exact RelAs.nil
    | cons s l ih =>
      simp only [List.map_cons]
      have h0 := h s (by simp)
      have ih := ih fun x hx => h x (by simp [hx])
      refine RelAs.cons ?_ ih
      simp only [RelA, RelD]; exact ⟨trivial, h0⟩

theorem Inv.iterAt (hI : Inv G K w H) {i m ck : Nat} {es todo : List (MKey × AV)} {cur : Option (MKey × AV)} (h : H[i]? = some (.iter m ck es todo cur)) : ∃ it snap, G[i]? = some (.iter it snap) ∧ ObjRel G (tipsOf H) K w (.iter m ck es todo cur) (.iter it snap) := by
  have hi : i < G.length := by rw [hI.len]; exact (List.getElem?_eq_some_iff.1 h).1
  have ho := hI.obj i _ G[i] h (List.getElem?_eq_getElem hi)
  cases e : G[i] <;> rw [e] at ho <;> try (simp only [ObjRel] at ho; done)
  rename_i it snap
  exact ⟨it, snap, by rw [List.getElem?_eq_getElem hi, e], ho⟩

theorem RelA.iter_iter {i : Nat} {v : Value} {it : Nat} {snap : List Nat} (h : RelA G T K (.iter i) v) (hg : G[i]? = some (.iter it snap)) : v = .pointer (some ⟨it, 0, none⟩) := by
  simp only [RelA] at h
  obtain ⟨g, e, _, h⟩ := h
  rw [hg] at e; cases e
  rcases h with h | ⟨b', bs', h, r⟩ | ⟨b, f, ts, ps, a, c, d, h, r⟩
  · cases h
  · cases h; exact r
  · cases h

/-- an iterator moved on -/
theorem Inv.setIter (hI : Inv G K w H) {w2 : World} (hw2 : w2.heap = w.heap) (ho2 : Out w w2) {i m ck it b : Nat} {es todo todo' : List (MKey × AV)} {cur cur' : Option (MKey × AV)} {snap bs : List Nat} {o o' : Obj} (hH : H[i]? = some (.iter m ck es todo cur)) (hG : G[i]? = some (.iter it snap))
    (hb : w.heap[it]? = some o) (hK : ∀ p v, K it p = some v → False) (hm : m ≠ i)
    (hobj : ∀ (G' : List GI) (T' : Tips) (w' : World), w'.heap[it]? = some o' → G'[m]? = G[m]? → ObjRel G' T' K w' (.iter m ck es todo' cur') (.iter it snap)) :
    Inv G K { w2 with heap := w2.heap.setIfInBounds it o' } (H.set i (.iter m ck es todo' cur')) ∧
      Post G.length G (tipsOf H) K w G (tipsOf (H.set i (.iter m ck es todo' cur'))) K { w2 with heap := w2.heap.setIfInBounds it o' } := by
  have hbl : it < w.heap.size := (Array.getElem?_eq_some_iff.1 hb).1
  have hil : i < G.length := (List.getElem?_eq_some_iff.1 hG).1
  have hilH : i < H.length := (List.getElem?_eq_some_iff.1 hH).1
  have hGs : G.set i (.iter it snap) = G := list_set_same hG
  have := hI.change (w' := { w2 with heap := w2.heap.setIfInBounds it o' }) (K' := K) i (g' := .iter it snap) (o' := .iter m ck es todo' cur') hG hH (by simp [hw2]) (fun b' hb' hn => by
      simp only [hw2]
      exact Array.getElem?_setIfInBounds_ne (fun e => hn (by simp [GI.blocks, e]))) ⟨ho2.os, ho2.out, ho2.tape⟩ (fun x hx => .inl hx) (Kle.refl K) (fun b' p v h1 h2 => by rw [h1] at h2; cases h2) (fun b' p v hk => by
      have hne : it ≠ b' := fun e => by subst e; exact hK p v hk
      rw [← hI.agree b' p v hk]
      refine cell_same ?_
      simp only [hw2]
      exact Array.getElem?_setIfInBounds_ne hne) (.inr rfl) (hobj _ _ _ (by simp [hw2, hbl]) (by rw [hGs])) (by
      intro j m' ckI esI todoI curI itI snapI ckm esm bm bsm k1 k2 k3 k4
      rw [hGs] at k2 k4
      have hmi : i ≠ m' := fun e => by
        subst e
        rw [List.getElem?_set_self hilH] at k3; cases k3
      rw [List.getElem?_set_ne hmi] at k3
      by_cases hj : i = j
      · subst hj
        rw [List.getElem?_set_self hilH] at k1; cases k1
        exact hI.walks i _ _ _ _ _ _ _ _ _ _ _ hH k2 k3 k4
      · rw [List.getElem?_set_ne hj] at k1
        exact hI.walks j _ _ _ _ _ _ _ _ _ _ _ k1 k2 k3 k4)
  rw [hGs] at this
  exact this

theorem map_erase {α β : Type} (f : α → β) : ∀ (l : List α) (c : Nat), (l.map f).eraseIdx c = (l.eraseIdx c).map f
  | [], c => rfl
  | a :: l, 0 => rfl
  | a :: l, c + 1 => by simp only [List.map_cons, List.eraseIdx_cons_succ, map_erase f l c]

theorem left_push {es : List (MKey × AV)} {snap : List Nat} {seen : Array Nat} {c : Nat} {s : Nat} (hn : snap.Nodup) (hs : (snap.filter fun x => !seen.contains x)[c]? = some s) (hl : snap.length = es.length) : left es snap (seen.push s) = (left es snap seen).eraseIdx c := by
  have hz : ((es.zip snap).map (·.2)) = snap := by rw [List.map_snd_zip]; omega
  have hL : ((es.zip snap).filter fun x => !seen.contains x.2).map (·.2) = snap.filter fun x => !seen.contains x := by
    conv => rhs; rw [← hz]
    rw [List.filter_map]
    rfl
  have hLn : (((es.zip snap).filter fun x => !seen.contains x.2).map (·.2)).Nodup := by rw [hL]; exact List.Pairwise.filter _ hn
  have hx : ∃ x, ((es.zip snap).filter fun x => !seen.contains x.2)[c]? = some x ∧ x.2 = s := by
    rw [← hL, List.getElem?_map, Option.map_eq_some_iff] at hs
    exact hs
  obtain ⟨x, hx, rfl⟩ := hx
  unfold left
  rw [map_erase, ← filter_ne_erase hLn hx, List.filter_filter]
  congr 1
  apply List.filter_congr
  intro y _
  rw [Array.contains_push]
  simp only [Bool.not_or]
  rw [Bool.and_comm]
  congr 1

theorem left_at {es : List (MKey × AV)} {snap : List Nat} {seen : Array Nat} {c s : Nat} {x : MKey × AV} (hl : snap.length = es.length) (h1 : (left es snap seen)[c]? = some x) (h2 : (snap.filter fun x => !seen.contains x)[c]? = some s) :
    ∃ i : Nat, es[i]? = some x ∧ snap[i]? = some s := by
  have hz : ((es.zip snap).map (·.2)) = snap := by rw [List.map_snd_zip]; omega
  have hL : ((es.zip snap).filter fun x => !seen.contains x.2).map (·.2) = snap.filter fun x => !seen.contains x := by
    conv => rhs; rw [← hz]
    rw [List.filter_map]
    rfl
  unfold left at h1
  rw [List.getElem?_map, Option.map_eq_some_iff] at h1
  obtain ⟨y, hy, rfl⟩ := h1
  rw [← hL, List.getElem?_map, hy] at h2
  simp at h2; subst h2
  have hm := (List.mem_filter.1 (List.mem_of_getElem? hy)).1
  obtain ⟨i, hi⟩ := List.getElem?_of_mem hm
  rw [List.getElem?_zip_eq_some] at hi
  exact ⟨i, hi.1, hi.2⟩

theorem aNext_sound {R : AV → List HO → Prop} (hI : Inv G K w H) {ty : TypeId} {a : AV} {va : Value} (ha : RelA G (tipsOf H) K a va) (h : aNext a H R) :
    ∃ y w' x G' K' H', (Instr.next va false ty).run P w = .ok y w' ∧ R x H' ∧ RelA G' (tipsOf H') K' x y ∧ Inv G' K' w' H' ∧ Post G.length G (tipsOf H) K w G' (tipsOf H') K' w' := by
  unfold aNext at h
  split at h
  · rename_i i
    split at h
    · rename_i m ck es todo cur hH
      obtain ⟨hm, hpl, h0, h1⟩ := h
      obtain ⟨it, snap, hG, hobj⟩ := hI.iterAt hH
      obtain rfl := ha.iter_iter hG
      simp only [ObjRel] at hobj
      obtain ⟨b0, bs0, seen, last, k1, k2, k3, k4, rfl, k6⟩ := hobj
      obtain ⟨b, bs, ms, q1, q2, q3, q4, q5⟩ := hI.map hm
      rw [q1] at k2
      have hb : b = b0 ∧ bs = bs0 := by
        rcases k2 with h | h
        · cases h; exact ⟨rfl, rfl⟩
        · cases h
      obtain ⟨rfl, rfl⟩ := hb
      have hsnap : bs = snap := ((hI.walks i m _ es todo cur it snap _ es b bs hH hG hm q1).2 rfl).2 rfl
      subst hsnap
      have hleft := MapRel.left (seen := seen) q3
      rw [← k4] at hleft
      have hmi : m ≠ i := fun e => by subst e; rw [hH] at hm; cases hm
      have hK : ∀ p v, K it p = some v → False := fun p v hk => by
        have := hI.agree it p v hk
        unfold World.cell? at this
        rw [k1] at this; simp at this
      have hbl : b < w.heap.size := (Array.getElem?_eq_some_iff.1 q2).1
      have hkeep : ∀ e ∈ ms.toList, e.born < last := by
        intro e he
        obtain ⟨c, hc⟩ := List.getElem?_of_mem he
        obtain ⟨_, _, _, h2, _⟩ := q3.get hc
        exact q5 _ (List.mem_of_getElem? h2)
      have hguard : (!seen.isEmpty && !ms.isEmpty && ms.all (fun e => decide (e.born ≥ last))) = false := by
        cases hms : ms.toList with
        | nil =>
          have : ms = #[] := Array.ext' (by simpa using hms)
          subst this; simp
        | cons e r =>
          have he := hkeep e (by rw [hms]; simp)
          have : ms.all (fun e => decide (e.born ≥ last)) = false := by
            rw [Array.all_eq_false]
            obtain ⟨c, hc⟩ := List.getElem?_of_mem (show e ∈ ms.toList by rw [hms]; simp)
            rw [Array.getElem?_toList] at hc
            obtain ⟨hlt, hce⟩ := Array.getElem?_eq_some_iff.1 hc
            exact ⟨c, hlt, by rw [hce]; simp; omega⟩
          rw [this]; simp
      have hold : (ms.filter (fun e => !seen.contains e.born)).filter (fun e => decide (e.born < last)) = ms.filter (fun e => !seen.contains e.born) := by
        apply Array.filter_eq_self.2
        intro e he
        have := hkeep e (by simpa using (Array.mem_filter.1 he).1)
        simpa using this
      have hnew : (ms.filter (fun e => !seen.contains e.born)).filter (fun e => decide (e.born ≥ last)) = #[] := by
        apply Array.filter_eq_empty_iff.2
        intro e he
        have := hkeep e (by simpa using (Array.mem_filter.1 he).1)
        simp; omega
      have hfl : (ms.filter (fun e => !seen.contains e.born)).toList = ms.toList.filter (fun e => !seen.contains e.born) := Array.toList_filter
      generalize hF : ms.filter (fun e => !seen.contains e.born) = F at hold hnew hfl
      rw [← hfl] at hleft
      have hit : (getObj it).run P w = .ok (.mapIter (some b) last seen last) w := by simp only [getObj, Sem.run, k1]
      by_cases htd : todo = []
      · subst htd
        simp only [MapRel] at hleft
        have hF0 : F = #[] := Array.ext' (by simpa using hleft.2)
        subst hF0
        refine ⟨.tuple #[.bool false], w, _, G, K, H, ?_, h0 rfl, ?_, hI, Post.refl (Nat.le_refl _)⟩
        · unfold Instr.next
          simp only [Sem.run_bind, hit, Result.andThen_ok, getObj_run q2, hguard, Bool.false_eq_true, if_false, hF, hold, hnew]
          obtain ⟨c, w2, g1, g2, g3, g4⟩ := run_choose_next (P := P) (w := w) 1 (by omega)
          simp [choose, Sem.run, Question.forced]
        · simp only [RelA, RelAs, RelD]
          exact ⟨_, rfl, _, _, rfl, rfl, rfl⟩
      · have hFne : F.isEmpty = false := by
          cases hFl : F.toList with
          | nil =>
            rw [hFl] at hleft
            have := hleft.length
            cases todo with
            | nil => exact absurd rfl htd
            | cons _ _ => simp at this
          | cons e r =>
            have : F.size ≠ 0 := by
              have := congrArg List.length hFl
              simp at this; omega
            simpa [Array.isEmpty] using this
        obtain ⟨c, w2, g1, g2, g3, g4⟩ := run_choose_next (P := P) (w := w) F.size (by
          rcases Nat.eq_zero_or_pos F.size with h | h
          · simp [Array.isEmpty, h] at hFne
          · exact h)
        have hFc : F[c]? = some F[c] := Array.getElem?_eq_getElem g2
        have hFc' : F.toList[c]? = some F[c] := by rw [Array.getElem?_toList]; exact hFc
        obtain ⟨k, a, t1, t2, t3, t4⟩ := hleft.get hFc'
        have hsplit : todo = todo.take c ++ (k, a) :: todo.drop (c + 1) := by
          obtain ⟨hlt, he⟩ := List.getElem?_eq_some_iff.1 t1
          rw [← he, List.getElem_cons_drop, List.take_append_drop]
        have hR := h1 _ k a _ hsplit
        have herase : todo.take c ++ todo.drop (c + 1) = left es bs (seen.push F[c].born) := by
          rw [left_push q4 t2 k3, ← k4, List.eraseIdx_eq_take_drop_succ]
        have hmemk : ∃ (i : Nat), es[i]? = some (k, a) ∧ bs[i]? = some F[c].born := left_at k3 (by rw [← k4]; exact t1) t2
        obtain ⟨ix, x1, x2⟩ := hmemk
        obtain ⟨j1, j2⟩ := hI.setIter g3 g4 (o' := .mapIter (some b) last (seen.push F[c].born) last) hH hG k1 hK hmi (todo' := todo.take c ++ todo.drop (c + 1)) (cur' := some (k, a)) (b := b) (bs := bs) (by
          intro G' T' w' hw' hGm
          simp only [ObjRel]
          refine ⟨b, bs, _, last, hw', .inl (by rw [hGm]; exact q1), k3, herase, rfl, ?_⟩
          intro k' a' e; cases e
          exact ⟨ix, _, by simp, x2, x1⟩)
        have hplk : k.plain = true := hpl (k, a) (List.mem_of_getElem? x1)
        refine ⟨.tuple #[.bool true, F[c].key, F[c].val], _, _, G, K, _, ?_, hR, ?_, j1, j2⟩
        · unfold Instr.next
          simp only [Sem.run_bind, hit, Result.andThen_ok, getObj_run q2, hguard, Bool.false_eq_true, if_false, hF, hold, hnew, hFne]
          have hsz : (#[] ++ (F ++ #[]).map some : Array (Option MapEntry)).size = F.size := by simp
          have hsc : (#[] ++ (F ++ #[]).map some : Array (Option MapEntry))[c]? = some (some F[c]) := by simp [hFc]
          have hso : (setObj it (.mapIter (some b) last (seen.push F[c].born) last)).run P w2 = .ok () { w2 with heap := w2.heap.setIfInBounds it (.mapIter (some b) last (seen.push F[c].born) last) } := by
            simp [setObj, Sem.run, g3, k1]
          rw [hsz, g1]
          simp only [Result.andThen_ok, hsc, Sem.run_bind, hso, Sem.run_pure]
        · simp only [RelA]
          refine ⟨_, rfl, RelAs.cons (by simp only [RelA, RelD]) (RelAs.cons ?_ (RelAs.cons (RelA.evo j2.kle j2.evo t4) RelAs.nil))⟩
          exact keyAV_rel t3
    · exact h.elim
  · exact h.elim

theorem MapRel.borns : ∀ {es : List (MKey × AV)} {bs : List Nat} {ms : List MapEntry}, MapRel G T K es bs ms → ms.map (·.born) = bs
  | [], bs, ms, r => by
    simp only [MapRel] at r
    obtain ⟨rfl, rfl⟩ := r; rfl
  | (k, a) :: es, bs, ms, r => by
    simp only [MapRel] at r
    obtain ⟨b, bs', m, ms', rfl, rfl, e1, e2, e3, e4⟩ := r
    simp only [List.map_cons, e1, MapRel.borns e4]

theorem find_born : ∀ {l : List MapEntry} {i : Nat} {e : MapEntry}, (l.map (·.born)).Nodup → l[i]? = some e → l.find? (fun x => x.born == e.born) = some e
  | [], i, e, _, h => by simp at h
  | x :: l, i, e, hn, h => by
    simp only [List.map_cons, List.nodup_cons] at hn
    cases i with
    | zero => simp at h; subst h; simp
    | succ i =>
      have he : e ∈ l := List.mem_of_getElem? (by simpa using h)
      have : (x.born == e.born) = false := by
        rw [beq_eq_false_iff_ne]
        intro hx
        exact hn.1 (by rw [hx]; exact List.mem_map_of_mem he)
      rw [List.find?_cons, this]
      exact find_born hn.2 (by simpa using h)

theorem aEntry_sound {R : AV → List HO → Prop} (hI : Inv G K w H) {a : AV} {va : Value} (ha : RelA G (tipsOf H) K a va) (h : aEntry a H R) :
    ∃ y x, (Instr.entry va).run P w = .ok y w ∧ R x H ∧ RelA G (tipsOf H) K x y := by
  unfold aEntry at h
  split at h
  · rename_i i
    split at h
    · rename_i m ck es todo k v hH
      obtain ⟨hm, hpl, hR⟩ := h
      obtain ⟨it, snap, hG, hobj⟩ := hI.iterAt hH
      obtain rfl := ha.iter_iter hG
      simp only [ObjRel] at hobj
      obtain ⟨b0, bs0, seen, last, k1, k2, k3, k4, rfl, k6⟩ := hobj
      obtain ⟨b, bs, ms, q1, q2, q3, q4, q5⟩ := hI.map hm
      rw [q1] at k2
      have hb : b = b0 ∧ bs = bs0 := by
        rcases k2 with h | h
        · cases h; exact ⟨rfl, rfl⟩
        · cases h
      obtain ⟨rfl, rfl⟩ := hb
      have hsnap : bs = snap := ((hI.walks i m _ es todo _ it snap _ es b bs hH hG hm q1).2 rfl).2 rfl
      subst hsnap
      obtain ⟨ix, s, s1, s2, s3⟩ := k6 k v rfl
      have hml : ix < ms.toList.length := by
        have := q3.length
        have := (List.getElem?_eq_some_iff.1 s3).1
        omega
      have hmx : ms.toList[ix]? = some ms.toList[ix] := List.getElem?_eq_getElem hml
      obtain ⟨k', a', r1, r2, r3, r4⟩ := q3.get hmx
      rw [s3] at r1; cases r1
      rw [s2] at r2; cases r2
      have hit : (getObj it).run P w = .ok (.mapIter (some b) last seen last) w := by simp only [getObj, Sem.run, k1]
      have hfind : ms.find? (fun e => e.born == ms.toList[ix].born) = some ms.toList[ix] := by
        rw [← Array.find?_toList]
        have hbd : ms.toList.map (·.born) = bs := q3.borns
        have hnd : (ms.toList.map (·.born)).Nodup := by rw [hbd]; exact q4
        exact find_born hnd hmx
      refine ⟨.tuple #[ms.toList[ix].key, ms.toList[ix].val], _, ?_, hR, ?_⟩
      · unfold Instr.entry
        simp only [Sem.run_bind, hit, Result.andThen_ok, s1, getObj_run q2, bne_self_eq_false, Bool.false_eq_true, if_false, hfind, Sem.run_pure]
      · simp only [RelA]
        exact ⟨_, rfl, RelAs.cons (keyAV_rel r3) (RelAs.cons r4 RelAs.nil)⟩
    · exact h.elim
  · exact h.elim

end Go.Proofs.YthhmioodienlmaaGreatDoor

/- The abstract machine, part 15: contracts of functions, operations in a region, and that they are sound. -/
namespace Go.Proofs.YthhmioodienlmaaGreatDoor
open Go

variable {P : Program} {G : List GI} {T : Tips} {K : Kmem} {w : World} {H H' : List HO}

/-- what a call is: it enters a function that has a body -/
def EntersF (P : Program) (f : FuncId) : Prop := ∃ fn, P.funcs[f]? = some fn ∧ fn.name ≠ "runtime.NumGoroutine" ∧ fn.body.isNone = false

/-- where the abstract machine may stand after a piece of the run -/
def Ends (G : List GI) (K : Kmem) (w : World) (H : List HO) (R : AV → List HO → Prop) (v : Value) (w' : World) : Prop :=
  ∃ x G' K' H', R x H' ∧ RelA G' (tipsOf H') K' x v ∧ Inv G' K' w' H' ∧ Post G.length G (tipsOf H) K w G' (tipsOf H') K' w'

/-- a function's contract: called with arguments and objects so described, it returns, and R holds of the result's description and of the objects left -/
def ACalls (P : Program) (f : FuncId) (args : List AV) (H : List HO) (R : AV → List HO → Prop) : Prop :=
  EntersF P f ∧ ∀ (G : List GI) (K : Kmem) (w : World) (vs : Array Value), Inv G K w H → RelAs G (tipsOf H) K args vs.toList →
    Calls P f vs w (fun (e : Ending) (w' : World) => ∃ v, e = .returned v ∧ Ends G K w H R v w')

theorem Ends.mono {R R' : AV → List HO → Prop} {v : Value} {w' : World} (h : Ends G K w H R v w') (hr : ∀ x H', R x H' → R' x H') : Ends G K w H R' v w' := by
  obtain ⟨x, G', K', H', h1, h2⟩ := h
  exact ⟨x, G', K', H', hr _ _ h1, h2⟩

theorem ACalls.mono {f : FuncId} {args : List AV} {R R' : AV → List HO → Prop} (h : ACalls P f args H R) (hr : ∀ x H', R x H' → R' x H') : ACalls P f args H R' :=
  ⟨h.1, fun G K w vs hI ha => (h.2 G K w vs hI ha).mono fun e w' ⟨v, he, hv⟩ => ⟨v, he, hv.mono hr⟩⟩

/-- a call of the function that stands for a loop's body: H's object id is the loop's record -/
def AYield (P : Program) (id : Nat) (args : List AV) (H : List HO) (R : AV → List HO → Prop) : Prop :=
  (∃ st j ts ps a c, H[id]? = some (.loop st j ts ps a c)) ∧ ∀ (G : List GI) (K : Kmem) (w : World) (vs : Array Value) (b : Nat) (f : FuncId) (tmps : Array Value) (ps : Array Tmp) (a c : Code) (d : Nat),
    Inv G K w H → RelAs G (tipsOf H) K args vs.toList → G[id]? = some (.loop b f tmps ps a c d) →
    ∃ fn tm asg body, (Instr.yield b vs).run P w = .ok (.round b fn tm asg body) w ∧ RoundIn Fence.wide 0 P b fn tm asg body w (fun e w' => ∃ v, e = .returned v ∧ Ends G K w H R v w')

theorem AYield.mono {id : Nat} {args : List AV} {R R' : AV → List HO → Prop} (h : AYield P id args H R) (hr : ∀ x H', R x H' → R' x H') : AYield P id args H R' :=
  ⟨h.1, fun G K w vs b f tmps ps a c d hI ha hg => let ⟨fn, tm, asg, body, h1, h2⟩ := h.2 G K w vs b f tmps ps a c d hI ha hg
    ⟨fn, tm, asg, body, h1, h2.mono fun e w' ⟨v, he, hv⟩ => ⟨v, he, hv.mono hr⟩⟩⟩

theorem Inv.loopAt (hI : Inv G K w H) {id : Nat} {st : LoopState} {j : Option Code} {ts : List AV} {ps : Array Tmp} {a c : Code} (h : H[id]? = some (.loop st j ts ps a c)) :
    ∃ b f tmps d, G[id]? = some (.loop b f tmps ps a c d) ∧ w.heap[b]? = some (.loop { state := st, pending := j, fn := f, tmps := tmps, params := ps, assign := a, body := c, defers := d }) ∧ RelAs G (tipsOf H) K ts tmps.toList := by
  have hi : id < G.length := by rw [hI.len]; exact (List.getElem?_eq_some_iff.1 h).1
  have hg := List.getElem?_eq_getElem hi
  have ho := hI.obj id _ _ h hg
  generalize G[id] = g at hg ho
  cases g <;> simp only [ObjRel] at ho
  obtain ⟨h1, rfl, rfl, rfl, h2⟩ := ho
  exact ⟨_, _, _, _, hg, h1, h2⟩

/-! ### operations -/
def aparts (ts : List AV) (ps : Array (Nat × Operand)) : List (Nat × AV) := ps.toList.map fun x => (x.1, aev ts x.2)
def aevs (ts : List AV) (xs : Array Operand) : List AV := xs.toList.map (aev ts)
def aevo (ts : List AV) (x : Option Operand) : Option AV := x.map (aev ts)

def res (r : Res) (K : AV → List HO → Prop) : Prop := match r with | some (x, H') => K x H' | none => False
def resv (r : Option AV) (H : List HO) (K : AV → List HO → Prop) : Prop := match r with | some x => K x H | none => False

/-- a slice compared with nil: true only of an empty one -/
def slNil (op : BinOp) (a : AV) (y : Operand) (H : List HO) (K : AV → List HO → Prop) : Prop :=
  match y, a.toD, op with
  | .const (.slice none _ _), some (.sl _ es), .eql => ∀ b : Bool, (es ≠ [] → b = false) → K (.d (.bool b)) H
  | .const (.slice none _ _), some (.sl _ es), .neq => ∀ b : Bool, (es ≠ [] → b = true) → K (.d (.bool b)) H
  | _, _, _ => False

def oMinMax (mx : Bool) (a b : AV) : Option AV :=
  match a, b with
  | .d (.int k x), .d (.int _ y) => some (.d (.int k (if mx then (if y > x then y else x) else (if y < x then y else x))))
  | _, _ => none

def aBuiltin (P : Program) (m : Bool) (b : Builtin) (ats : List TypeId) (as : List AV) (H : List HO) (K : AV → List HO → Prop) : Prop :=
  match b, ats, as with
  | .len, [t], [a] => res (oLen (tinfo P t) a H) K
  | .append, [t, t2], [a, b] => obnd (tinfo P t) fun ti => ti.isSl = true ∧ notInt P t2 = true ∧ aAppend m (tinfo P ti.elem) a b H K
  | .max, _, [a, b] => resv (oMinMax true a b) H K
  | .min, _, [a, b] => resv (oMinMax false a b) H K
  | .delete, [t, _], [a, b] => obnd (tinfo P t) fun ti => ti.isMap = true ∧ res (oDelete (mapK P t) a b H) K
  | _, _, _ => False

def aCall (P : Program) (m : Bool) (c : Call) (ts : List AV) (H : List HO) (K : AV → List HO → Prop) : Prop :=
  match c.callee with
  | .value f => match aev ts f with
    | .fn (.func g) first capt => ACalls P g (first ++ aevs ts c.args ++ capt) H K
    | .iter id => AYield P id (aevs ts c.args) H K
    | _ => False
  | .builtin b => aBuiltin P m b c.argTypes.toList (aevs ts c.args) H K
  | .invoke _ _ => False

def aOp (P : Program) (m : Bool) (o : Op) (ts : List AV) (H : List HO) (K : AV → List HO → Prop) : Prop :=
  match o with
  | .move x | .assign x => K (aev ts x) H
  | .pick c a b => res (oPick (aev ts c) (aev ts a) (aev ts b) H) K
  | .alloc t => res (oAlloc (tinfo P t) H) K
  | .box _ x => res (oBox (aev ts x) H) K
  | .build t ps => obnd (tinfo P t) fun ti => res (oBuild (some ti) (tinfo P ti.elem) (aparts ts ps) H) K
  | .buildSlice t n ps => obnd (tinfo P t) fun ti => res (oBuildSlice m (some ti) (tinfo P ti.elem) n (aparts ts ps) H) K
  | .load t a => res (oLoad (tinfo P t) (aev ts a) H) K
  | .store t a x => res (oStore (tinfo P t) (aev ts a) (aev ts x) H) K
  | .nilCheck x => resv (oNilCheck (aev ts x) H) H K
  | .binOp op t x y _ => match eqK P t with
    | .sl => slNil op (aev ts x) y H K
    | ek => res (oBin ek op (aev ts x) (aev ts y) H) K
  | .unOp op _ x => resv (oUn op (aev ts x)) H K
  | .convert s d x => resv (oConv (cvK P s d) (aev ts x)) H K
  | .makeFunc fn f c => K (.fn fn (aevs ts f) (aevs ts c)) H
  | .makeSlice t l c => obnd (tinfo P t) fun ti => res (oMakeSlice (some ti) (tinfo P ti.elem) (aev ts l) (aev ts c) H) K
  | .slice t x lo hi mx => obnd (tinfo P t) fun ti => res (oSlice (some ti) (tinfo P ti.elem) (aev ts x) (aevo ts lo) (aevo ts hi) (aevo ts mx) H) K
  | .fieldAddr s x f => res (oFieldAddr (tinfo P s) (aev ts x) f H) K
  | .field s x f => res (oField (tinfo P s) (aev ts x) f H) K
  | .indexAddr t x i => obnd (tinfo P t) fun ti => res (oIndexAddr (some ti) (tinfo P ti.elem) (aev ts x) (aev ts i) H) K
  | .index t x i => res (oIndexX P t (aev ts x) (aev ts i) H) K
  | .extract x i => res (oExtract (aev ts x) i H) K
  | .call c => aCall P m c ts H K
  | .makeMap _ none => res (oMakeMap H) K
  | .lookup t a k ok => obnd (tinfo P t) fun ti => ti.isMap = true ∧ res (oLookup (mapK P t) (tinfo P ti.elem) ok (aev ts a) (aev ts k) H) K
  | .mapUpdate t a k x | .insert t a k x => obnd (tinfo P t) fun ti => ti.isMap = true ∧ res (oMapUpdate (mapK P t) (aev ts a) (aev ts k) (aev ts x) H) K
  | .range t a => obnd (tinfo P t) fun ti => ti.isMap = true ∧ res (oRange (aev ts a) H) K
  | .next it false => aNext (aev ts it) H K
  | .entry it => aEntry (aev ts it) H K
  | _ => False

/-! ### soundness -/
theorem aev_rel {ts : List AV} {a : Act} (h : RelAs G T K ts a.tmps.toList) (x : Operand) : RelA G T K (aev ts x) (a.eval x) := by
  cases x with
  | tmp t =>
    simp only [aev, Act.eval]
    cases e : ts[t]? with
    | none =>
      have hl := h.length
      have : a.tmps.toList.length ≤ t := by rw [← hl]; exact List.getElem?_eq_none_iff.1 e
      have e2 : a.tmps.getD t undef = undef := by
        rw [Array.getD_eq_getD_getElem?, Array.getElem?_eq_none (by simpa using this)]; rfl
      rw [e2]
      simp only [Option.getD_none, RelA, undef]
      exact ⟨_, rfl, by simpa using RelAs.nil⟩
    | some v =>
      obtain ⟨y, h1, h2⟩ := h.get e
      have e2 : a.tmps.getD t undef = y := by
        rw [Array.getD_eq_getD_getElem?]
        rw [Array.getElem?_toList] at h1
        rw [h1]; rfl
      rw [e2]; exact h2
  | const v => exact absV_rel v
  | global g => simp only [aev, RelA]
  | func f => simp only [aev, RelA, Act.eval]; exact ⟨_, _, rfl, by simpa using RelAs.nil, by simpa using RelAs.nil⟩

theorem aevs_rel {ts : List AV} {a : Act} (h : RelAs G T K ts a.tmps.toList) (xs : Array Operand) : RelAs G T K (aevs ts xs) (xs.map a.eval).toList := by
  unfold aevs
  rw [Array.toList_map]
  induction xs.toList with
  | nil => exact RelAs.nil
  | cons x xs ih => exact RelAs.cons (aev_rel h x) ih

theorem aevo_rel {ts : List AV} {a : Act} (h : RelAs G T K ts a.tmps.toList) (x : Option Operand) : RelO G T K (aevo ts x) (x.map a.eval) := by
  cases x with
  | none => simp only [aevo, Option.map_none, RelO]
  | some x => simp only [aevo, Option.map_some, RelO]; exact ⟨_, rfl, aev_rel h x⟩

theorem aparts_rel {ts : List AV} {a : Act} (h : RelAs G T K ts a.tmps.toList) (ps : Array (Nat × Operand)) : RelPs G T K (aparts ts ps) (ps.map fun (i, x) => (i, a.eval x)).toList := by
  unfold aparts
  rw [Array.toList_map]
  induction ps.toList with
  | nil => simp only [List.map_nil, RelPs]
  | cons x xs ih => simp only [List.map_cons, RelPs]; exact ⟨_, _, rfl, aev_rel h x.2, ih⟩

theorem res_some {r : Res} {K : AV → List HO → Prop} (h : res r K) : ∃ x H', r = some (x, H') ∧ K x H' := by
  unfold res at h
  split at h
  · exact ⟨_, _, rfl, h⟩
  · exact h.elim

theorem resv_some {r : Option AV} {K : AV → List HO → Prop} (h : resv r H K) : ∃ x, r = some x ∧ K x H := by
  unfold resv at h
  split at h
  · exact ⟨_, rfl, h⟩
  · exact h.elim

theorem obnd_some {α : Type} {x : Option α} {k : α → Prop} (h : obnd x k) : ∃ a, x = some a ∧ k a := by
  unfold obnd at h
  split at h
  · exact ⟨_, rfl, h⟩
  · exact h.elim

theorem Ends.same {R : AV → List HO → Prop} {x : AV} {v : Value} (hI : Inv G K w H) (hr : RelA G (tipsOf H) K x v) (h : R x H) : Ends G K w H R v w :=
  ⟨x, G, K, H, h, hr, hI, Post.refl (Nat.le_refl _)⟩

theorem undef_rel : RelA G T K (.tup []) undef := by simp only [RelA, undef]; exact ⟨_, rfl, by simpa using RelAs.nil⟩

/-- what the model does at an operation that the abstract machine takes: a value, nothing, or a call that ends well -/
def GoesOn (P : Program) (G : List GI) (K : Kmem) (w : World) (H : List HO) (R : AV → List HO → Prop) : Result Next → Prop
  | .ok (.value v) w' => Ends G K w H R v w'
  | .ok .skip w' => Ends G K w H R undef w'
  | .ok (.enter f args) w' => w' = w ∧ Calls P f args w fun e w'' => ∃ v, e = .returned v ∧ Ends G K w H R v w''
  | .ok (.round l f tmps a c) w' => w' = w ∧ RoundIn Fence.wide 0 P l f tmps a c w fun e w'' => ∃ v, e = .returned v ∧ Ends G K w H R v w''
  | _ => False

theorem slNil_sound {R : AV → List HO → Prop} (hI : Inv G K w H) {t : TypeId} {op : BinOp} {a : AV} {x y : Operand} {v : Value} {e : TypeId} (ht : P.underlying t = some (.slice e))
    (ha : RelA G (tipsOf H) K a v) (u : Value) (hu : ∀ c, y = .const c → u = c) (h : slNil op a y H R) : ∃ z, (do eqGuard op t x y v u; binOp op t v u : Sem Value).run P w = .ok z w ∧ Ends G K w H R z w := by
  unfold slNil at h
  have key : ∀ (n cap : Nat) (es : List (List D)) (c : Bool), y = .const (.slice none n cap) → a.toD = some (.sl c es) → ∃ (ad : Option Addr) (k l : Nat), v = .slice ad k l ∧ (es ≠ [] → ad.isNone = false) ∧ u = .slice none n cap := by
    intro n cap es c hy hd
    have hr := toD_rel hd ha
    simp only [RelD] at hr
    obtain ⟨ad, n', cap', rfl, r1, r2, r3, r4, r5, r6⟩ := hr
    refine ⟨ad, _, _, rfl, fun hne => ?_, hu _ hy⟩
    cases ad with
    | none =>
      exfalso
      have := r5 rfl
      apply hne
      apply List.eq_nil_of_length_eq_zero
      omega
    | some _ => rfl
  have heq : ∀ (d : Nat) (ad : Option Addr) (k l n cap : Nat), (Op.equalIn (d + 1) t (.slice ad k l) (.slice none n cap)).run P w = .ok ad.isNone w := by
    intro d ad k l n cap
    cases ad <;> simp [Op.equalIn, run_under ht]
  split at h
  · rename_i _ n cap c es hd
    obtain ⟨ad, k, l, rfl, hne, rfl⟩ := key _ _ _ _ rfl hd
    refine ⟨.bool ad.isNone, ?_, Ends.same hI (by simp only [RelA, RelD]) (h _ hne)⟩
    rw [Sem.run_bind, guard_free (by intro vs e; cases e) (by intro e; cases e)]
    have h2 : binOp .eql t (.slice ad k l) (.slice none n cap) = (do pure (.bool (← Op.equalIn (9999 + 1) t (.slice ad k l) (.slice none n cap)))) := rfl
    simp only [Result.andThen_ok]
    rw [h2, Sem.run_bind, heq]; rfl
  · rename_i _ n cap c es hd
    obtain ⟨ad, k, l, rfl, hne, rfl⟩ := key _ _ _ _ rfl hd
    refine ⟨.bool (!ad.isNone), ?_, Ends.same hI (x := .d (.bool (!ad.isNone))) (by simp only [RelA, RelD]) (h _ fun hx => by rw [hne hx]; rfl)⟩
    rw [Sem.run_bind, guard_free (by intro vs e; cases e) (by intro e; cases e)]
    have h2 : binOp .neq t (.slice ad k l) (.slice none n cap) = (do pure (.bool (!(← Op.equalIn (9999 + 1) t (.slice ad k l) (.slice none n cap))))) := rfl
    simp only [Result.andThen_ok]
    rw [h2, Sem.run_bind, heq]; rfl
  · exact h.elim

theorem callFunc_enter {f : FuncId} (h : EntersF P f) (args : Array Value) : (callFunc f args).run P w = .ok (.enter f args) w := by
  obtain ⟨fn, h1, h2, h3⟩ := h
  unfold callFunc
  simp only [Sem.run_bind, run_program, Result.andThen_ok, h1]
  rw [if_neg (by simpa using h2), if_neg (by simp [h3])]
  rfl

theorem under_map {t : TypeId} {ti : TInf} (h : tinfo P t = some ti) (hm : ti.isMap = true) : ∃ k, P.underlying t = some (.map k ti.elem) := by
  obtain ⟨i, d, z, h1, h2, h3, h4, rfl⟩ := tinfo_spec h
  cases d <;> simp [mkTI] at hm
  exact ⟨_, h2⟩

theorem aBuiltin_sound {R : AV → List HO → Prop} (hI : Inv G K w H) {m : Bool} {b : Builtin} {ats : Array TypeId} {as : List AV} {vs : Array Value} (hv : RelAs G (tipsOf H) K as vs.toList) (ty : TypeId) (cs : Array Bool)
    (h : aBuiltin P m b ats.toList as H R) : GoesOn P G K w H R ((builtin b ats ty cs vs).run P w) := by
  unfold aBuiltin at h
  split at h
  · rename_i t a e
    have e : ats = #[t] := by apply Array.ext'; simpa using e
    subst e
    simp only [RelAs] at hv
    obtain ⟨v, ws, hvs, r1, rfl⟩ := hv
    have hvs : vs = #[v] := by apply Array.ext'; simpa using hvs
    subst hvs
    obtain ⟨x, H', h1, h2⟩ := res_some h
    obtain ⟨rfl, y, hy, ry⟩ := oLen_sound hI r1 h1 ty
    simp only [builtin, Sem.run_bind, hy, Result.andThen_ok, Sem.run_pure, GoesOn]
    exact Ends.same hI ry h2
  · rename_i t t2 a b e
    have e : ats = #[t, t2] := by apply Array.ext'; simpa using e
    subst e
    simp only [RelAs] at hv
    obtain ⟨v, ws, hvs, r1, u, ws', rfl, r2, rfl⟩ := hv
    have hvs : vs = #[v, u] := by apply Array.ext'; simpa using hvs
    subst hvs
    obtain ⟨ti, ht, h1, h2, h3⟩ := obnd_some h
    obtain ⟨y, w', G', K', x, H', hy, hk, ry, hI', hp⟩ := aAppend_sound (ty := ty) hI ht h1 h2 r1 r2 h3
    simp only [builtin, Sem.run_bind, hy, Result.andThen_ok, Sem.run_pure, GoesOn]
    exact ⟨x, G', K', H', hk, ry, hI', hp⟩
  · rename_i a b _
    simp only [RelAs] at hv
    obtain ⟨v, ws, hvs, r1, u, ws', rfl, r2, rfl⟩ := hv
    have hvs : vs = #[v, u] := by apply Array.ext'; simpa using hvs
    subst hvs
    obtain ⟨x, h1, h2⟩ := resv_some h
    unfold oMinMax at h1
    split at h1
    · simp only [Option.some.injEq] at h1; subst h1
      simp only [RelA, RelD] at r1 r2
      subst r1; subst r2
      simp only [builtin, Builtin.max_, Builtin.max2, List.foldlM_cons, List.foldlM_nil, Sem.run_bind, Sem.run_pure, Result.andThen_ok, GoesOn]
      exact Ends.same hI (by simp only [RelA, RelD, if_true]) h2
    · cases h1
  · rename_i a b _
    simp only [RelAs] at hv
    obtain ⟨v, ws, hvs, r1, u, ws', rfl, r2, rfl⟩ := hv
    have hvs : vs = #[v, u] := by apply Array.ext'; simpa using hvs
    subst hvs
    obtain ⟨x, h1, h2⟩ := resv_some h
    unfold oMinMax at h1
    split at h1
    · simp only [Option.some.injEq] at h1; subst h1
      simp only [RelA, RelD] at r1 r2
      subst r1; subst r2
      simp only [builtin, Builtin.min_, Builtin.min2, List.foldlM_cons, List.foldlM_nil, Sem.run_bind, Sem.run_pure, Result.andThen_ok, GoesOn]
      exact Ends.same hI (by simp [RelA, RelD]) h2
    · cases h1
  · rename_i t t2 a b e
    have e : ats = #[t, t2] := by apply Array.ext'; simpa using e
    subst e
    simp only [RelAs] at hv
    obtain ⟨v, ws, hvs, r1, u, ws', rfl, r2, rfl⟩ := hv
    have hvs : vs = #[v, u] := by apply Array.ext'; simpa using hvs
    subst hvs
    obtain ⟨ti, ht, hm, h⟩ := obnd_some h
    obtain ⟨kt, hu⟩ := under_map ht hm
    obtain ⟨x, H', h1, h2⟩ := res_some h
    obtain ⟨rfl, w', G', hy, hI', hp⟩ := oDelete_sound (t2 := t2) (ty := ty) hI hu r1 r2 h1
    simp only [builtin, Sem.run_bind, hy, Result.andThen_ok, Sem.run_pure, GoesOn]
    exact ⟨_, G', K, H', h2, undef_rel, hI', hp⟩
  · exact h.elim

theorem aOp_sound {R : AV → List HO → Prop} (hI : Inv G K w H) {m : Bool} {ts : List AV} {a : Act} (hts : RelAs G (tipsOf H) K ts a.tmps.toList) {o : Oper} (h : aOp P m o.op ts H R) :
    GoesOn P G K w H R ((execOp a.eval o).run P w) := by
  obtain ⟨dst, op, ty, pos, after, guard⟩ := o
  simp only at h
  have ev := fun x => aev_rel (a := a) hts x
  cases op <;> simp only [aOp] at h <;> try (exact h.elim)
  case move x => exact Ends.same hI (ev x) h
  case assign x => exact Ends.same hI (ev x) h
  case pick c x y =>
    obtain ⟨r, H', h1, h2⟩ := res_some h
    obtain ⟨rfl, z, hz, rz⟩ := oPick_sound (P := P) (w := w) (ev c) (ev x) (ev y) h1
    have : (execOp a.eval { dst := dst, op := Op.pick c x y, type := ty, pos := pos, after := after, guard := guard }).run P w = .ok (.value z) w := by
      simp only [execOp, Sem.run_bind]
      simp only [Sem.run_bind] at hz
      cases hb : (asBool (a.eval c)).run P w with
      | ok b w2 => rw [hb] at hz; simp only [Result.andThen_ok, Sem.run_pure] at hz ⊢; cases hz; rfl
      | halt _ _ => rw [hb] at hz; cases hz
    rw [this]; exact Ends.same hI rz h2
  case alloc t =>
    obtain ⟨r, H', h1, h2⟩ := res_some h
    obtain ⟨y, w', G', hy, ry, hI', hp⟩ := oAlloc_sound hI h1
    simp only [execOp, Sem.run_bind, hy, Result.andThen_ok, Sem.run_pure, GoesOn]
    exact ⟨r, G', K, H', h2, ry, hI', hp⟩
  case box t x =>
    obtain ⟨r, H', h1, h2⟩ := res_some h
    obtain ⟨y, w', G', hy, ry, hI', hp⟩ := oBox_sound (P := P) (t := t) hI (ev x) h1
    simp only [execOp, Sem.run_bind, hy, Result.andThen_ok, Sem.run_pure, GoesOn]
    exact ⟨r, G', K, H', h2, ry, hI', hp⟩
  case build t ps =>
    obtain ⟨ti, ht, h⟩ := obnd_some h
    obtain ⟨r, H', h1, h2⟩ := res_some h
    obtain ⟨rfl, y, hy, ry⟩ := oBuild_sound (w := w) ht (aparts_rel hts ps) h1
    simp only [execOp, Sem.run_bind]
    rw [hy]
    exact Ends.same hI ry h2
  case buildSlice t n ps =>
    obtain ⟨ti, ht, h⟩ := obnd_some h
    obtain ⟨r, H', h1, h2⟩ := res_some h
    obtain ⟨y, w', G', K', hy, ry, hI', hp⟩ := oBuildSlice_sound hI ht (aparts_rel hts ps) h1
    simp only [execOp, Sem.run_bind]
    rw [hy]
    exact ⟨r, G', K', H', h2, ry, hI', hp⟩
  case load t x =>
    obtain ⟨r, H', h1, h2⟩ := res_some h
    obtain ⟨rfl, y, hy, ry⟩ := oLoad_sound (P := P) hI (ev x) h1
    simp only [execOp, Sem.run_bind, hy, Result.andThen_ok, Sem.run_pure, GoesOn]
    exact Ends.same hI ry h2
  case store t x y =>
    obtain ⟨r, H', h1, h2⟩ := res_some h
    obtain ⟨rfl, w', hy, hI', hp⟩ := oStore_sound (P := P) hI (ev x) (ev y) h1
    simp only [execOp, Sem.run_bind, hy, Result.andThen_ok, Sem.run_pure, GoesOn]
    exact ⟨_, G, K, H', h2, undef_rel, hI', hp⟩
  case nilCheck x =>
    obtain ⟨r, h1, h2⟩ := resv_some h
    have hx := ev x
    unfold oNilCheck at h1
    split at h1
    · rename_i id off hx0
      split at h1
      · rename_i cs hc
        simp only [Option.some.injEq] at h1
        obtain ⟨b, n, vs, tt, fr, g1, _⟩ := hI.cells (hcells_spec hc)
        have hp := RelA.ptr_cells (by rw [← hx0]; exact hx) g1
        simp only [execOp, hp]
        subst h1
        exact Ends.same hI (by rw [← hp]; exact hx) h2
      · cases h1
    · rename_i hx0
      simp only [Option.some.injEq] at h1
      have hp := hx
      rw [hx0] at hp
      simp only [RelA, RelD] at hp
      obtain ⟨b, o, hp, _⟩ := hp
      simp only [execOp, hp]
      subst h1
      exact Ends.same hI (by rw [← hp]; exact hx) h2
    · rename_i hx0
      simp only [Option.some.injEq] at h1
      have hp := hx
      rw [hx0] at hp
      simp only [RelA] at hp
      obtain ⟨vs, ws, hp, _⟩ := hp
      simp only [execOp, hp]
      subst h1
      exact Ends.same hI (by rw [← hp]; exact hx) h2
    · cases h1
  case binOp op t x y yt =>
    have hrun : ∀ r, res (oBin (eqK P t) op (aev ts x) (aev ts y) H) r → GoesOn P G K w H r ((execOp a.eval { dst := dst, op := Op.binOp op t x y yt, type := ty, pos := pos, after := after, guard := guard }).run P w) := by
      intro R' h
      obtain ⟨r, H', h1, h2⟩ := res_some h
      obtain ⟨rfl, z, hz, rz⟩ := oBin_run hI h1 (ev x) (ev y)
      have hg := oBin_guard (P := P) (t := t) (p := x) (q := y) (v := a.eval y) hI h1 (ev x)
      simp only [execOp, Sem.run_bind, hg, Result.andThen_ok, hz, Sem.run_pure, GoesOn]
      exact Ends.same hI rz h2
    cases hk : eqK P t with
    | sl =>
      rw [hk] at h
      simp only at h
      obtain ⟨e, hu⟩ : ∃ e, P.underlying t = some (.slice e) := by
        unfold eqK at hk
        split at hk <;> first | exact ⟨_, by assumption⟩ | cases hk
      obtain ⟨z, hz, hE⟩ := slNil_sound (x := x) hI hu (ev x) (a.eval y) (fun c hc => by subst hc; rfl) h
      simp only [execOp]
      rw [Sem.run_bind, hz]
      exact hE
    | bool => rw [hk] at h; exact hrun _ (by rw [hk]; exact h)
    | ptr => rw [hk] at h; exact hrun _ (by rw [hk]; exact h)
    | fn => rw [hk] at h; exact hrun _ (by rw [hk]; exact h)
    | no => rw [hk] at h; exact hrun _ (by rw [hk]; exact h)
  case unOp op t x =>
    obtain ⟨r, h1, h2⟩ := resv_some h
    obtain ⟨y, hy, ry⟩ := oUn_sound (P := P) (w := w) (ev x) h1
    simp only [execOp, Sem.run_bind, hy, Result.andThen_ok, Sem.run_pure, GoesOn]
    exact Ends.same hI ry h2
  case convert s d x =>
    obtain ⟨r, h1, h2⟩ := resv_some h
    obtain ⟨y, hy, ry⟩ := oConv_sound (P := P) hI (ev x) h1
    simp only [execOp, Sem.run_bind, hy, Result.andThen_ok, Sem.run_pure, GoesOn]
    exact Ends.same hI ry h2
  case makeFunc fn f c =>
    simp only [execOp, Instr.makeFunc, Sem.run_bind, Result.andThen_ok, Sem.run_pure, GoesOn]
    refine Ends.same hI ?_ h
    simp only [RelA]
    exact ⟨_, _, rfl, aevs_rel hts f, aevs_rel hts c⟩
  case makeSlice t l c =>
    obtain ⟨ti, ht, h⟩ := obnd_some h
    obtain ⟨r, H', h1, h2⟩ := res_some h
    obtain ⟨y, w', G', hy, ry, hI', hp⟩ := oMakeSlice_sound hI ht (ev l) (ev c) h1
    simp only [execOp, Sem.run_bind, hy, Result.andThen_ok, Sem.run_pure, GoesOn]
    exact ⟨r, G', K, H', h2, ry, hI', hp⟩
  case slice t x lo hi mx =>
    obtain ⟨ti, ht, h⟩ := obnd_some h
    obtain ⟨r, H', h1, h2⟩ := res_some h
    obtain ⟨rfl, y, hy, ry⟩ := oSlice_sound hI ht (ev x) (aevo_rel hts lo) (aevo_rel hts hi) (aevo_rel hts mx) h1
    simp only [execOp, Sem.run_bind, hy, Result.andThen_ok, Sem.run_pure, GoesOn]
    exact Ends.same hI ry h2
  case fieldAddr s x f =>
    obtain ⟨r, H', h1, h2⟩ := res_some h
    obtain ⟨rfl, y, hy, ry⟩ := oFieldAddr_sound (P := P) hI (ev x) h1
    simp only [execOp, Sem.run_bind, hy, Result.andThen_ok, Sem.run_pure, GoesOn]
    exact Ends.same hI ry h2
  case field s x f =>
    obtain ⟨r, H', h1, h2⟩ := res_some h
    obtain ⟨rfl, y, hy, ry⟩ := oField_sound (P := P) (w := w) (ev x) h1
    simp only [execOp, Sem.run_bind, hy, Result.andThen_ok, Sem.run_pure, GoesOn]
    exact Ends.same hI ry h2
  case indexAddr t x i =>
    obtain ⟨ti, ht, h⟩ := obnd_some h
    obtain ⟨r, H', h1, h2⟩ := res_some h
    obtain ⟨rfl, y, hy, ry⟩ := oIndexAddr_sound hI ht (ev x) (ev i) h1
    simp only [execOp, Sem.run_bind, hy, Result.andThen_ok, Sem.run_pure, GoesOn]
    exact Ends.same hI ry h2
  case index t x i =>
    obtain ⟨r, H', h1, h2⟩ := res_some h
    obtain ⟨rfl, y, hy, ry⟩ := oIndexX_sound (P := P) (w := w) (ev x) (ev i) h1
    simp only [execOp, Sem.run_bind, hy, Result.andThen_ok, Sem.run_pure, GoesOn]
    exact Ends.same hI ry h2
  case extract x i =>
    obtain ⟨r, H', h1, h2⟩ := res_some h
    obtain ⟨rfl, y, hy, ry⟩ := oExtract_sound (P := P) (w := w) (ev x) h1
    simp only [execOp, Sem.run_bind, hy, Result.andThen_ok, Sem.run_pure, GoesOn]
    exact Ends.same hI ry h2
  case call c =>
    unfold aCall at h
    obtain ⟨callee, args, ats⟩ := c
    simp only at h
    cases callee with
    | value f =>
      simp only at h
      split at h
      · rename_i g first capt hf
        have hfv := ev f
        rw [hf] at hfv
        simp only [RelA] at hfv
        obtain ⟨vs, ws, hv, r1, r2⟩ := hfv
        have hargs := (r1.append (aevs_rel hts args)).append r2
        have he := callFunc_enter (w := w) h.1 (vs ++ args.map a.eval ++ ws)
        have hc := h.2 G K w (vs ++ args.map a.eval ++ ws) hI (by simpa using hargs)
        simp only [execOp, resolve, Sem.run_bind, hv, Deferred.ofValue, Sem.run_pure, Result.andThen_ok, invoke]
        rw [he]
        exact ⟨rfl, hc⟩
      · rename_i id hf
        have hfv := ev f
        rw [hf] at hfv
        obtain ⟨st, j, lts, lps, la, lc, hH⟩ := h.1
        obtain ⟨b, lf, ltm, ld, hg, _, _⟩ := hI.loopAt hH
        simp only [RelA] at hfv
        obtain ⟨g, hg', _, hfv⟩ := hfv
        rw [hg] at hg'; cases hg'
        rcases hfv with hfv | ⟨_, _, hfv, _⟩ | ⟨b', _, _, _, _, _, _, hfv, hv⟩
        · cases hfv
        · cases hfv
        · cases hfv
          obtain ⟨fn, tm, asg, body, hy, hr⟩ := h.2 G K w (args.map a.eval) b lf ltm lps la lc ld hI (aevs_rel hts args) hg
          simp only [execOp, resolve, Sem.run_bind, hv, Deferred.ofValue, Sem.run_pure, Result.andThen_ok, invoke]
          simp only [Array.append_empty, Array.empty_append, hy]
          exact ⟨rfl, hr⟩
      · exact h.elim
    | builtin b =>
      simp only at h
      have := aBuiltin_sound (ty := ty) (cs := args.map fun | .const _ => true | _ => false) hI (aevs_rel hts args) h
      simp only [execOp, resolve, Sem.run_bind, Sem.run_pure, Result.andThen_ok, invoke]
      exact this
    | invoke _ _ => exact h.elim
  case makeMap t r =>
    cases r with
    | some _ => exact h.elim
    | none =>
      obtain ⟨r, H', h1, h2⟩ := res_some h
      obtain ⟨y, w', G', hy, ry, hI', hp⟩ := oMakeMap_sound (P := P) (t := t) hI h1
      simp only [execOp, Option.map_none, Sem.run_bind, hy, Result.andThen_ok, Sem.run_pure, GoesOn]
      exact ⟨r, G', K, H', h2, ry, hI', hp⟩
  case lookup t x k ok =>
    obtain ⟨ti, ht, hm, h⟩ := obnd_some h
    obtain ⟨kt, hu⟩ := under_map ht hm
    obtain ⟨r, H', h1, h2⟩ := res_some h
    obtain ⟨rfl, y, hy, ry⟩ := oLookup_sound hI hu (ev x) (ev k) h1
    simp only [execOp, Sem.run_bind, hy, Result.andThen_ok, Sem.run_pure, GoesOn]
    exact Ends.same hI ry h2
  case mapUpdate t x k y =>
    obtain ⟨ti, ht, hm, h⟩ := obnd_some h
    obtain ⟨kt, hu⟩ := under_map ht hm
    obtain ⟨r, H', h1, h2⟩ := res_some h
    obtain ⟨rfl, w', G', hy, hI', hp⟩ := oMapUpdate_sound hI hu (ev x) (ev k) (ev y) h1
    simp only [execOp, Sem.run_bind, hy, Result.andThen_ok, Sem.run_pure, GoesOn]
    exact ⟨_, G', K, H', h2, undef_rel, hI', hp⟩
  case insert t x k y =>
    obtain ⟨ti, ht, hm, h⟩ := obnd_some h
    obtain ⟨kt, hu⟩ := under_map ht hm
    obtain ⟨r, H', h1, h2⟩ := res_some h
    obtain ⟨rfl, w', G', hy, hI', hp⟩ := oMapUpdate_sound hI hu (ev x) (ev k) (ev y) h1
    simp only [execOp, Sem.run_bind, hy, Result.andThen_ok, Sem.run_pure, GoesOn]
    exact ⟨_, G', K, H', h2, undef_rel, hI', hp⟩
  case range t x =>
    obtain ⟨ti, ht, hm, h⟩ := obnd_some h
    obtain ⟨kt, hu⟩ := under_map ht hm
    obtain ⟨r, H', h1, h2⟩ := res_some h
    obtain ⟨y, w', G', hy, ry, hI', hp⟩ := oRange_sound hI hu (ev x) h1
    simp only [execOp, Sem.run_bind, hy, Result.andThen_ok, Sem.run_pure, GoesOn]
    exact ⟨r, G', K, H', h2, ry, hI', hp⟩
  case next it s =>
    cases s with
    | true => exact h.elim
    | false =>
      obtain ⟨y, w', x, G', K', H', hy, hx, rx, hI', hp⟩ := aNext_sound (P := P) (ty := ty) hI (ev it) h
      simp only [execOp, Sem.run_bind, hy, Result.andThen_ok, Sem.run_pure, GoesOn]
      exact ⟨x, G', K', H', hx, rx, hI', hp⟩
  case entry it =>
    obtain ⟨y, x, hy, hx, rx⟩ := aEntry_sound (P := P) hI (ev it) h
    simp only [execOp, Sem.run_bind, hy, Result.andThen_ok, Sem.run_pure, GoesOn]
    exact Ends.same hI rx hx

end Go.Proofs.YthhmioodienlmaaGreatDoor
