/- The abstract machine, part 1: pure data, abstract values, small abstract heaps, and what it means that they describe a world of the model. -/
import Derived.RangeFuncNested
import Derived.RangeFuncLeaves
import Derived.CallsIn
import Derived.KernelRfl
import Derived.Laws.Sem
import Derived.Deep.MidRow
set_option linter.unusedSimpArgs false
set_option linter.unusedVariables false
namespace Go.Proofs.YthhmioodienlmaaGreatDoor
open Go

abbrev lim : Nat := 4294967296
abbrev Str := List UInt8

/-- pure data: what a Go value without mutable parts holds -/
inductive D where
  | bool (b : Bool)
  | int (k : IntKind) (n : Int)
  | str (s : Str)
  | con (v : Value)
  | sl (full : Bool) (es : List (List D))
  | ptr (cs : List D)

abbrev Kmem := Nat → Nat → Option Value

mutual
def RelD (K : Kmem) : D → Value → Prop
  | .bool b, v => v = .bool b
  | .int k n, v => v = .int k n
  | .str s, v => v = .string ⟨s.toArray⟩ ∧ s.length ≤ lim
  | .con x, v => v = x ∧ x.oneCell' = true
  | .sl c es, v => ∃ a n cap, v = .slice a n cap ∧ n = es.length ∧ n ≤ cap ∧ (c = true → cap = n) ∧ n ≤ lim ∧ (a = none → cap = 0) ∧
      ∀ ad, a = some ad → (cap ≠ 0 → ad.spot = none) ∧ (∃ sz, ∀ e ∈ es, e.length = sz) ∧ RelEs K ad.block ad.off es
  | .ptr cs, v => ∃ b o, v = .pointer (some ⟨b, o, none⟩) ∧ RelCs K b o cs
def RelCs (K : Kmem) : Nat → Nat → List D → Prop
  | _, _, [] => True
  | b, o, c :: cs => (∃ v, K b o = some v ∧ RelD K c v) ∧ RelCs K b (o + 1) cs
def RelEs (K : Kmem) : Nat → Nat → List (List D) → Prop
  | _, _, [] => True
  | b, o, e :: es => RelCs K b o e ∧ RelEs K b (o + e.length) es
end

def Kle (K K' : Kmem) : Prop := ∀ b o v, K b o = some v → K' b o = some v

theorem Kle.refl (K : Kmem) : Kle K K := fun _ _ _ h => h
theorem Kle.trans {A B C : Kmem} (h : Kle A B) (k : Kle B C) : Kle A C := fun b o v e => k b o v (h b o v e)

mutual
theorem RelD.mono {K K' : Kmem} (h : Kle K K') : ∀ (x : D) (v : Value), RelD K x v → RelD K' x v
  | .bool _, _, r => by simpa only [RelD] using r
  | .int _ _, _, r => by simpa only [RelD] using r
  | .str _, _, r => by simpa only [RelD] using r
  | .con _, _, r => by simpa only [RelD] using r
  | .sl c es, v, r => by
    simp only [RelD] at r ⊢
    obtain ⟨a, n, cap, h1, h2, h3, h4, h5, h6, h7⟩ := r
    exact ⟨a, n, cap, h1, h2, h3, h4, h5, h6, fun ad e => ⟨(h7 ad e).1, (h7 ad e).2.1, RelEs.mono h es _ _ (h7 ad e).2.2⟩⟩
  | .ptr cs, v, r => by
    simp only [RelD] at r ⊢
    obtain ⟨b, o, h1, h2⟩ := r
    exact ⟨b, o, h1, RelCs.mono h cs _ _ h2⟩
theorem RelCs.mono {K K' : Kmem} (h : Kle K K') : ∀ (cs : List D) (b o : Nat), RelCs K b o cs → RelCs K' b o cs
  | [], _, _, _ => by simp only [RelCs]
  | c :: cs, b, o, r => by
    simp only [RelCs] at r ⊢
    obtain ⟨⟨v, h1, h2⟩, h3⟩ := r
    exact ⟨⟨v, h _ _ _ h1, RelD.mono h c v h2⟩, RelCs.mono h cs _ _ h3⟩
theorem RelEs.mono {K K' : Kmem} (h : Kle K K') : ∀ (es : List (List D)) (b o : Nat), RelEs K b o es → RelEs K' b o es
  | [], _, _, _ => by simp only [RelEs]
  | e :: es, b, o, r => by
    simp only [RelEs] at r ⊢
    exact ⟨RelCs.mono h e _ _ r.1, RelEs.mono h es _ _ r.2⟩
end

/-- abstract values -/
inductive AV where
  | d (x : D)
  | agg (cs : List AV)
  | tup (vs : List AV)
  | ptr (id off : Nat)
  | fn (f : Fn) (first capt : List AV)
  | map (id : Nat)
  | iter (id : Nat)
  | vec (id pos : Nat) (es : List (List D))
  | arr (id off len sz : Nat)
  | row (id pos : Nat)
  | rp (id pos sz i k : Nat)
  | any

/-- keys of maps -/
inductive MKey where
  | str (s : Str)
  | int (k : IntKind) (n : Int)
  | strs (l : List Str)
  deriving DecidableEq

/-- abstract objects -/
inductive HO where
  | cells (cs : List AV)
  | tip (n sz : Nat)
  | map (ck : Nat) (es : List (MKey × AV))
  | iter (m ck : Nat) (es todo : List (MKey × AV)) (cur : Option (MKey × AV))
  | loop (st : LoopState) (jump : Option Code) (ts : List AV) (ps : Array Tmp) (asg body : Code)
  | row (n sz : Nat) (es : List (List D))
  | dead

/-- where an abstract object lies -/
inductive GI where
  | cells (b n : Nat)
  | tip (w : Option (Nat × Nat × Nat))
  | map (b : Nat) (bs : List Nat)
  | iter (it : Nat) (snap : List Nat)
  | loop (b : Nat) (fn : FuncId) (tmps : Array Value) (params : Array Tmp) (assign body : Code) (defers : Nat)
  | row (w : Option (Nat × Nat))
  | dead

def GI.blocks : GI → List Nat
  | .cells b _ => [b]
  | .tip (some (b, _, _)) => [b]
  | .tip none => []
  | .map b _ => [b]
  | .iter it _ => [it]
  | .loop b _ _ _ _ _ _ => [b]
  | .row (some (b, _)) => [b]
  | .row none => []
  | .dead => []

/-- what a slice over a growing row knows: the row's length so far, and its elements' size -/
abbrev Tips := Nat → Option (Nat × Nat)

def tipsOf (H : List HO) : Tips := fun i => match H[i]? with | some (.tip n sz) => some (n, sz) | some (.row n _ es) => some (n, es.length) | _ => none

/-- where the slice that may grow stands -/
def TipAt (n len sz : Nat) (w : Option (Nat × Nat × Nat)) (pos : Nat) (v : Value) : Prop :=
  pos = n → ∃ a cap, v = .slice a len cap ∧
    (cap = len ∨ ∃ b e sp o, w = some (b, e, sp) ∧ a = some ⟨b, o, none⟩ ∧ o + len * sz = e ∧ cap = len + sp)

/-- where a row that changes stands -/
def RowAt (n len : Nat) (w : Option (Nat × Nat)) (pos : Nat) (v : Value) : Prop :=
  pos = n → (w = none ∧ len = 0 ∧ ∃ a, v = .slice a 0 0) ∨ ∃ b cap, w = some (b, cap) ∧ v = .slice (some ⟨b, 0, none⟩) len cap

mutual
def RelA (G : List GI) (T : Tips) (K : Kmem) : AV → Value → Prop
  | .d x, v => RelD K x v
  | .agg cs, v => ∃ vs, v = .agg vs ∧ RelAs G T K cs vs.toList
  | .tup xs, v => ∃ vs, v = .tuple vs ∧ RelAs G T K xs vs.toList
  | .ptr id off, v => ∃ g, G[id]? = some g ∧ v.oneCell' = true ∧ (g = .dead ∨ ∃ b n, g = .cells b n ∧ v = .pointer (some ⟨b, off, none⟩))
  | .fn f a c, v => ∃ vs ws, v = .func f vs ws ∧ RelAs G T K a vs.toList ∧ RelAs G T K c ws.toList
  | .map id, v => ∃ g, G[id]? = some g ∧ v.oneCell' = true ∧ (g = .dead ∨ ∃ b bs, g = .map b bs ∧ v = .map (some b))
  | .iter id, v => ∃ g, G[id]? = some g ∧ v.oneCell' = true ∧ (g = .dead ∨ (∃ it s, g = .iter it s ∧ v = .pointer (some ⟨it, 0, none⟩)) ∨ ∃ b f ts ps a c d, g = .loop b f ts ps a c d ∧ v = .func (.yield b) #[] #[])
  | .vec id pos es, v => RelD K (.sl false es) v ∧ ∃ g, G[id]? = some g ∧ (g = .dead ∨ ∃ n sz w, T id = some (n, sz) ∧ g = .tip w ∧ pos ≤ n ∧ (∀ e ∈ es, e.length = sz) ∧ TipAt n es.length sz w pos v)
  | .arr id off len sz, v => ∃ g, G[id]? = some g ∧ v.oneCell' = true ∧ (g = .dead ∨ ∃ b n cap, g = .cells b n ∧ v = .slice (some ⟨b, off, none⟩) len cap ∧ len ≤ cap ∧ len ≤ lim ∧ off + cap * sz ≤ n)
  | .row id pos, v => ∃ g, G[id]? = some g ∧ v.oneCell' = true ∧ (g = .dead ∨ ∃ n len w, T id = some (n, len) ∧ g = .row w ∧ pos ≤ n ∧ RowAt n len w pos v)
  | .rp id pos sz i k, v => ∃ g, G[id]? = some g ∧ v.oneCell' = true ∧ (g = .dead ∨ ∃ n len w, T id = some (n, len) ∧ g = .row w ∧ pos ≤ n ∧ (pos = n → ∃ b cap, w = some (b, cap) ∧ v = .pointer (some ⟨b, i * sz + k, none⟩)))
  | .any, _ => True
def RelAs (G : List GI) (T : Tips) (K : Kmem) : List AV → List Value → Prop
  | [], vs => vs = []
  | c :: cs, vs => ∃ v ws, vs = v :: ws ∧ RelA G T K c v ∧ RelAs G T K cs ws
end

mutual
/-- every object that a value names is one of S -/
def AV.inS (S : Nat → Prop) : AV → Prop
  | .d _ => True
  | .agg cs => AV.inSs S cs
  | .tup cs => AV.inSs S cs
  | .ptr id _ => S id
  | .fn _ a c => AV.inSs S a ∧ AV.inSs S c
  | .map id => S id
  | .iter id => S id
  | .vec id _ _ => S id
  | .arr id _ _ _ => S id
  | .row id _ => S id
  | .rp id _ _ _ _ => S id
  | .any => True
def AV.inSs (S : Nat → Prop) : List AV → Prop
  | [] => True
  | c :: cs => AV.inS S c ∧ AV.inSs S cs
end

def evo1 (g : GI) (t : Option (Nat × Nat)) (g' : GI) (t' : Option (Nat × Nat)) : Prop :=
  match g with
  | .cells b n => g' = .cells b n ∨ g' = .dead
  | .tip w => g' = .dead ∨ ∃ w', g' = .tip w' ∧ ∀ n sz, t = some (n, sz) → ∃ n', t' = some (n', sz) ∧ n ≤ n' ∧ (n = n' → w' = w)
  | .map b _ => g' = .dead ∨ ∃ bs', g' = .map b bs'
  | .iter it s => g' = .dead ∨ g' = .iter it s
  | .loop b f ts ps a c d => g' = .loop b f ts ps a c d
  | .row w => g' = .dead ∨ ∃ w', g' = .row w' ∧ ∀ n l, t = some (n, l) → ∃ n' l', t' = some (n', l') ∧ n ≤ n' ∧ (n = n' → w' = w ∧ l' = l)
  | .dead => g' = .dead

theorem evo1.refl (g : GI) (t : Option (Nat × Nat)) : evo1 g t g t := by
  cases g <;> simp [evo1]
  · intro n sz h; exact ⟨n, h, Nat.le_refl _⟩
  · intro n l h; exact ⟨n, l, h, Nat.le_refl _, fun _ => rfl⟩

theorem evo1.trans {g g' g'' : GI} {t t' t'' : Option (Nat × Nat)} (h : evo1 g t g' t') (k : evo1 g' t' g'' t'') : evo1 g t g'' t'' := by
  cases g <;> simp only [evo1] at h ⊢
  case cells b =>
    rcases h with rfl | rfl
    · exact k
    · exact .inr k
  case iter it s =>
    rcases h with rfl | rfl
    · exact .inl k
    · exact k
  case loop => subst h; exact k
  case dead => subst h; exact k
  case map b bs =>
    rcases h with rfl | ⟨bs', rfl⟩
    · exact .inl k
    · exact k
  case tip w =>
    rcases h with rfl | ⟨w', rfl, h1⟩
    · exact .inl k
    · rcases k with rfl | ⟨w'', rfl, h2⟩
      · exact .inl rfl
      · refine .inr ⟨w'', rfl, fun n sz e => ?_⟩
        obtain ⟨n', e', l1, i1⟩ := h1 n sz e
        obtain ⟨n'', e'', l2, i2⟩ := h2 n' sz e'
        refine ⟨n'', e'', Nat.le_trans l1 l2, fun q => ?_⟩
        have : n = n' := by omega
        have q2 : n' = n'' := by omega
        rw [i2 q2, i1 this]
  case row w =>
    rcases h with rfl | ⟨w', rfl, h1⟩
    · exact .inl k
    · rcases k with rfl | ⟨w'', rfl, h2⟩
      · exact .inl rfl
      · refine .inr ⟨w'', rfl, fun n l e => ?_⟩
        obtain ⟨n', l', e', l1, i1⟩ := h1 n l e
        obtain ⟨n'', l'', e'', l2, i2⟩ := h2 n' l' e'
        refine ⟨n'', l'', e'', Nat.le_trans l1 l2, fun q => ?_⟩
        obtain ⟨a1, a2⟩ := i1 (by omega)
        obtain ⟨b1, b2⟩ := i2 (by omega)
        exact ⟨b1.trans a1, b2.trans a2⟩

theorem evo1.row {w : Option (Nat × Nat)} {t t' : Option (Nat × Nat)} {g' : GI} (h : evo1 (.row w) t g' t') : g' = .dead ∨ ∃ w', g' = .row w' ∧ ∀ n l, t = some (n, l) → ∃ n' l', t' = some (n', l') ∧ n ≤ n' ∧ (n = n' → w' = w ∧ l' = l) := h

mutual
theorem RelA.conv {S : Nat → Prop} {G G' : List GI} {T T' : Tips} {K K' : Kmem} (hk : Kle K K')
    (h : ∀ i, S i → ∀ g, G[i]? = some g → ∃ g', G'[i]? = some g' ∧ evo1 g (T i) g' (T' i)) : ∀ (a : AV) (v : Value), a.inS S → RelA G T K a v → RelA G' T' K' a v
  | .d x, v, _, r => by simp only [RelA] at r ⊢; exact RelD.mono hk x v r
  | .agg cs, v, s, r => by
    simp only [RelA] at r ⊢
    simp only [AV.inS] at s
    obtain ⟨vs, e, r⟩ := r
    exact ⟨vs, e, RelAs.conv hk h cs _ s r⟩
  | .tup cs, v, s, r => by
    simp only [RelA] at r ⊢
    simp only [AV.inS] at s
    obtain ⟨vs, e, r⟩ := r
    exact ⟨vs, e, RelAs.conv hk h cs _ s r⟩
  | .ptr id off, v, s, r => by
    simp only [RelA] at r ⊢
    obtain ⟨g, e, o1, r⟩ := r
    obtain ⟨g', e', q⟩ := h id s _ e
    refine ⟨g', e', o1, ?_⟩
    rcases r with rfl | ⟨b, n, rfl, r⟩
    · simp only [evo1] at q; exact .inl q
    · simp only [evo1] at q
      rcases q with rfl | rfl
      · exact .inr ⟨b, n, rfl, r⟩
      · exact .inl rfl
  | .fn f a c, v, s, r => by
    simp only [RelA] at r ⊢
    simp only [AV.inS] at s
    obtain ⟨vs, ws, e, r1, r2⟩ := r
    exact ⟨vs, ws, e, RelAs.conv hk h a _ s.1 r1, RelAs.conv hk h c _ s.2 r2⟩
  | .map id, v, s, r => by
    simp only [RelA] at r ⊢
    obtain ⟨g, e, o1, r⟩ := r
    obtain ⟨g', e', q⟩ := h id s _ e
    refine ⟨g', e', o1, ?_⟩
    rcases r with rfl | ⟨b, n, rfl, r⟩
    · simp only [evo1] at q; exact .inl q
    · simp only [evo1] at q
      rcases q with rfl | ⟨bs', rfl⟩
      · exact .inl rfl
      · exact .inr ⟨b, bs', rfl, r⟩
  | .iter id, v, s, r => by
    simp only [RelA] at r ⊢
    obtain ⟨g, e, o1, r⟩ := r
    obtain ⟨g', e', q⟩ := h id s _ e
    refine ⟨g', e', o1, ?_⟩
    rcases r with rfl | ⟨b, n, rfl, r⟩ | ⟨b, f, ts, ps, a, c, d, rfl, r⟩
    · simp only [evo1] at q; exact .inl q
    · simp only [evo1] at q
      rcases q with rfl | rfl
      · exact .inl rfl
      · exact .inr (.inl ⟨b, n, rfl, r⟩)
    · simp only [evo1] at q
      subst q
      exact .inr (.inr ⟨b, f, ts, ps, a, c, d, rfl, r⟩)
  | .vec id pos es, v, s, r => by
    simp only [RelA] at r ⊢
    obtain ⟨r1, g, e, r⟩ := r
    obtain ⟨g', e', q⟩ := h id s _ e
    refine ⟨RelD.mono hk _ v r1, g', e', ?_⟩
    rcases r with rfl | ⟨n, sz, w, ht, rfl, hle, hu, hat⟩
    · simp only [evo1] at q; exact .inl q
    · simp only [evo1] at q
      rcases q with rfl | ⟨w', rfl, q⟩
      · exact .inl rfl
      · obtain ⟨n', ht', l, iw⟩ := q n sz ht
        refine .inr ⟨n', sz, w', ht', rfl, Nat.le_trans hle l, hu, ?_⟩
        intro hp
        have hn : n = n' := by omega
        rw [iw hn]
        exact hat (by omega)
  | .arr id off len sz, v, s, r => by
    simp only [RelA] at r ⊢
    obtain ⟨g, e, o1, r⟩ := r
    obtain ⟨g', e', q⟩ := h id s _ e
    refine ⟨g', e', o1, ?_⟩
    rcases r with rfl | ⟨b, n, cap, rfl, r⟩
    · simp only [evo1] at q; exact .inl q
    · simp only [evo1] at q
      rcases q with rfl | rfl
      · exact .inr ⟨b, n, cap, rfl, r⟩
      · exact .inl rfl
  | .row id pos, v, s, r => by
    simp only [RelA] at r ⊢
    obtain ⟨g, e, o1, r⟩ := r
    obtain ⟨g', e', q⟩ := h id s _ e
    refine ⟨g', e', o1, ?_⟩
    rcases r with rfl | ⟨n, len, w, ht, rfl, hle, hat⟩
    · simp only [evo1] at q; exact .inl q
    · simp only [evo1] at q
      rcases q with rfl | ⟨w', rfl, q⟩
      · exact .inl rfl
      · obtain ⟨n', l', ht', l, iw⟩ := q n len ht
        refine .inr ⟨n', l', w', ht', rfl, Nat.le_trans hle l, fun hp => ?_⟩
        obtain ⟨rfl, rfl⟩ := iw (by omega)
        exact hat (by omega)
  | .rp id pos sz i k, v, s, r => by
    simp only [RelA] at r ⊢
    obtain ⟨g, e, o1, r⟩ := r
    obtain ⟨g', e', q⟩ := h id s _ e
    refine ⟨g', e', o1, ?_⟩
    rcases r with rfl | ⟨n, len, w, ht, rfl, hle, hat⟩
    · simp only [evo1] at q; exact .inl q
    · simp only [evo1] at q
      rcases q with rfl | ⟨w', rfl, q⟩
      · exact .inl rfl
      · obtain ⟨n', l', ht', l, iw⟩ := q n len ht
        refine .inr ⟨n', l', w', ht', rfl, Nat.le_trans hle l, fun hp => ?_⟩
        obtain ⟨rfl, rfl⟩ := iw (by omega)
        exact hat (by omega)
  | .any, _, _, _ => by simp only [RelA]
theorem RelAs.conv {S : Nat → Prop} {G G' : List GI} {T T' : Tips} {K K' : Kmem} (hk : Kle K K')
    (h : ∀ i, S i → ∀ g, G[i]? = some g → ∃ g', G'[i]? = some g' ∧ evo1 g (T i) g' (T' i)) : ∀ (a : List AV) (v : List Value), AV.inSs S a → RelAs G T K a v → RelAs G' T' K' a v
  | [], _, _, r => by simpa only [RelAs] using r
  | c :: cs, vs, s, r => by
    simp only [RelAs] at r ⊢
    simp only [AV.inSs] at s
    obtain ⟨v, ws, e, r1, r2⟩ := r
    exact ⟨v, ws, e, RelA.conv hk h c v s.1 r1, RelAs.conv hk h cs ws s.2 r2⟩
end

mutual
theorem AV.inS_true : ∀ a : AV, a.inS (fun _ => True)
  | .d _ | .ptr _ _ | .map _ | .iter _ | .vec _ _ _ | .arr _ _ _ _ | .row _ _ | .rp _ _ _ _ _ | .any => by simp only [AV.inS]
  | .agg cs => by simp only [AV.inS]; exact AV.inSs_true cs
  | .tup cs => by simp only [AV.inS]; exact AV.inSs_true cs
  | .fn _ a c => by simp only [AV.inS]; exact ⟨AV.inSs_true a, AV.inSs_true c⟩
theorem AV.inSs_true : ∀ a : List AV, AV.inSs (fun _ => True) a
  | [] => by simp only [AV.inSs]
  | c :: cs => by simp only [AV.inSs]; exact ⟨AV.inS_true c, AV.inSs_true cs⟩
end

/-- full evolution: every object that was there is there still -/
def Evo (N : Nat) (G : List GI) (T : Tips) (G' : List GI) (T' : Tips) : Prop :=
  ∀ i, i < N → ∀ g, G[i]? = some g → ∃ g', G'[i]? = some g' ∧ evo1 g (T i) g' (T' i)

theorem Evo.refl (N : Nat) (G : List GI) (T : Tips) : Evo N G T G T := fun _ _ g h => ⟨g, h, evo1.refl _ _⟩
theorem Evo.trans {N : Nat} {G G' G'' : List GI} {T T' T'' : Tips} (h : Evo N G T G' T') (k : Evo N G' T' G'' T'') : Evo N G T G'' T'' := fun i hi g e => by
  obtain ⟨g', e', q⟩ := h i hi g e
  obtain ⟨g'', e'', q'⟩ := k i hi g' e'
  exact ⟨g'', e'', q.trans q'⟩

theorem Evo.less {N M : Nat} {G G' : List GI} {T T' : Tips} (h : Evo N G T G' T') (hm : M ≤ N) : Evo M G T G' T' := fun i hi => h i (by omega)

theorem RelA.evo {G G' : List GI} {T T' : Tips} {K K' : Kmem} (hk : Kle K K') (h : Evo G.length G T G' T') {a : AV} {v : Value} (r : RelA G T K a v) : RelA G' T' K' a v :=
  RelA.conv (S := fun _ => True) hk (fun i _ g e => h i (List.getElem?_eq_some_iff.1 e).1 g e) a v (AV.inS_true a) r
theorem RelAs.evo {G G' : List GI} {T T' : Tips} {K K' : Kmem} (hk : Kle K K') (h : Evo G.length G T G' T') {a : List AV} {v : List Value} (r : RelAs G T K a v) : RelAs G' T' K' a v :=
  RelAs.conv (S := fun _ => True) hk (fun i _ g e => h i (List.getElem?_eq_some_iff.1 e).1 g e) a v (AV.inSs_true a) r

theorem RelAs.length {G : List GI} {T : Tips} {K : Kmem} : ∀ {a : List AV} {v : List Value}, RelAs G T K a v → a.length = v.length
  | [], v, r => by simp only [RelAs] at r; simp [r]
  | c :: cs, v, r => by
    simp only [RelAs] at r
    obtain ⟨x, ws, rfl, _, r⟩ := r
    simp [RelAs.length r]

theorem RelAs.get {G : List GI} {T : Tips} {K : Kmem} : ∀ {a : List AV} {v : List Value} {i : Nat} {x : AV}, RelAs G T K a v → a[i]? = some x → ∃ y, v[i]? = some y ∧ RelA G T K x y
  | [], v, i, x, _, h => by simp at h
  | c :: cs, v, i, x, r, h => by
    simp only [RelAs] at r
    obtain ⟨y, ws, rfl, r1, r2⟩ := r
    cases i with
    | zero => simp at h; subst h; exact ⟨y, rfl, r1⟩
    | succ i => simp at h ⊢; exact RelAs.get r2 h

theorem RelAs.set {G : List GI} {T : Tips} {K : Kmem} : ∀ {a : List AV} {v : List Value} (i : Nat) {x : AV} {y : Value}, RelAs G T K a v → RelA G T K x y → RelAs G T K (a.set i x) (v.set i y)
  | [], v, i, x, y, r, h => by simp only [RelAs] at r; subst r; simp [RelAs]
  | c :: cs, v, i, x, y, r, h => by
    simp only [RelAs] at r
    obtain ⟨z, ws, rfl, r1, r2⟩ := r
    cases i with
    | zero => simp only [List.set_cons_zero, RelAs]; exact ⟨_, _, rfl, h, r2⟩
    | succ i => simp only [List.set_cons_succ, RelAs]; exact ⟨_, _, rfl, r1, RelAs.set i r2 h⟩

theorem RelAs.append {G : List GI} {T : Tips} {K : Kmem} : ∀ {a b : List AV} {v w : List Value}, RelAs G T K a v → RelAs G T K b w → RelAs G T K (a ++ b) (v ++ w)
  | [], b, v, w, r, s => by simp only [RelAs] at r; subst r; simpa using s
  | c :: cs, b, v, w, r, s => by
    simp only [RelAs] at r
    obtain ⟨z, ws, rfl, r1, r2⟩ := r
    simp only [List.cons_append, RelAs]
    exact ⟨_, _, rfl, r1, RelAs.append r2 s⟩

theorem RelAs.cons {G : List GI} {T : Tips} {K : Kmem} {a : AV} {as : List AV} {v : Value} {vs : List Value} (h : RelA G T K a v) (hs : RelAs G T K as vs) : RelAs G T K (a :: as) (v :: vs) := by
  simp only [RelAs]; exact ⟨_, _, rfl, h, hs⟩

theorem RelAs.nil {G : List GI} {T : Tips} {K : Kmem} : RelAs G T K [] [] := by simp only [RelAs]

end Go.Proofs.YthhmioodienlmaaGreatDoor

/- The abstract machine, part 2: when an abstract heap describes a world (`Inv`), and what a step may change (`Post`). -/
namespace Go.Proofs.YthhmioodienlmaaGreatDoor
open Go

def fOk (fr : Nat × Nat) (o : Nat) : Prop := ¬ (fr.1 ≤ o ∧ o < fr.2)

def keyRel : MKey → Value → Prop
  | .str s, v => v = .string ⟨s.toArray⟩ ∧ s.length ≤ lim
  | .int k n, v => v = .int k n
  | .strs l, v => v = .agg (l.map fun s => Value.string ⟨s.toArray⟩).toArray ∧ ∀ s ∈ l, s.length ≤ lim

def MapRel (G : List GI) (T : Tips) (K : Kmem) : List (MKey × AV) → List Nat → List MapEntry → Prop
  | [], bs, ms => bs = [] ∧ ms = []
  | (k, a) :: es, bs, ms => ∃ b bs' m ms', bs = b :: bs' ∧ ms = m :: ms' ∧ m.born = b ∧ keyRel k m.key ∧ RelA G T K a m.val ∧ MapRel G T K es bs' ms'

/-- what of the entries a walk has still to show -/
def left (es : List (MKey × AV)) (snap : List Nat) (seen : Array Nat) : List (MKey × AV) :=
  ((es.zip snap).filter fun x => !seen.contains x.2).map (·.1)

def ObjRel (G : List GI) (T : Tips) (K : Kmem) (w : World) : HO → GI → Prop
  | .cells cs, .cells b n => (∃ vs t fr, w.heap[b]? = some (.cells vs t fr) ∧ (∀ o, o < vs.size → fOk fr o) ∧ vs.size = n ∧ cs.length ≤ n ∧ RelAs G T K cs (vs.toList.take cs.length)) ∧ ∀ o, K b o = none
  | .tip _ _, .tip none => True
  | .tip _ sz, .tip (some (b, e, sp)) => (∃ vs t fr, w.heap[b]? = some (.cells vs t fr) ∧ (∀ o, o < vs.size → fOk fr o) ∧ e + sp * sz ≤ vs.size) ∧ ∀ o, e ≤ o → K b o = none
  | .map ck es, .map b bs => (∃ ms, w.heap[b]? = some (.map ms ck) ∧ MapRel G T K es bs ms.toList) ∧ bs.Nodup ∧ ∀ x ∈ bs, x < ck
  | .iter m ck es todo cur, .iter it snap => ∃ b bs seen last, w.heap[it]? = some (.mapIter (some b) ck seen last) ∧ (G[m]? = some (.map b bs) ∨ G[m]? = some .dead) ∧
      snap.length = es.length ∧ todo = left es snap seen ∧ last = ck ∧
      (∀ (k : MKey) (a : AV), cur = some (k, a) → ∃ (i s : Nat), seen.back? = some s ∧ snap[i]? = some s ∧ es[i]? = some (k, a))
  | .loop st j ats aps aasg abody, .loop b fn tmps ps asg body d => w.heap[b]? = some (.loop { state := st, pending := j, fn := fn, tmps := tmps, params := ps, assign := asg, body := body, defers := d }) ∧
      aps = ps ∧ aasg = asg ∧ abody = body ∧ RelAs G T K ats tmps.toList
  | .row _ _ es, .row none => es = []
  | .row _ sz es, .row (some (b, cap)) => (∃ vs t fr, w.heap[b]? = some (.cells vs t fr) ∧ (∀ o, o < vs.size → fOk fr o) ∧ cap * sz ≤ vs.size ∧ es.length ≤ cap ∧ (∀ e ∈ es, e.length = sz) ∧ RelAs G T K (es.flatten.map .d) (vs.toList.take (es.length * sz))) ∧ es.length ≤ lim ∧ ∀ o, K b o = none
  | .dead, .dead => True
  | _, _ => False

/-- what ties a walk to its map: no entry has come in before the walk began that the walk does not know -/
def WalkOk (ck : Nat) (es : List (MKey × AV)) (snap : List Nat) (ck' : Nat) (es' : List (MKey × AV)) (bs : List Nat) : Prop :=
  ck ≤ ck' ∧ (ck' = ck → es'.length ≤ es.length ∧ (es'.length = es.length → bs = snap))

/-- the one package variable that is read: internal/bytealg.MaxLen, some number -/
def GlobOk (K : Kmem) : Prop := ∃ m : Int, K 0 0 = some (.int .i64 m)
theorem GlobOk.mono {K K' : Kmem} (h : GlobOk K) (hk : Kle K K') : GlobOk K' := let ⟨m, e⟩ := h; ⟨m, hk _ _ _ e⟩

structure Inv (G : List GI) (K : Kmem) (w : World) (H : List HO) : Prop where
  agree : ∀ (b o : Nat) (v : Value), K b o = some v → w.cell? ⟨b, o, none⟩ = some v
  glob : GlobOk K
  len : G.length = H.length
  obj : ∀ (i : Nat) (o : HO) (g : GI), H[i]? = some o → G[i]? = some g → ObjRel G (tipsOf H) K w o g
  apart : ∀ (i j : Nat) (gi gj : GI) (b : Nat), G[i]? = some gi → G[j]? = some gj → b ∈ gi.blocks → b ∈ gj.blocks → i = j
  walks : ∀ (i m ck : Nat) (es todo : List (MKey × AV)) (cur : Option (MKey × AV)) (it : Nat) (snap : List Nat) (ck' : Nat) (es' : List (MKey × AV)) (b : Nat) (bs : List Nat), H[i]? = some (.iter m ck es todo cur) → G[i]? = some (.iter it snap) → H[m]? = some (.map ck' es') → G[m]? = some (.map b bs) → WalkOk ck es snap ck' es' bs

def inB (G : List GI) (b : Nat) : Prop := ∃ (i : Nat) (g : GI), G[i]? = some g ∧ b ∈ g.blocks

/-- what a piece of the run may have changed: nothing but the objects' own blocks, and new ones -/
structure Post (N : Nat) (G : List GI) (T : Tips) (K : Kmem) (w : World) (G' : List GI) (T' : Tips) (K' : Kmem) (w' : World) : Prop where
  len : N ≤ G'.length
  evo : Evo N G T G' T'
  kle : Kle K K'
  knew : ∀ b o v, K' b o = some v → K b o = none → w.heap.size ≤ b ∨ inB G b
  gnew : ∀ b, inB G' b → inB G b ∨ w.heap.size ≤ b
  size : w.heap.size ≤ w'.heap.size
  same : ∀ b, b < w.heap.size → ¬ inB G b → w'.heap[b]? = w.heap[b]?
  os : w'.os = w.os
  out : w'.output = w.output
  tape : w'.tape = w.tape

theorem Post.refl {N : Nat} {G : List GI} {T : Tips} {K : Kmem} {w : World} (h : N ≤ G.length) : Post N G T K w G T K w :=
  ⟨h, Evo.refl _ _ _, Kle.refl _, fun b o v h1 h2 => by simp [h1] at h2, fun b h => .inl h, Nat.le_refl _, fun _ _ _ => rfl, rfl, rfl, rfl⟩

theorem Post.trans {N : Nat} {G G' G'' : List GI} {T T' T'' : Tips} {K K' K'' : Kmem} {w w' w'' : World}
    (h : Post N G T K w G' T' K' w') (k : Post N G' T' K' w' G'' T'' K'' w'') : Post N G T K w G'' T'' K'' w'' where
  len := k.len
  evo := h.evo.trans k.evo
  kle := h.kle.trans k.kle
  knew := fun b o v h1 h2 => by
    by_cases hk : K' b o = none
    · rcases k.knew b o v h1 hk with h3 | h3
      · exact .inl (Nat.le_trans h.size h3)
      · rcases h.gnew b h3 with h4 | h4
        · exact .inr h4
        · exact .inl h4
    · cases hv : K' b o with
      | none => exact absurd hv hk
      | some u => exact h.knew b o u hv h2
  gnew := fun b hb => by
    rcases k.gnew b hb with h1 | h1
    · exact h.gnew b h1
    · exact .inr (Nat.le_trans h.size h1)
  size := Nat.le_trans h.size k.size
  same := fun b hb hn => by
    rw [k.same b (Nat.lt_of_lt_of_le hb h.size) (fun hb' => by
      rcases h.gnew b hb' with h1 | h1
      · exact hn h1
      · omega), h.same b hb hn]
  os := k.os.trans h.os
  out := k.out.trans h.out
  tape := k.tape.trans h.tape

theorem Post.less {N M : Nat} {G G' : List GI} {T T' : Tips} {K K' : Kmem} {w w' : World} (h : Post N G T K w G' T' K' w') (hm : M ≤ N) : Post M G T K w G' T' K' w' :=
  { h with len := by have := h.len; omega, evo := h.evo.less hm }

theorem MapRel.conv {G G' : List GI} {T T' : Tips} {K K' : Kmem} : ∀ {es : List (MKey × AV)} {bs : List Nat} {ms : List MapEntry},
    (∀ x ∈ es, ∀ v, RelA G T K x.2 v → RelA G' T' K' x.2 v) → MapRel G T K es bs ms → MapRel G' T' K' es bs ms
  | [], _, _, _, r => by simpa only [MapRel] using r
  | (k, a) :: es, bs, ms, h, r => by
    simp only [MapRel] at r ⊢
    obtain ⟨b, bs', m, ms', h1, h2, h3, h4, h5, h6⟩ := r
    exact ⟨b, bs', m, ms', h1, h2, h3, h4, h (k, a) (by simp) _ h5, MapRel.conv (fun x hx => h x (by simp [hx])) h6⟩

theorem MapRel.length {G : List GI} {T : Tips} {K : Kmem} : ∀ {es : List (MKey × AV)} {bs : List Nat} {ms : List MapEntry}, MapRel G T K es bs ms → bs.length = es.length ∧ ms.length = es.length
  | [], _, _, r => by simp only [MapRel] at r; simp [r.1, r.2]
  | (k, a) :: es, bs, ms, r => by
    simp only [MapRel] at r
    obtain ⟨b, bs', m, ms', rfl, rfl, _, _, _, h6⟩ := r
    have := h6.length
    simp [this.1, this.2]

/-- an object's description lives on where its block, and what it names, does -/
theorem ObjRel.conv {G G' : List GI} {T T' : Tips} {K K' : Kmem} {w w' : World} {o : HO} {g : GI}
    (hb : ∀ b, b ∈ g.blocks → w'.heap[b]? = w.heap[b]?) (hk : ∀ b, b ∈ g.blocks → ∀ p, K b p = none → K' b p = none)
    (hr : ∀ a v, RelA G T K a v → RelA G' T' K' a v) (hg : ∀ (i b : Nat) (bs : List Nat), (G[i]? = some (.map b bs) ∨ G[i]? = some .dead) → ∃ bs' : List Nat, (G'[i]? = some (.map b bs') ∨ G'[i]? = some .dead)) (h : ObjRel G T K w o g) : ObjRel G' T' K' w' o g := by
  have hrs : ∀ as vs, RelAs G T K as vs → RelAs G' T' K' as vs := by
    intro as
    induction as with
    | nil => intro vs r; simpa only [RelAs] using r
    | cons a as ih =>
      intro vs r
      simp only [RelAs] at r ⊢
      obtain ⟨v, ws, e, r1, r2⟩ := r
      exact ⟨v, ws, e, hr _ _ r1, ih _ r2⟩
  cases o with
  | cells cs =>
    cases g <;> simp only [ObjRel] at h ⊢
    rename_i b n
    have e := hb b (by simp [GI.blocks])
    obtain ⟨⟨vs, t, fr, h1, h2, h3, h5, h6⟩, h4⟩ := h
    exact ⟨⟨vs, t, fr, by rw [e, h1], h2, h3, h5, hrs _ _ h6⟩, fun p => hk b (by simp [GI.blocks]) p (h4 p)⟩
  | tip n sz =>
    cases g <;> simp only [ObjRel] at h ⊢
    rename_i w0
    cases w0 with
    | none => simp only [ObjRel]
    | some x =>
      obtain ⟨b, e0, sp⟩ := x
      simp only [ObjRel] at h ⊢
      have e := hb b (by simp [GI.blocks])
      obtain ⟨⟨vs, t, fr, h1, h2, h3⟩, h4⟩ := h
      exact ⟨⟨vs, t, fr, by rw [e, h1], h2, h3⟩, fun p hp => hk b (by simp [GI.blocks]) p (h4 p hp)⟩
  | map ck es =>
    cases g <;> simp only [ObjRel] at h ⊢
    rename_i b bs
    have e := hb b (by simp [GI.blocks])
    obtain ⟨⟨ms, h1, h2⟩, h3⟩ := h
    exact ⟨⟨ms, by rw [e, h1], MapRel.conv (fun x _ v => hr _ v) h2⟩, h3⟩
  | iter m ck es todo cur =>
    cases g <;> simp only [ObjRel] at h ⊢
    rename_i it snap
    have e := hb it (by simp [GI.blocks])
    obtain ⟨b, bs, seen, last, h1, h2, h3⟩ := h
    obtain ⟨bs', h2'⟩ := hg m b bs h2
    exact ⟨b, bs', seen, last, by rw [e, h1], h2', h3⟩
  | loop st j ats aps aasg abody =>
    cases g <;> simp only [ObjRel] at h ⊢
    rw [hb _ (by simp [GI.blocks]), h.1]
    exact ⟨rfl, h.2.1, h.2.2.1, h.2.2.2.1, hrs _ _ h.2.2.2.2⟩
  | row n sz es =>
    cases g <;> simp only [ObjRel] at h ⊢
    rename_i w0
    cases w0 with
    | none => simp only [ObjRel] at h ⊢; exact h
    | some x =>
      obtain ⟨b, cap⟩ := x
      simp only [ObjRel] at h ⊢
      have e := hb b (by simp [GI.blocks])
      obtain ⟨⟨vs, t, fr, h1, h2, h3, h4, h5, h6⟩, h7, h8⟩ := h
      exact ⟨⟨vs, t, fr, by rw [e, h1], h2, h3, h4, h5, hrs _ _ h6⟩, h7, fun p => hk b (by simp [GI.blocks]) p (h8 p)⟩
  | dead =>
    cases g <;> simp only [ObjRel] at h ⊢

theorem Inv.lt_of_block {G : List GI} {K : Kmem} {w : World} {H : List HO} (h : Inv G K w H) {b : Nat} (hb : inB G b) : b < w.heap.size := by
  obtain ⟨i, g, hg, hb⟩ := hb
  have hi : i < H.length := by rw [← h.len]; exact (List.getElem?_eq_some_iff.1 hg).1
  have ho := h.obj i H[i] g (List.getElem?_eq_getElem hi) hg
  have key : ∀ {o : Obj}, w.heap[b]? = some o → b < w.heap.size := fun e => (Array.getElem?_eq_some_iff.1 e).1
  generalize H[i] = o at ho
  cases g <;> simp only [GI.blocks] at hb
  case cells b' n' =>
    simp at hb; subst hb
    cases o <;> simp only [ObjRel] at ho
    obtain ⟨⟨vs, t, fr, h1, _⟩, _⟩ := ho
    exact key h1
  case tip w0 =>
    cases w0 with
    | none => simp [GI.blocks] at hb
    | some x =>
      obtain ⟨b', e, sp⟩ := x
      simp [GI.blocks] at hb; subst hb
      cases o <;> simp only [ObjRel] at ho
      obtain ⟨⟨vs, t, fr, h1, _⟩, _⟩ := ho
      exact key h1
  case map b' bs =>
    simp at hb; subst hb
    cases o <;> simp only [ObjRel] at ho
    obtain ⟨⟨ms, h1, _⟩, _⟩ := ho
    exact key h1
  case iter it s =>
    simp at hb; subst hb
    cases o <;> simp only [ObjRel] at ho
    obtain ⟨b, bs, seen, last, h1, _⟩ := ho
    exact key h1
  case loop b' _ _ _ _ _ _ =>
    simp at hb; subst hb
    cases o <;> simp only [ObjRel] at ho
    exact key ho.1
  case row w0 =>
    cases w0 with
    | none => simp [GI.blocks] at hb
    | some x =>
      obtain ⟨b', cap⟩ := x
      simp [GI.blocks] at hb; subst hb
      cases o <;> simp only [ObjRel] at ho
      obtain ⟨⟨vs, t, fr, h1, _⟩, _⟩ := ho
      exact key h1
  case dead => simp at hb

theorem Inv.k_lt {G : List GI} {K : Kmem} {w : World} {H : List HO} (h : Inv G K w H) {b o : Nat} {v : Value} (hk : K b o = some v) : b < w.heap.size := by
  have := h.agree b o v hk
  unfold World.cell? at this
  cases e : w.heap[b]? with
  | none => simp [e] at this
  | some x => exact (Array.getElem?_eq_some_iff.1 e).1

end Go.Proofs.YthhmioodienlmaaGreatDoor

/- The abstract machine, part 3: what the operations do to abstract values. -/
namespace Go.Proofs.YthhmioodienlmaaGreatDoor
open Go

/-- what the abstract machine asks of a type -/
structure TInf where
  size : Nat
  bytes : Nat
  agg : Bool
  fields : List (Nat × Nat × Bool)   -- offset, size, is it made of cells
  elem : TypeId
  alen : Option Nat                  -- an array's length
  isSl : Bool
  isMap : Bool
  key : TypeId
  kint : Option IntKind
  isStr : Bool
  zero : List D

def absD : Value → D
  | .bool b => .bool b
  | .int k n => .int k n
  | .string s => if s.data.toList.length ≤ lim then .str s.data.toList else .con (.string s)
  | .slice none 0 0 => .sl true []
  | v => .con v

def absV : Value → AV
  | .agg cs => if cs.all Value.oneCell' then .agg (cs.toList.map fun c => .d (absD c)) else .any
  | .tuple _ => .any
  | v => .d (absD v)

def isRowT (P : Program) (t : TypeId) : Bool := match P.underlying t with | some (.struct _) | some (.array _ _) => true | _ => false

def mkTI (P : Program) (t : TypeId) (i : TypeInfo) (d : TypeDesc) (z : Value) : TInf where
  size := i.size
  bytes := i.bytes
  agg := isRowT P t
  fields := match d with | .struct fs => fs.toList.map fun f => (f.offset, P.cellsOf f.type, isRowT P f.type) | _ => []
  elem := match d with | .slice e | .array _ e | .pointer e | .map _ e => e | _ => 0
  alen := match d with | .array n _ => some n | _ => none
  isSl := match d with | .slice _ => true | _ => false
  isMap := match d with | .map _ _ => true | _ => false
  key := match d with | .map k _ => k | _ => 0
  kint := match d with | .int k => some k | _ => none
  isStr := match d with | .string => true | _ => false
  zero := z.cells.toList.map absD

def okFs (P : Program) (d : TypeDesc) : Bool := match d with | .struct fs => fs.all (fun f => (P.info? f.type).isSome && (P.underlying f.type).isSome) | _ => true

def isAggV : Value → Bool | .agg _ => true | _ => false

def tinfo (P : Program) (t : TypeId) : Option TInf :=
  match P.info? t, P.underlying t with
  | some i, some d =>
    match i.zero with
    | some z => if (z.cells.all Value.oneCell' && okFs P d && z.cells.size == i.size && (isRowT P t == isAggV z)) = true then some (mkTI P t i d z) else none
    | none => none
  | _, _ => none

/-- the cells of a value -/
def AV.one : AV → Bool
  | .agg _ | .tup _ | .any => false
  | _ => true

def AV.cells? : AV → Option (List AV)
  | .agg cs => if cs.all AV.one then some cs else none
  | .tup _ | .any => none
  | v => some [v]

def AV.ofCells (agg : Bool) (cs : List AV) : Option AV := if agg then some (.agg cs) else match cs with | [c] => some c | _ => none

/-- as pure data, if it is -/
def AV.toD : AV → Option D
  | .d x => some x
  | .vec _ _ es => some (.sl false es)
  | _ => none

def toDs : List AV → Option (List D)
  | [] => some []
  | a :: as => match a.toD, toDs as with | some x, some xs => some (x :: xs) | _, _ => none

def aev (ts : List AV) : Operand → AV
  | .tmp t => (ts[t]?).getD (.tup [])
  | .const v => absV v
  | .global _ => .any
  | .func f => .fn (.func f) [] []

def aput (dst : Option Tmp) (v : AV) (ts : List AV) : List AV := match dst with | some d => ts.set d v | none => ts

/-- a binder for what may not be defined -/
def obnd {α : Type} (x : Option α) (k : α → Prop) : Prop := match x with | some a => k a | none => False

def abr (c : AV) (a b : Prop) : Prop := match c with | .d (.bool t) => (t = true → a) ∧ (t = false → b) | _ => False

/-! the operations, one by one: new value and new heap, or nothing -/
abbrev Res := Option (AV × List HO)

def hcells (H : List HO) (id : Nat) : Option (List AV) := match H[id]? with | some (.cells cs) => some cs | _ => none

def oAlloc (ti : Option TInf) (H : List HO) : Res := match ti with | some t => some (.ptr H.length 0, H ++ [.cells (t.zero.map .d)]) | none => none
def oBox (a : AV) (H : List HO) : Res := match a.cells? with | some cs => some (.ptr H.length 0, H ++ [.cells cs]) | none => none

def rowAt (H : List HO) (id pos sz i : Nat) : Option (List D) := match H[id]? with | some (.row n s es) => if n = pos ∧ s = sz then es[i]? else none | _ => none
def oLoadRow (t : TInf) (id pos sz i k : Nat) (H : List HO) : Res :=
  match rowAt H id pos sz i with | some e => if k + t.size ≤ e.length then (AV.ofCells t.agg (((e.drop k).take t.size).map .d)).map (·, H) else none | none => none
def oStoreRow (t : TInf) (id pos sz i k : Nat) (new : List AV) (H : List HO) : Res :=
  match H[id]?, toDs new with
  | some (.row n s es), some ds => if n = pos ∧ s = sz ∧ k + t.size ≤ sz ∧ ds.length = t.size ∧ i < es.length then some (.tup [], H.set id (.row n s (es.set i ((es.getD i []).take k ++ ds ++ (es.getD i []).drop (k + ds.length))))) else none
  | _, _ => none
def oIndexRow (e : TInf) (id pos : Nat) (i : Int) (H : List HO) : Res :=
  match H[id]? with | some (.row n s es) => if n = pos ∧ s = e.size ∧ 0 ≤ i ∧ i.toNat < es.length then some (.rp id pos s i.toNat 0, H) else none | _ => none
def oLenRow (id pos : Nat) (H : List HO) : Res := match H[id]? with | some (.row n _ es) => if n = pos then some (.d (.int .i64 es.length), H) else none | _ => none

def oLoad (ti : Option TInf) (a : AV) (H : List HO) : Res :=
  match ti, a with
  | some t, .ptr id off =>
    match hcells H id with
    | some cs => if off + t.size ≤ cs.length then (AV.ofCells t.agg ((cs.drop off).take t.size)).map (·, H) else none
    | none => none
  | some t, .d (.ptr cs) => if t.size ≤ cs.length then (AV.ofCells t.agg ((cs.take t.size).map .d)).map (·, H) else none
  | some t, .rp id pos sz i k => oLoadRow t id pos sz i k H
  | _, _ => none

def splice (cs : List AV) (off : Nat) (new : List AV) : List AV := cs.take off ++ new ++ cs.drop (off + new.length)

def oStore (ti : Option TInf) (a v : AV) (H : List HO) : Res :=
  match ti, a, v.cells? with
  | some t, .ptr id off, some new =>
    match hcells H id with
    | some cs => if new.length = t.size ∧ off + t.size ≤ cs.length then some (.tup [], H.set id (.cells (splice cs off new))) else none
    | none => none
  | some t, .rp id pos sz i k, some new => oStoreRow t id pos sz i k new H
  | _, _, _ => none

def oFieldAddr (ti : Option TInf) (a : AV) (f : Nat) (H : List HO) : Res :=
  match ti, a with
  | some t, .ptr id off => match hcells H id, t.fields[f]? with | some _, some (o, s, _) => if s = 0 then none else some (.ptr id (off + o), H) | _, _ => none
  | some t, .d (.ptr cs) => match t.fields[f]? with | some (o, s, _) => if s = 0 then none else some (.d (.ptr (cs.drop o)), H) | none => none
  | some t, .rp id pos sz i k => match H[id]?, t.fields[f]? with | some (.row n s es), some (o, z, _) => if n = pos ∧ s = sz ∧ z ≠ 0 then some (.rp id pos sz i (k + o), H) else none | _, _ => none
  | _, _ => none

def oField (ti : Option TInf) (a : AV) (f : Nat) (H : List HO) : Res :=
  match ti, a with
  | some t, .agg cs => match t.fields[f]? with
    | some (o, s, g) => if o + s ≤ cs.length ∧ s ≠ 0 then (AV.ofCells g ((cs.drop o).take s)).map (·, H) else none
    | none => none
  | _, _ => none

def inRange (i : Int) (n : Nat) : Bool := decide (0 ≤ i) && decide (i < n)

/-- `et`: the element's type; `t` the indexed one's -/
def oIndexAddr (ti et : Option TInf) (a i : AV) (H : List HO) : Res :=
  match ti, et, i with
  | some t, some e, .d (.int _ n) =>
    match t.alen, a with
    | some len, .ptr id off => match hcells H id with | some _ => if inRange n len = true then some (.ptr id (off + n.toNat * e.size), H) else none | none => none
    | some _, _ => none
    | none, .d (.sl _ es) => if t.isSl then match (if inRange n es.length = true then es[n.toNat]? else none) with | some x => if x.length = e.size then some (.d (.ptr x), H) else none | none => none else none
    | none, .vec _ _ es => if t.isSl then match (if inRange n es.length = true then es[n.toNat]? else none) with | some x => if x.length = e.size then some (.d (.ptr x), H) else none | none => none else none
    | none, .arr id off len sz => match hcells H id with | some _ => if t.isSl = true ∧ inRange n len = true ∧ sz = e.size then some (.ptr id (off + n.toNat * e.size), H) else none | none => none
    | none, .row id pos => if t.isSl then oIndexRow e id pos n H else none
    | none, _ => none
  | _, _, _ => none

def oIndex (ti : Option TInf) (a i : AV) (H : List HO) : Res :=
  match ti, a, i with
  | some t, .d (.str s), .d (.int _ n) => if t.isStr then match (if inRange n s.length = true then s[n.toNat]? else none) with | some b => some (.d (.int .u8 b.toNat), H) | none => none else none
  | _, _, _ => none

def oLen (ti : Option TInf) (a : AV) (H : List HO) : Res :=
  match ti, a with
  | some t, .d (.str s) => if t.isStr then some (.d (.int .i64 s.length), H) else none
  | some t, .d (.sl _ es) => if t.isSl then some (.d (.int .i64 es.length), H) else none
  | some t, .vec _ _ es => if t.isSl then some (.d (.int .i64 es.length), H) else none
  | some t, .arr id _ n _ => match hcells H id with | some _ => if t.isSl then some (.d (.int .i64 n), H) else none | none => none
  | some t, .map id => if t.isMap then match H[id]? with | some (.map _ es) => some (.d (.int .i64 es.length), H) | _ => none else none
  | some t, .d (.con (.map none)) => if t.isMap then some (.d (.int .i64 0), H) else none
  | some t, .row id pos => if t.isSl then oLenRow id pos H else none
  | _, _ => none

def oExtract (a : AV) (i : Nat) (H : List HO) : Res := match a with | .tup vs => (vs[i]?).map (·, H) | _ => none

def oPick (c a b : AV) (H : List HO) : Res := match c with | .d (.bool t) => some (if t then a else b, H) | _ => none

end Go.Proofs.YthhmioodienlmaaGreatDoor

/- The abstract machine, part 3r: rows that change: what an object of that kind says. -/
namespace Go.Proofs.YthhmioodienlmaaGreatDoor
open Go

variable {P : Program} {G : List GI} {T : Tips} {K : Kmem} {w : World} {H H' : List HO}

/-- a list of pure data reads alike whatever the objects are -/
theorem RelAs.ofD {G' : List GI} {T' : Tips} : ∀ {ds : List D} {vs : List Value}, RelAs G T K (ds.map .d) vs → RelAs G' T' K (ds.map .d) vs
  | [], vs, r => by simpa only [List.map_nil, RelAs] using r
  | d :: ds, vs, r => by
    simp only [List.map_cons, RelAs, RelA] at r ⊢
    obtain ⟨v, ws, e, h1, h2⟩ := r
    exact ⟨v, ws, e, h1, RelAs.ofD h2⟩

theorem Inv.row (hI : Inv G K w H) {id n sz : Nat} {es : List (List D)} (h : H[id]? = some (.row n sz es)) :
    ∃ w0, G[id]? = some (.row w0) ∧ ObjRel G (tipsOf H) K w (.row n sz es) (.row w0) ∧ tipsOf H id = some (n, es.length) := by
  have hi : id < G.length := by rw [hI.len]; exact (List.getElem?_eq_some_iff.1 h).1
  have hg := List.getElem?_eq_getElem hi
  have ho := hI.obj id _ _ h hg
  generalize G[id] = g at hg ho
  cases g <;> simp only [ObjRel] at ho
  exact ⟨_, hg, ho, by simp [tipsOf, h]⟩

theorem RelA.row_at {id n pos sz : Nat} {es : List (List D)} {w0 : Option (Nat × Nat)} {v : Value} (hI : Inv G K w H) (hH : H[id]? = some (.row n sz es)) (hG : G[id]? = some (.row w0)) (h : RelA G (tipsOf H) K (.row id pos) v) :
    pos ≤ n ∧ RowAt n es.length w0 pos v := by
  simp only [RelA] at h
  obtain ⟨g, hg, _, h⟩ := h
  rw [hG] at hg; cases hg
  rcases h with h | ⟨n', len, w1, ht, hw, hle, hat⟩
  · cases h
  · cases hw
    have : tipsOf H id = some (n, es.length) := by simp [tipsOf, hH]
    rw [this] at ht; cases ht
    exact ⟨hle, hat⟩


theorem RelAs.take {a : List AV} {v : List Value} (n : Nat) (h : RelAs G T K a v) : RelAs G T K (a.take n) (v.take n) := by
  induction n generalizing a v with
  | zero => simpa using RelAs.nil
  | succ n ih =>
    cases a with
    | nil => simp only [RelAs] at h; subst h; simpa using RelAs.nil
    | cons x a =>
      simp only [RelAs] at h
      obtain ⟨y, ws, rfl, h1, h2⟩ := h
      simpa using RelAs.cons h1 (ih h2)

theorem RelAs.drop {a : List AV} {v : List Value} (n : Nat) (h : RelAs G T K a v) : RelAs G T K (a.drop n) (v.drop n) := by
  induction n generalizing a v with
  | zero => simpa using h
  | succ n ih =>
    cases a with
    | nil => simp only [RelAs] at h; subst h; simpa using RelAs.nil
    | cons x a =>
      simp only [RelAs] at h
      obtain ⟨y, ws, rfl, h1, h2⟩ := h
      simpa using ih h2

theorem list_set_same {α : Type} {l : List α} {i : Nat} {a : α} (h : l[i]? = some a) : l.set i a = l := by
  apply List.ext_getElem?
  intro j
  by_cases e : i = j
  · subst e; rw [List.getElem?_set_self (List.getElem?_eq_some_iff.1 h).1, h]
  · rw [List.getElem?_set_ne e]

theorem toDs_rel {cs : List AV} {ds : List D} {vs : List Value} (h : toDs cs = some ds) (hr : RelAs G T K cs vs) : RelAs G T K (ds.map .d) vs := by
  induction cs generalizing ds vs with
  | nil => simp [toDs] at h; subst h; simpa using hr
  | cons c cs ih =>
    simp only [toDs] at h
    split at h
    · rename_i x xs hx hxs
      simp only [Option.some.injEq] at h; subst h
      simp only [RelAs] at hr
      obtain ⟨v, ws, rfl, r1, r2⟩ := hr
      simp only [List.map_cons]
      refine RelAs.cons ?_ (ih hxs r2)
      cases c <;> simp only [AV.toD, Option.some.injEq] at hx
      · subst hx; exact r1
      all_goals first
        | (cases hx; done)
        | (subst hx; simp only [RelA] at r1 ⊢; exact r1.1)
    · cases h

theorem toDs_length {cs : List AV} {ds : List D} (h : toDs cs = some ds) : ds.length = cs.length := by
  induction cs generalizing ds with
  | nil => simp [toDs] at h; subst h; rfl
  | cons c cs ih =>
    simp only [toDs] at h
    split at h
    · rename_i x xs hx hxs
      simp only [Option.some.injEq] at h; subst h
      simp [ih hxs]
    · cases h

def chunk (sz : Nat) : Nat → List D → List (List D)
  | 0, _ => []
  | n + 1, l => l.take sz :: chunk sz n (l.drop sz)

theorem chunk_spec {sz : Nat} : ∀ {n : Nat} {l : List D}, l.length = n * sz → (chunk sz n l).flatten = l ∧ (chunk sz n l).length = n ∧ ∀ e ∈ chunk sz n l, e.length = sz
  | 0, l, h => by
    have : l = [] := List.eq_nil_of_length_eq_zero (by simpa using h)
    subst this; simp [chunk]
  | n + 1, l, h => by
    rw [Nat.add_mul] at h
    obtain ⟨h1, h2, h3⟩ := chunk_spec (sz := sz) (n := n) (l := l.drop sz) (by simp; omega)
    refine ⟨by simp [chunk, h1], by simp [chunk, h2], ?_⟩
    intro e he
    simp only [chunk, List.mem_cons] at he
    rcases he with rfl | he
    · simp; omega
    · exact h3 e he

theorem flatten_len {sz : Nat} : ∀ {es : List (List D)}, (∀ e ∈ es, e.length = sz) → es.flatten.length = es.length * sz
  | [], _ => by simp
  | x :: es, h => by
    have ih := flatten_len (es := es) (fun y hy => h y (by simp [hy]))
    have hx := h x (by simp)
    simp only [List.flatten_cons, List.length_append, List.length_cons, Nat.add_mul, Nat.one_mul]
    omega

theorem flatten_at {sz : Nat} : ∀ {es : List (List D)} {i : Nat} {e : List D}, (∀ e ∈ es, e.length = sz) → es[i]? = some e → (es.flatten.drop (i * sz)).take sz = e ∧ i * sz + sz ≤ es.flatten.length
  | [], i, e, _, h => by simp at h
  | x :: es, 0, e, hu, h => by
    simp at h; subst h
    have := hu x (by simp)
    simp [← this]
  | x :: es, i + 1, e, hu, h => by
    simp at h
    have hx := hu x (by simp)
    obtain ⟨h1, h2⟩ := flatten_at (es := es) (fun y hy => hu y (by simp [hy])) h
    refine ⟨?_, by simp only [List.flatten_cons, List.length_append, Nat.add_mul, Nat.one_mul]; omega⟩
    simp only [List.flatten_cons]
    rw [Nat.add_mul, Nat.one_mul, Nat.add_comm, ← List.drop_drop, List.drop_left' hx]
    exact h1

theorem flatten_set {sz : Nat} : ∀ {es : List (List D)} {i : Nat} {d : List D}, (∀ e ∈ es, e.length = sz) → i < es.length → (es.set i d).flatten = es.flatten.take (i * sz) ++ d ++ es.flatten.drop (i * sz + sz)
  | [], i, d, _, h => by simp at h
  | x :: es, 0, d, hu, _ => by
    have := hu x (by simp)
    simp [← this]
  | x :: es, i + 1, d, hu, h => by
    simp at h
    have hx := hu x (by simp)
    have ih := flatten_set (sz := sz) (es := es) (i := i) (d := d) (fun y hy => hu y (by simp [hy])) h
    simp only [List.set_cons_succ, List.flatten_cons, ih]
    have e1 : (i + 1) * sz = x.length + i * sz := by rw [Nat.add_mul]; omega
    rw [e1, List.take_length_add_append, Nat.add_assoc, List.drop_length_add_append]
    simp [List.append_assoc]

theorem rowAt_spec {id pos sz i : Nat} {e : List D} (h : rowAt H id pos sz i = some e) : ∃ es, H[id]? = some (.row pos sz es) ∧ es[i]? = some e := by
  unfold rowAt at h
  split at h
  · rename_i n s es hH
    split at h
    · rename_i hc; obtain ⟨rfl, rfl⟩ := hc; exact ⟨es, hH, h⟩
    · cases h
  · cases h

theorem RelA.rp_at {id pos sz i k n : Nat} {es : List (List D)} {w0 : Option (Nat × Nat)} {v : Value} (hH : H[id]? = some (.row n sz es)) (hG : G[id]? = some (.row w0)) (h : RelA G (tipsOf H) K (.rp id pos sz i k) v) (hp : pos = n) :
    ∃ b cap, w0 = some (b, cap) ∧ v = .pointer (some ⟨b, i * sz + k, none⟩) := by
  simp only [RelA] at h
  obtain ⟨g, hg, _, h⟩ := h
  rw [hG] at hg; cases hg
  rcases h with h | ⟨n', len, w1, ht, hw, hle, hat⟩
  · cases h
  · cases hw
    have : tipsOf H id = some (n, es.length) := by simp [tipsOf, hH]
    rw [this] at ht; cases ht
    exact hat hp

/-- what lies at an element -/
theorem Inv.rowElem (hI : Inv G K w H) {id pos sz i : Nat} {es : List (List D)} {e : List D} (hH : H[id]? = some (.row pos sz es)) (he : es[i]? = some e) {b cap : Nat} (hG : G[id]? = some (.row (some (b, cap)))) :
    ∃ vs t fr, w.heap[b]? = some (.cells vs t fr) ∧ (∀ o, o < vs.size → fOk fr o) ∧ i * sz + sz ≤ vs.size ∧ e.length = sz ∧ RelAs G (tipsOf H) K (e.map .d) ((vs.toList.drop (i * sz)).take sz) := by
  obtain ⟨w0, hG', hobj, _⟩ := hI.row hH
  rw [hG] at hG'; cases hG'
  simp only [ObjRel] at hobj
  obtain ⟨⟨vs, t, fr, b1, b2, b3, b4, b5, b6⟩, b7, b8⟩ := hobj
  obtain ⟨f1, f2⟩ := flatten_at (es := es) b5 he
  have hfl : es.flatten.length = es.length * sz := flatten_len b5
  have hcap : es.length * sz ≤ cap * sz := Nat.mul_le_mul_right _ b4
  refine ⟨vs, t, fr, b1, b2, by omega, b5 e (List.mem_of_getElem? he), ?_⟩
  have := (b6.drop (i * sz)).take sz
  rw [← List.map_drop, ← List.map_take, f1, List.drop_take, List.take_take, Nat.min_eq_left (by omega)] at this
  exact this

end Go.Proofs.YthhmioodienlmaaGreatDoor

/- The abstract machine, part 4: the operations that change no object are sound. -/
namespace Go.Proofs.YthhmioodienlmaaGreatDoor
open Go

variable {P : Program} {G : List GI} {T : Tips} {K : Kmem} {w : World} {H H' : List HO}

theorem RelCs.get {b o : Nat} {cs : List D} (h : RelCs K b o cs) {i : Nat} {c : D} (hc : cs[i]? = some c) : ∃ v, K b (o + i) = some v ∧ RelD K c v := by
  induction cs generalizing o i with
  | nil => simp at hc
  | cons x cs ih =>
    simp only [RelCs] at h
    cases i with
    | zero => simp at hc; subst hc; simpa using h.1
    | succ i =>
      simp at hc
      have := ih h.2 hc
      rwa [show o + 1 + i = o + (i + 1) by omega] at this

theorem RelCs.vals {b o : Nat} {cs : List D} (h : RelCs K b o cs) : ∃ vs : List Value, vs.length = cs.length ∧ (∀ i v, vs[i]? = some v → K b (o + i) = some v) ∧ RelAs G T K (cs.map .d) vs := by
  induction cs generalizing o with
  | nil => exact ⟨[], rfl, fun i v h => by simp at h, RelAs.nil⟩
  | cons x cs ih =>
    simp only [RelCs] at h
    obtain ⟨⟨v, h1, h2⟩, h3⟩ := h
    obtain ⟨vs, l, k, r⟩ := ih h3
    refine ⟨v :: vs, by simp [l], fun i u hu => ?_, ?_⟩
    · cases i with
      | zero => simp at hu; subst hu; simpa using h1
      | succ i => simp at hu; have := k i u hu; rwa [show o + 1 + i = o + (i + 1) by omega] at this
    · simp only [List.map_cons]
      exact RelAs.cons (by simp only [RelA]; exact h2) r

theorem RelCs.drop {b o : Nat} {cs : List D} (n : Nat) (h : RelCs K b o cs) (hn : n ≤ cs.length) : RelCs K b (o + n) (cs.drop n) := by
  induction n generalizing o cs with
  | zero => simpa using h
  | succ n ih =>
    cases cs with
    | nil => simp at hn
    | cons x cs =>
      simp only [RelCs] at h
      simp at hn
      have := ih h.2 hn
      rw [show o + 1 + n = o + (n + 1) by omega] at this
      simpa using this

theorem RelCs.take {b o : Nat} {cs : List D} (n : Nat) (h : RelCs K b o cs) : RelCs K b o (cs.take n) := by
  induction n generalizing o cs with
  | zero => simp [RelCs]
  | succ n ih =>
    cases cs with
    | nil => simp [RelCs]
    | cons x cs =>
      simp only [RelCs] at h
      simp only [List.take_succ_cons, RelCs]
      exact ⟨h.1, ih h.2⟩

theorem RelEs.get {b o sz : Nat} {es : List (List D)} (h : RelEs K b o es) (hu : ∀ e ∈ es, e.length = sz) {i : Nat} {e : List D} (he : es[i]? = some e) : RelCs K b (o + i * sz) e := by
  induction es generalizing o i with
  | nil => simp at he
  | cons x es ih =>
    simp only [RelEs] at h
    cases i with
    | zero => simp at he; subst he; simpa using h.1
    | succ i =>
      simp at he
      have h1 := ih h.2 (fun e he => hu e (by simp [he])) he
      rw [hu x (by simp)] at h1
      rwa [show o + sz + i * sz = o + (i + 1) * sz by rw [Nat.add_mul]; omega] at h1

/-! ### what `tinfo` tells -/
theorem tinfo_spec {t : TypeId} {ti : TInf} (h : tinfo P t = some ti) : ∃ i d z, P.info? t = some i ∧ P.underlying t = some d ∧ i.zero = some z ∧ (z.cells.all Value.oneCell' = true ∧ okFs P d = true ∧ z.cells.size = i.size) ∧
    ti = mkTI P t i d z := by
  unfold tinfo at h
  cases hi : P.info? t with
  | none => simp [hi] at h
  | some i =>
    cases hu : P.underlying t with
    | none => simp [hi, hu] at h
    | some d =>
      cases hz : i.zero with
      | none => simp [hi, hu, hz] at h
      | some z =>
        simp only [hi, hu, hz] at h
        by_cases hc : (z.cells.all Value.oneCell' && okFs P d && z.cells.size == i.size && (isRowT P t == isAggV z)) = true
        · rw [if_pos hc] at h
          simp only [Option.some.injEq] at h
          simp only [Bool.and_eq_true, beq_iff_eq] at hc
          exact ⟨i, d, z, rfl, rfl, hz, ⟨hc.1.1.1, hc.1.1.2, hc.1.2⟩, h.symm⟩
        · rw [if_neg hc] at h; cases h

theorem tinfo_row {t : TypeId} {ti : TInf} (h : tinfo P t = some ti) {i : TypeInfo} {z : Value} (hi : P.info? t = some i) (hz : i.zero = some z) : (isRowT P t = true → ∃ cs, z = .agg cs) ∧ (isRowT P t = false → ∀ cs, z ≠ .agg cs) := by
  unfold tinfo at h
  cases hu : P.underlying t with
  | none => simp [hi, hu] at h
  | some d =>
    simp only [hi, hu, hz] at h
    split at h
    · rename_i hc
      simp only [Bool.and_eq_true, beq_iff_eq] at hc
      have h4 := hc.2
      constructor
      · intro hr
        rw [hr] at h4
        cases z <;> simp [isAggV] at h4
        exact ⟨_, rfl⟩
      · intro hr cs e
        subst e
        rw [hr] at h4; simp [isAggV] at h4
    · cases h

theorem run_sizeOf {t : TypeId} {i : TypeInfo} (h : P.info? t = some i) : (sizeOf t).run P w = .ok i.size w := by
  simp [sizeOf, typeInfo, h]

theorem run_under {t : TypeId} {d : TypeDesc} (h : P.underlying t = some d) : (underlying t).run P w = .ok d w := by
  simp [underlying, h]

theorem run_isAgg {t : TypeId} {d : TypeDesc} (h : P.underlying t = some d) : (isAgg t).run P w = .ok (isRowT P t) w := by
  unfold isAgg isRowT
  rw [Sem.run_bind, run_under h, h]
  cases d <;> simp

theorem cell_of {b : Nat} {vs : Array Value} {t : TypeId} {fr : Nat × Nat} (h : w.heap[b]? = some (.cells vs t fr)) (o : Nat) : w.cell? ⟨b, o, none⟩ = vs[o]? := by
  simp [World.cell?, h]

/-- a variable of a known type, read -/
theorem run_loadVar_any {t : TypeId} {ti : TInf} (ht : tinfo P t = some ti) {b o : Nat} {vs : List Value} (hl : vs.length = ti.size)
    (hc : ∀ i v, vs[i]? = some v → w.cell? ⟨b, o + i, none⟩ = some v) {cs : List AV} {x : AV} (hr : RelAs G T K cs vs) (hx : AV.ofCells ti.agg cs = some x) :
    ∃ y, (loadVar t ⟨b, o, none⟩).run P w = .ok y w ∧ RelA G T K x y := by
  obtain ⟨i, d, z, h1, h2, h3, h4, rfl⟩ := tinfo_spec ht
  simp only [mkTI] at hl hx
  cases hg : isRowT P t with
  | true =>
    rw [hg] at hx
    simp only [AV.ofCells, if_true, Option.some.injEq] at hx
    subst hx
    have hd : d.isRow = true := by
      unfold isRowT at hg; rw [h2] at hg
      cases d <;> simp_all
    refine ⟨.agg vs.toArray, run_loadVar_mid w b o t vs d hc h2 hd (by simp [h1, hl]), ?_⟩
    simp only [RelA]
    exact ⟨_, rfl, by simpa using hr⟩
  | false =>
    rw [hg] at hx
    simp only [AV.ofCells] at hx
    cases cs with
    | nil => simp at hx
    | cons c cs =>
      cases cs with
      | cons _ _ => simp at hx
      | nil =>
        simp at hx; subst hx
        simp only [RelAs] at hr
        obtain ⟨v, ws, rfl, r1, rfl⟩ := hr
        refine ⟨v, ?_, r1⟩
        have hc0 := hc 0 v (by simp)
        simp only [Nat.add_zero] at hc0
        simp [loadVar, run_isAgg h2, hg, hc0]

theorem hcells_spec {id : Nat} {cs : List AV} (h : hcells H id = some cs) : H[id]? = some (.cells cs) := by
  unfold hcells at h
  split at h
  · rename_i c e; rw [e]; simpa using h
  · cases h

theorem Inv.cells (hI : Inv G K w H) {id : Nat} {cs : List AV} (h : H[id]? = some (.cells cs)) : ∃ b n vs t fr, G[id]? = some (.cells b n) ∧ w.heap[b]? = some (.cells vs t fr) ∧
    (∀ o, o < vs.size → fOk fr o) ∧ vs.size = n ∧ cs.length ≤ n ∧ RelAs G (tipsOf H) K cs (vs.toList.take cs.length) ∧ ∀ o, K b o = none := by
  have hi : id < G.length := by rw [hI.len]; exact (List.getElem?_eq_some_iff.1 h).1
  have ho := hI.obj id _ G[id] h (List.getElem?_eq_getElem hi)
  cases e : G[id] <;> rw [e] at ho <;> simp only [ObjRel] at ho
  rename_i b n
  obtain ⟨⟨vs, t, fr, h1, h2, h3, h5, h6⟩, h4⟩ := ho
  exact ⟨b, n, vs, t, fr, by rw [List.getElem?_eq_getElem hi, e], h1, h2, h3, h5, h6, h4⟩

theorem RelA.ptr_cells {id off : Nat} {v : Value} {b n : Nat} (h : RelA G T K (.ptr id off) v) (hg : G[id]? = some (.cells b n)) : v = .pointer (some ⟨b, off, none⟩) := by
  simp only [RelA] at h
  obtain ⟨g, e, _, h⟩ := h
  rw [hg] at e; cases e
  rcases h with h | ⟨b', n', h, r⟩
  · cases h
  · cases h; exact r

theorem RelA.arr_cells {id off len sz : Nat} {v : Value} {b n : Nat} (h : RelA G T K (.arr id off len sz) v) (hg : G[id]? = some (.cells b n)) :
    ∃ cap, v = .slice (some ⟨b, off, none⟩) len cap ∧ len ≤ cap ∧ len ≤ lim ∧ off + cap * sz ≤ n := by
  simp only [RelA] at h
  obtain ⟨g, e, _, h⟩ := h
  rw [hg] at e; cases e
  rcases h with h | ⟨b', n', cap, h, r⟩
  · cases h
  · cases h; exact ⟨cap, r⟩

theorem oLoad_sound (hI : Inv G K w H) {t : TypeId} {a x : AV} {v : Value} (ha : RelA G (tipsOf H) K a v) (h : oLoad (tinfo P t) a H = some (x, H')) :
    H' = H ∧ ∃ y, (Instr.loadAt t v).run P w = .ok y w ∧ RelA G (tipsOf H) K x y := by
  unfold oLoad at h
  cases ht : tinfo P t with
  | none => simp [ht] at h
  | some ti =>
    rw [ht] at h
    cases a with
    | ptr id off =>
      simp only at h
      cases hc : hcells H id with
      | none => simp [hc] at h
      | some cs =>
        simp only [hc] at h
        split at h
        · rename_i hsz
          simp only [Option.map_eq_some_iff, Prod.mk.injEq] at h
          obtain ⟨x', hx, rfl, rfl⟩ := h
          refine ⟨rfl, ?_⟩
          obtain ⟨b, n, vs, tt, fr, g1, g2, g3, g6, g7, g4, g5⟩ := hI.cells (hcells_spec hc)
          obtain rfl := ha.ptr_cells g1
          have hr : RelAs G (tipsOf H) K ((cs.drop off).take ti.size) (((vs.toList.take cs.length).drop off).take ti.size) := (g4.drop off).take ti.size
          obtain ⟨y, hy, ry⟩ := run_loadVar_any (w := w) ht (b := b) (o := off) (vs := ((vs.toList.take cs.length).drop off).take ti.size) (by simp; omega)
            (fun i u hu => by
              rw [cell_of g2]
              rw [List.getElem?_take] at hu
              split at hu
              · rw [List.getElem?_drop, List.getElem?_take] at hu
                split at hu
                · simpa using hu
                · cases hu
              · cases hu) hr hx
          exact ⟨y, by simp [Instr.loadAt, Instr.sureAddr, hy], ry⟩
        · cases h
    | d dx =>
      cases dx with
      | ptr cs =>
        simp only at h
        split at h
        · rename_i hsz
          simp only [Option.map_eq_some_iff, Prod.mk.injEq] at h
          obtain ⟨x', hx, rfl, rfl⟩ := h
          refine ⟨rfl, ?_⟩
          simp only [RelA, RelD] at ha
          obtain ⟨b, o, rfl, hcs⟩ := ha
          obtain ⟨vs, l, k, r⟩ := (hcs.take ti.size).vals (G := G) (T := tipsOf H)
          obtain ⟨y, hy, ry⟩ := run_loadVar_any (w := w) ht (b := b) (o := o) (vs := vs) (by simp at l; omega) (fun i u hu => hI.agree _ _ _ (k i u hu)) r hx
          exact ⟨y, by simp [Instr.loadAt, Instr.sureAddr, hy], ry⟩
        · cases h
      | _ => simp at h
    | rp id pos sz i k =>
      simp only [oLoadRow] at h
      cases hr : rowAt H id pos sz i with
      | none => simp [hr] at h
      | some e =>
        simp only [hr] at h
        split at h
        · rename_i hsz
          simp only [Option.map_eq_some_iff, Prod.mk.injEq] at h
          obtain ⟨x', hx, rfl, rfl⟩ := h
          refine ⟨rfl, ?_⟩
          obtain ⟨es, hH, he⟩ := rowAt_spec hr
          obtain ⟨w0, hG, _, _⟩ := hI.row hH
          obtain ⟨b, cap, rfl, rfl⟩ := ha.rp_at hH hG rfl
          obtain ⟨vs, tt, fr, b1, b2, b3, b4, b5⟩ := hI.rowElem hH he hG
          have hr : RelAs G (tipsOf H) K (((e.drop k).take ti.size).map .d) ((((vs.toList.drop (i * sz)).take sz).drop k).take ti.size) := by
            rw [List.map_take, List.map_drop]; exact (b5.drop k).take ti.size
          obtain ⟨y, hy, ry⟩ := run_loadVar_any (w := w) ht (b := b) (o := i * sz + k) (vs := (((vs.toList.drop (i * sz)).take sz).drop k).take ti.size) (by simp; omega)
            (fun j u hu => by
              rw [cell_of b1]
              rw [List.getElem?_take] at hu
              split at hu
              · rw [List.getElem?_drop, List.getElem?_take] at hu
                split at hu
                · rw [List.getElem?_drop] at hu
                  rw [← Array.getElem?_toList, ← hu]; congr 1; omega
                · cases hu
              · cases hu) hr hx
          exact ⟨y, by simp [Instr.loadAt, Instr.sureAddr, hy], ry⟩
        · cases h
    | _ => simp at h

end Go.Proofs.YthhmioodienlmaaGreatDoor

/- The abstract machine, part 5: addresses, fields, indexes, lengths. -/
namespace Go.Proofs.YthhmioodienlmaaGreatDoor
open Go

variable {P : Program} {G : List GI} {T : Tips} {K : Kmem} {w : World} {H H' : List HO}

theorem info_of_cells {t : TypeId} (h : P.cellsOf t ≠ 0) : ∃ i, P.info? t = some i ∧ i.size = P.cellsOf t := by
  unfold Program.cellsOf at h ⊢
  cases hi : P.info? t with
  | none => simp [hi] at h
  | some i => exact ⟨i, rfl, by simp⟩

theorem RelCs.drop' {b o : Nat} {cs : List D} (n : Nat) (h : RelCs K b o cs) : RelCs K b (o + n) (cs.drop n) := by
  by_cases hn : n ≤ cs.length
  · exact h.drop n hn
  · rw [List.drop_of_length_le (by omega)]; simp only [RelCs]

theorem run_fieldPlace {b off : Nat} {f : Field} (h : P.cellsOf f.type ≠ 0) : (fieldPlace ⟨b, off, none⟩ f).run P w = .ok ⟨b, off + f.offset, none⟩ w := by
  obtain ⟨i, h1, h2⟩ := info_of_cells h
  unfold fieldPlace
  rw [Sem.run_bind, run_sizeOf h1]
  simp only [Result.andThen_ok]
  rw [if_neg (by rw [h2]; exact h)]
  simp [Addr.add_mid]

theorem run_fieldAt {s : TypeId} {ti : TInf} (ht : tinfo P s = some ti) {f : Nat} {o n : Nat} {g : Bool} (hf : ti.fields[f]? = some (o, n, g)) (hn : n ≠ 0) {b off : Nat} :
    (Instr.fieldAt s (.pointer (some ⟨b, off, none⟩)) f).run P w = .ok (.pointer (some ⟨b, off + o, none⟩)) w := by
  obtain ⟨i, d, z, h1, h2, h3, h4, rfl⟩ := tinfo_spec ht
  simp only [mkTI] at hf
  cases d <;> simp at hf
  rename_i fs
  obtain ⟨x, hx, rfl, rfl, rfl⟩ := hf
  unfold Instr.fieldAt
  simp only [Sem.run_bind, run_under h2, Result.andThen_ok]
  simp only [hx, Instr.sureAddr, Sem.run_bind, Sem.run_pure, Result.andThen_ok, run_fieldPlace hn]

theorem oFieldAddr_sound (hI : Inv G K w H) {s : TypeId} {a x : AV} {v : Value} {f : Nat} (ha : RelA G (tipsOf H) K a v) (h : oFieldAddr (tinfo P s) a f H = some (x, H')) :
    H' = H ∧ ∃ y, (Instr.fieldAt s v f).run P w = .ok y w ∧ RelA G (tipsOf H) K x y := by
  unfold oFieldAddr at h
  cases ht : tinfo P s with
  | none => simp [ht] at h
  | some ti =>
    rw [ht] at h
    cases a with
    | ptr id off =>
      simp only at h
      split at h
      · rename_i cs o n g hc hf
        split at h
        · cases h
        · rename_i hn
          simp only [Option.some.injEq, Prod.mk.injEq] at h
          obtain ⟨rfl, rfl⟩ := h
          obtain ⟨b, n, vs, tt, fr, g1, _⟩ := hI.cells (hcells_spec hc)
          obtain rfl := ha.ptr_cells g1
          exact ⟨rfl, _, run_fieldAt ht hf hn, by simp only [RelA]; exact ⟨_, g1, rfl, .inr ⟨b, n, rfl, rfl⟩⟩⟩
      · cases h
    | d dx =>
      cases dx with
      | ptr cs =>
        simp only at h
        split at h
        · rename_i o n g hf
          split at h
          · cases h
          · rename_i hn
            simp only [Option.some.injEq, Prod.mk.injEq] at h
            obtain ⟨rfl, rfl⟩ := h
            simp only [RelA, RelD] at ha
            obtain ⟨b, o', rfl, r⟩ := ha
            exact ⟨rfl, _, run_fieldAt ht hf hn, by simp only [RelA, RelD]; exact ⟨b, o' + o, rfl, r.drop' o⟩⟩
        · cases h
      | _ => simp at h
    | rp id pos sz i k =>
      simp only at h
      split at h
      · rename_i n s es o z g hH hf
        split at h
        · rename_i hc
          obtain ⟨rfl, rfl, hz⟩ := hc
          simp only [Option.some.injEq, Prod.mk.injEq] at h
          obtain ⟨rfl, rfl⟩ := h
          obtain ⟨w0, hG, _, hT⟩ := hI.row hH
          obtain ⟨b, cap, rfl, rfl⟩ := ha.rp_at hH hG rfl
          exact ⟨rfl, _, run_fieldAt ht hf hz, by simp only [RelA]; exact ⟨_, hG, rfl, .inr ⟨_, _, _, hT, rfl, Nat.le_refl _, fun _ => ⟨b, cap, rfl, by rw [Nat.add_assoc]⟩⟩⟩⟩
        · cases h
      · cases h
    | _ => simp at h

theorem ofCells_rel {g : Bool} {cs : List AV} {x : AV} {vs : List Value} (hr : RelAs G T K cs vs) (hx : AV.ofCells g cs = some x) :
    ∃ y, RelA G T K x y ∧ (g = true → y = .agg vs.toArray) ∧ (g = false → vs = [y]) := by
  cases g with
  | true =>
    simp only [AV.ofCells, if_true, Option.some.injEq] at hx
    subst hx
    exact ⟨.agg vs.toArray, by simp only [RelA]; exact ⟨_, rfl, by simpa using hr⟩, fun _ => rfl, fun h => by cases h⟩
  | false =>
    simp only [AV.ofCells] at hx
    cases cs with
    | nil => simp at hx
    | cons c cs =>
      cases cs with
      | cons _ _ => simp at hx
      | nil =>
        simp at hx; subst hx
        simp only [RelAs] at hr
        obtain ⟨v, ws, rfl, r1, rfl⟩ := hr
        exact ⟨v, r1, fun h => (by cases h), fun _ => rfl⟩

theorem run_part {t : TypeId} {i : TypeInfo} {d : TypeDesc} (h1 : P.info? t = some i) (h2 : P.underlying t = some d) {vs : Array Value} {off : Nat} {y : Value}
    (hy1 : isRowT P t = true → y = .agg (vs.extract off (off + i.size))) (hy2 : isRowT P t = false → vs[off]? = some y) : (part t vs off).run P w = .ok y w := by
  unfold part
  rw [Sem.run_bind, run_isAgg h2]
  simp only [Result.andThen_ok]
  cases hg : isRowT P t with
  | true => simp [run_sizeOf h1, hy1 hg]
  | false => simp [hy2 hg]

theorem under_of_info {t : TypeId} (h : (P.info? t).isSome = true) (hr : isRowT P t = true) : ∃ d, P.underlying t = some d := by
  unfold isRowT at hr
  cases hu : P.underlying t with
  | none => simp [hu] at hr
  | some d => exact ⟨d, rfl⟩

theorem oExtract_sound {a x : AV} {v : Value} {i : Nat} (ha : RelA G T K a v) (h : oExtract a i H = some (x, H')) :
    H' = H ∧ ∃ y, (Instr.extract v i).run P w = .ok y w ∧ RelA G T K x y := by
  unfold oExtract at h
  cases a <;> simp at h
  rename_i vs
  obtain ⟨a, h, rfl, rfl⟩ := h
  simp only [RelA] at ha
  obtain ⟨us, rfl, r⟩ := ha
  obtain ⟨y, hy, ry⟩ := r.get h
  refine ⟨rfl, y, ?_, ry⟩
  unfold Instr.extract
  simp at hy
  simp [hy]

theorem oPick_sound {c a b x : AV} {u v y : Value} (hc : RelA G T K c u) (ha : RelA G T K a v) (hb : RelA G T K b y) (h : oPick c a b H = some (x, H')) :
    H' = H ∧ ∃ z, (do pure (if ← asBool u then v else y) : Sem Value).run P w = .ok z w ∧ RelA G T K x z := by
  unfold oPick at h
  split at h
  · rename_i t
    simp only [Option.some.injEq, Prod.mk.injEq] at h
    obtain ⟨rfl, rfl⟩ := h
    simp only [RelA, RelD] at hc
    subst hc
    refine ⟨rfl, if t then v else y, by simp [asBool], ?_⟩
    cases t <;> simp <;> assumption
  · cases h

theorem inRange_spec {i : Int} {n : Nat} (h : inRange i n = true) : 0 ≤ i ∧ i < n := by simpa [inRange] using h

theorem run_indexAt_sl {t : TypeId} {e : TypeId} {i : TypeInfo} (h2 : P.underlying t = some (.slice e)) (he : P.info? e = some i) {k : IntKind} {n : Int} {b o len cap : Nat} (hn : 0 ≤ n ∧ n < len) :
    (Instr.indexAt t (.slice (some ⟨b, o, none⟩) len cap) (.int k n)).run P w = .ok (.pointer (some ⟨b, o + n.toNat * i.size, none⟩)) w := by
  unfold Instr.indexAt
  simp only [asIntOf, Sem.run_bind, Sem.run_pure, Result.andThen_ok, run_under h2]
  rw [if_pos hn]
  simp [run_sizeOf he, Addr.add_mid]

theorem run_indexAt_arr {t : TypeId} {m : Nat} {e : TypeId} {i : TypeInfo} (h2 : P.underlying t = some (.array m e)) (he : P.info? e = some i) {k : IntKind} {n : Int} {b o : Nat} (hn : 0 ≤ n ∧ n < m) :
    (Instr.indexAt t (.pointer (some ⟨b, o, none⟩)) (.int k n)).run P w = .ok (.pointer (some ⟨b, o + n.toNat * i.size, none⟩)) w := by
  unfold Instr.indexAt
  simp only [asIntOf, Sem.run_bind, Sem.run_pure, Result.andThen_ok, run_under h2, Instr.sureAddr]
  rw [if_pos hn]
  simp [run_sizeOf he, Addr.add_mid]

theorem sl_index {t e : TypeId} {i : TypeInfo} (h2 : P.underlying t = some (.slice e)) (he : P.info? e = some i) {c : Bool} {es : List (List D)} {v : Value} (ha : RelD K (.sl c es) v)
    {k : IntKind} {n : Int} {x : List D} (hx : (if inRange n es.length = true then es[n.toNat]? else none) = some x) (hl : x.length = i.size) :
    ∃ y, (Instr.indexAt t v (.int k n)).run P w = .ok y w ∧ RelD K (.ptr x) y := by
  simp only [RelD] at ha
  obtain ⟨a, m, cap, rfl, r1, r2, r3, r4, r5, r6⟩ := ha
  split at hx
  · rename_i hr
    have hn := inRange_spec hr
    cases a with
    | none => have := r5 rfl; omega
    | some ad =>
      obtain ⟨s1, ⟨sz, s2⟩, s3⟩ := r6 ad rfl
      obtain ⟨b, o, sp⟩ := ad
      simp only at s1 s3
      have s1 := s1 (by omega)
      subst s1
      have hsz : sz = i.size := by rw [← hl, s2 x (List.mem_of_getElem? hx)]
      refine ⟨_, run_indexAt_sl h2 he (by omega), ?_⟩
      simp only [RelD]
      refine ⟨b, o + n.toNat * i.size, rfl, ?_⟩
      rw [← hsz]
      exact s3.get s2 hx
  · cases hx

theorem oIndexAddr_sound (hI : Inv G K w H) {t : TypeId} {ti : TInf} (ht : tinfo P t = some ti) {a i x : AV} {v u : Value} (ha : RelA G (tipsOf H) K a v) (hi : RelA G (tipsOf H) K i u)
    (h : oIndexAddr (some ti) (tinfo P ti.elem) a i H = some (x, H')) : H' = H ∧ ∃ y, (Instr.indexAt t v u).run P w = .ok y w ∧ RelA G (tipsOf H) K x y := by
  obtain ⟨ii, d, z, h1, h2, h3, h4, rfl⟩ := tinfo_spec ht
  unfold oIndexAddr at h
  cases he : tinfo P (mkTI P t ii d z).elem with
  | none => simp [he] at h
  | some te =>
    rw [he] at h
    obtain ⟨ie, de, ze, e1, e2, e3, e4, rfl⟩ := tinfo_spec he
    cases i with
    | d di =>
      cases di with
      | int k n =>
        simp only [RelA, RelD] at hi
        subst hi
        simp only at h
        cases d with
        | array m e =>
          simp only [mkTI] at h e1
          cases a with
          | ptr id off =>
            simp only at h
            cases hc : hcells H id with
            | none => simp [hc] at h
            | some cs =>
              simp only [hc] at h
              split at h
              · rename_i hr
                simp only [Option.some.injEq, Prod.mk.injEq] at h
                obtain ⟨rfl, rfl⟩ := h
                obtain ⟨b, n', vs, tt, fr, g1, _⟩ := hI.cells (hcells_spec hc)
                obtain rfl := ha.ptr_cells g1
                exact ⟨rfl, _, run_indexAt_arr h2 e1 (inRange_spec hr), by simp only [RelA]; exact ⟨_, g1, rfl, .inr ⟨b, n', rfl, rfl⟩⟩⟩
              · cases h
          | _ => simp at h
        | slice e =>
          simp only [mkTI] at h e1
          cases a with
          | d dx =>
            cases dx with
            | sl c es =>
              simp only [if_true] at h
              split at h
              · rename_i y hy
                by_cases hl : y.length = ie.size
                · simp only [hl, if_true, Option.some.injEq, Prod.mk.injEq] at h
                  obtain ⟨rfl, rfl⟩ := h
                  simp only [RelA] at ha ⊢
                  exact ⟨by simp, sl_index h2 e1 ha hy hl⟩
                · simp [hl] at h
              · cases h
            | _ => simp at h
          | vec id pos es =>
            simp only [if_true] at h
            split at h
            · rename_i y hy
              by_cases hl : y.length = ie.size
              · simp only [hl, if_true, Option.some.injEq, Prod.mk.injEq] at h
                obtain ⟨rfl, rfl⟩ := h
                simp only [RelA] at ha ⊢
                exact ⟨by simp, sl_index h2 e1 ha.1 hy hl⟩
              · simp [hl] at h
            · cases h
          | arr id off len sz =>
            simp only at h
            cases hc : hcells H id with
            | none => simp [hc] at h
            | some cs =>
              simp only [hc] at h
              split at h
              · rename_i hr
                simp only [Option.some.injEq, Prod.mk.injEq] at h
                obtain ⟨rfl, rfl⟩ := h
                obtain ⟨b, n', vs, tt, fr, g1, _⟩ := hI.cells (hcells_spec hc)
                obtain ⟨cap, rfl, _⟩ := ha.arr_cells g1
                exact ⟨rfl, _, run_indexAt_sl h2 e1 (inRange_spec hr.2.1), by simp only [RelA]; exact ⟨_, g1, rfl, .inr ⟨b, n', rfl, rfl⟩⟩⟩
              · cases h
          | row id pos =>
            simp only [if_true, oIndexRow] at h
            split at h
            · rename_i n' s es hH
              split at h
              · rename_i hc
                obtain ⟨rfl, rfl, hc1, hc2⟩ := hc
                simp only [Option.some.injEq, Prod.mk.injEq] at h
                obtain ⟨rfl, rfl⟩ := h
                obtain ⟨w0, hG, hobj, hT⟩ := hI.row hH
                obtain ⟨_, hat⟩ := ha.row_at hI hH hG
                rcases hat rfl with ⟨_, h0, _⟩ | ⟨b, cap, rfl, rfl⟩
                · omega
                · refine ⟨rfl, _, run_indexAt_sl h2 e1 (inRange_spec (i := n) (n := es.length) (by simp [inRange]; omega)), ?_⟩
                  simp only [RelA]
                  exact ⟨_, hG, rfl, .inr ⟨_, _, _, hT, rfl, Nat.le_refl _, fun _ => ⟨b, cap, rfl, by simp⟩⟩⟩
              · cases h
            · cases h
          | _ => simp at h
        | _ =>
          simp only [mkTI] at h
          cases a with
          | d dx => cases dx <;> simp at h
          | arr id off len sz => cases hc : hcells H id <;> simp [hc] at h
          | _ => simp at h
      | _ => simp at h
    | _ => simp at h

theorem oIndex_sound {t : TypeId} {a i x : AV} {v u : Value} (ha : RelA G T K a v) (hi : RelA G T K i u) (h : oIndex (tinfo P t) a i H = some (x, H')) :
    H' = H ∧ ∃ y, (Instr.index t v u).run P w = .ok y w ∧ RelA G T K x y := by
  unfold oIndex at h
  cases ht : tinfo P t with
  | none => simp [ht] at h
  | some ti =>
    rw [ht] at h
    obtain ⟨ii, d, z, h1, h2, h3, h4, rfl⟩ := tinfo_spec ht
    split at h
    · rename_i e s k n e1
      simp only [Option.some.injEq] at e1; subst e1
      split at h
      · rename_i hs
        split at h
        · rename_i b hb
          simp only [Option.some.injEq, Prod.mk.injEq] at h
          obtain ⟨rfl, rfl⟩ := h
          simp only [RelA, RelD] at ha hi ⊢
          obtain ⟨rfl, _⟩ := ha
          subst hi
          split at hb
          · rename_i hr
            have hn := inRange_spec hr
            cases d <;> simp [mkTI] at hs
            refine ⟨by simp, _, ?_, rfl⟩
            unfold Instr.index
            have hb' : (⟨s.toArray⟩ : ByteArray)[n.toNat]? = some b := by
              have hlt : n.toNat < s.length := by omega
              have hlt' : n.toNat < (⟨s.toArray⟩ : ByteArray).size := by show n.toNat < s.toArray.size; simpa using hlt
              rw [getElem?_pos (⟨s.toArray⟩ : ByteArray) n.toNat hlt']
              rw [List.getElem?_eq_getElem hlt] at hb
              simp only [Option.some.injEq] at hb ⊢
              rw [← hb]
              show s.toArray[n.toNat] = s[n.toNat]
              simp
            simp [asIntOf, run_under h2, hn.1, hb']
          · cases hb
        · cases h
      · cases h
    · cases h

theorem Inv.map (hI : Inv G K w H) {id ck : Nat} {es : List (MKey × AV)} (h : H[id]? = some (.map ck es)) : ∃ b bs ms, G[id]? = some (.map b bs) ∧ w.heap[b]? = some (.map ms ck) ∧
    MapRel G (tipsOf H) K es bs ms.toList ∧ bs.Nodup ∧ ∀ x ∈ bs, x < ck := by
  have hi : id < G.length := by rw [hI.len]; exact (List.getElem?_eq_some_iff.1 h).1
  have ho := hI.obj id _ G[id] h (List.getElem?_eq_getElem hi)
  cases e : G[id] <;> rw [e] at ho <;> simp only [ObjRel] at ho
  rename_i b bs
  obtain ⟨⟨ms, h1, h2⟩, h3⟩ := ho
  exact ⟨b, bs, ms, by rw [List.getElem?_eq_getElem hi, e], h1, h2, h3⟩

theorem RelA.map_map {id : Nat} {v : Value} {b : Nat} {bs : List Nat} (h : RelA G T K (.map id) v) (hg : G[id]? = some (.map b bs)) : v = .map (some b) := by
  simp only [RelA] at h
  obtain ⟨g, e, _, h⟩ := h
  rw [hg] at e; cases e
  rcases h with h | ⟨b', bs', h, r⟩
  · cases h
  · cases h; exact r

theorem oLen_sound (hI : Inv G K w H) {t : TypeId} {a x : AV} {v : Value} (ha : RelA G (tipsOf H) K a v) (h : oLen (tinfo P t) a H = some (x, H')) (ty : TypeId) :
    H' = H ∧ ∃ y, (Builtin.len_ #[t] ty #[v]).run P w = .ok y w ∧ RelA G (tipsOf H) K x y := by
  unfold oLen at h
  cases ht : tinfo P t with
  | none => simp [ht] at h
  | some ti =>
    rw [ht] at h
    obtain ⟨ii, d, z, h1, h2, h3, h4, rfl⟩ := tinfo_spec ht
    cases a with
    | d dx =>
      cases dx with
      | str s =>
        simp only at h
        split at h
        · rename_i hs
          simp only [Option.some.injEq, Prod.mk.injEq] at h
          obtain ⟨rfl, rfl⟩ := h
          simp only [RelA, RelD] at ha ⊢
          obtain ⟨rfl, _⟩ := ha
          cases d <;> simp [mkTI] at hs
          refine ⟨by simp, _, ?_, rfl⟩
          have hz : (⟨s.toArray⟩ : ByteArray).size = s.length := by show s.toArray.size = _; simp
          simp [Builtin.len_, run_under h2, goInt, hz]
        · cases h
      | sl c es =>
        simp only at h
        split at h
        · rename_i hs
          simp only [Option.some.injEq, Prod.mk.injEq] at h
          obtain ⟨rfl, rfl⟩ := h
          simp only [RelA, RelD] at ha ⊢
          obtain ⟨a, m, cap, rfl, r1, _⟩ := ha
          cases d <;> simp [mkTI] at hs
          refine ⟨by simp, _, ?_, rfl⟩
          simp [Builtin.len_, run_under h2, goInt, r1]
        · cases h
      | con c =>
        cases c with
        | map m =>
          cases m with
          | none =>
            simp only at h
            split at h
            · rename_i hs
              simp only [Option.some.injEq, Prod.mk.injEq] at h
              obtain ⟨rfl, rfl⟩ := h
              simp only [RelA, RelD] at ha ⊢
              obtain ⟨rfl, _⟩ := ha
              cases d <;> simp [mkTI] at hs
              refine ⟨by simp, .int .i64 0, ?_, rfl⟩
              unfold Builtin.len_
              simp [run_under h2, goInt]
            · cases h
          | some _ => simp at h
        | _ => simp at h
      | _ => simp at h
    | vec id pos es =>
      simp only at h
      split at h
      · rename_i hs
        simp only [Option.some.injEq, Prod.mk.injEq] at h
        obtain ⟨rfl, rfl⟩ := h
        simp only [RelA, RelD] at ha ⊢
        obtain ⟨⟨a, m, cap, rfl, r1, _⟩, _⟩ := ha
        cases d <;> simp [mkTI] at hs
        refine ⟨by simp, _, ?_, rfl⟩
        simp [Builtin.len_, run_under h2, goInt, r1]
      · cases h
    | arr id off len sz =>
      simp only at h
      cases hc : hcells H id with
      | none => simp [hc] at h
      | some cs =>
        simp only [hc] at h
        split at h
        · rename_i hs
          simp only [Option.some.injEq, Prod.mk.injEq] at h
          obtain ⟨rfl, rfl⟩ := h
          obtain ⟨b, n', vs, tt, fr, g1, _⟩ := hI.cells (hcells_spec hc)
          obtain ⟨cap, rfl, _⟩ := ha.arr_cells g1
          simp only [RelA, RelD]
          cases d <;> simp [mkTI] at hs
          refine ⟨by simp, _, ?_, rfl⟩
          simp [Builtin.len_, run_under h2, goInt]
        · cases h
    | row id pos =>
      simp only at h
      split at h
      · rename_i hs
        unfold oLenRow at h
        split at h
        · rename_i n s es hH
          split at h
          · rename_i hc; subst hc
            simp only [Option.some.injEq, Prod.mk.injEq] at h
            obtain ⟨rfl, rfl⟩ := h
            obtain ⟨w0, hG, hobj, hT⟩ := hI.row hH
            obtain ⟨_, hat⟩ := ha.row_at hI hH hG
            simp only [RelA, RelD]
            cases d <;> simp [mkTI] at hs
            rcases hat rfl with ⟨_, h0, a0, rfl, _⟩ | ⟨b, cap, rfl, rfl⟩
            · refine ⟨by simp, _, ?_, rfl⟩
              simp [Builtin.len_, run_under h2, goInt, h0]
            · refine ⟨by simp, _, ?_, rfl⟩
              simp [Builtin.len_, run_under h2, goInt]
          · cases h
        · cases h
      · cases h
    | map id =>
      simp only at h
      split at h
      · rename_i hs
        split at h
        · rename_i ck es e
          simp only [Option.some.injEq, Prod.mk.injEq] at h
          obtain ⟨rfl, rfl⟩ := h
          obtain ⟨b, bs, ms, g1, m1, m2, _⟩ := hI.map e
          obtain rfl := ha.map_map g1
          simp only [RelA, RelD]
          cases d <;> simp [mkTI] at hs
          refine ⟨by simp, _, ?_, rfl⟩
          have hms := m2.length.2
          simp only [Array.length_toList] at hms
          simp [Builtin.len_, run_under h2, goInt, getObj, Sem.run, m1, hms]
        · cases h
      · cases h
    | _ => simp at h

end Go.Proofs.YthhmioodienlmaaGreatDoor

/- The abstract machine, part 6: a new object; an object changed in its own block. -/
namespace Go.Proofs.YthhmioodienlmaaGreatDoor
open Go

variable {P : Program} {G : List GI} {T : Tips} {K : Kmem} {w : World} {H H' : List HO}

theorem tipsOf_append (H : List HO) (o : HO) {i : Nat} (hi : i < H.length) : tipsOf (H ++ [o]) i = tipsOf H i := by
  unfold tipsOf
  rw [List.getElem?_append_left hi]

theorem tipsOf_set_ne (H : List HO) (o : HO) {i j : Nat} (h : i ≠ j) : tipsOf (H.set i o) j = tipsOf H j := by
  unfold tipsOf
  rw [List.getElem?_set_ne h]

def HO.tipI : HO → Option (Nat × Nat)
  | .tip n sz => some (n, sz)
  | .row n _ es => some (n, es.length)
  | _ => none

theorem tipsOf_set_notTip {H : List HO} {i : Nat} {o o' : HO} (h : H[i]? = some o) (h1 : o.tipI = none) (h2 : o'.tipI = none) : tipsOf (H.set i o') = tipsOf H := by
  funext j
  by_cases e : i = j
  · subst e
    unfold tipsOf
    have hl := (List.getElem?_eq_some_iff.1 h).1
    rw [List.getElem?_set_self hl, h]
    cases o' <;> cases o <;> simp_all [HO.tipI]
  · exact tipsOf_set_ne _ _ e

/-- the worlds' outside is the same -/
structure Out (w w' : World) : Prop where
  os : w'.os = w.os
  out : w'.output = w.output
  tape : w'.tape = w.tape

theorem inB_lt_of {G : List GI} {b i : Nat} {g : GI} (h : G[i]? = some g) (hb : b ∈ g.blocks) : inB G b := ⟨i, g, h, hb⟩

theorem heap_push_lt {w w' : World} {o : Obj} (hw : w'.heap = w.heap.push o) {b : Nat} (hb : b < w.heap.size) : w'.heap[b]? = w.heap[b]? := by
  rw [hw, Array.getElem?_push_lt hb, Array.getElem?_eq_getElem hb]

theorem heap_push_eq {w w' : World} {o : Obj} (hw : w'.heap = w.heap.push o) : w'.heap[w.heap.size]? = some o := by
  rw [hw]; simp

theorem cell_same {w w' : World} {b o : Nat} (h : w'.heap[b]? = w.heap[b]?) : w'.cell? ⟨b, o, none⟩ = w.cell? ⟨b, o, none⟩ := by
  unfold World.cell?; rw [h]

theorem Evo.append (G : List GI) (H : List HO) (hl : G.length = H.length) (g : GI) (o : HO) : Evo G.length G (tipsOf H) (G ++ [g]) (tipsOf (H ++ [o])) := fun i hi x hx =>
  ⟨x, by rw [List.getElem?_append_left hi, hx], by rw [tipsOf_append H o (by omega)]; exact evo1.refl _ _⟩

theorem Inv.newK (hI : Inv G K w H) {w' : World} {K' : Kmem} {o : Obj} (hw : w'.heap = w.heap.push o) (ho : Out w w') (ao : HO) (g : GI) (hb : ∀ b ∈ g.blocks, b = w.heap.size)
    (hkl : Kle K K') (hkn : ∀ b p v, K' b p = some v → K b p = none → b = w.heap.size) (hag : ∀ b p v, K' b p = some v → w'.cell? ⟨b, p, none⟩ = some v)
    (hobj : ObjRel (G ++ [g]) (tipsOf (H ++ [ao])) K' w' ao g)
    (hwk : ∀ (m ck : Nat) (es todo : List (MKey × AV)) (cur : Option (MKey × AV)) (it : Nat) (snap : List Nat) (ck' : Nat) (es' : List (MKey × AV)) (b : Nat) (bs : List Nat),
      ao = .iter m ck es todo cur → g = .iter it snap → H[m]? = some (.map ck' es') → G[m]? = some (.map b bs) → WalkOk ck es snap ck' es' bs)
    (hnm : ∀ ck es, ao = .map ck es → ∀ (i ck' : Nat) (es' todo : List (MKey × AV)) (cur : Option (MKey × AV)), H[i]? = some (.iter H.length ck' es' todo cur) → False := by intro ck es e; cases e) :
    Inv (G ++ [g]) K' w' (H ++ [ao]) ∧ Post G.length G (tipsOf H) K w (G ++ [g]) (tipsOf (H ++ [ao])) K' w' := by
  have hevo := Evo.append G H hI.len g ao
  have hlast : ∀ {i : Nat} {x : GI}, (G ++ [g])[i]? = some x → (i < G.length ∧ G[i]? = some x) ∨ (i = G.length ∧ x = g) := by
    intro i x h
    by_cases hi : i < G.length
    · rw [List.getElem?_append_left hi] at h; exact .inl ⟨hi, h⟩
    · rw [List.getElem?_append_right (by omega)] at h
      have : i - G.length = 0 := by
        rcases Nat.eq_zero_or_pos (i - G.length) with e | e
        · exact e
        · rw [List.getElem?_eq_none (by simp; omega)] at h; cases h
      rw [this] at h; simp at h
      exact .inr ⟨by omega, h.symm⟩
  have hlastH : ∀ {i : Nat} {x : HO}, (H ++ [ao])[i]? = some x → (i < H.length ∧ H[i]? = some x) ∨ (i = H.length ∧ x = ao) := by
    intro i x h
    by_cases hi : i < H.length
    · rw [List.getElem?_append_left hi] at h; exact .inl ⟨hi, h⟩
    · rw [List.getElem?_append_right (by omega)] at h
      have : i - H.length = 0 := by
        rcases Nat.eq_zero_or_pos (i - H.length) with e | e
        · exact e
        · rw [List.getElem?_eq_none (by simp; omega)] at h; cases h
      rw [this] at h; simp at h
      exact .inr ⟨by omega, h.symm⟩
  refine ⟨⟨hag, hI.glob.mono hkl, ?_, ?_, ?_, ?_⟩, ⟨?_, hevo, hkl, ?_, ?_, ?_, ?_, ho.os, ho.out, ho.tape⟩⟩
  · simp [hI.len]
  · intro i x y hx hy
    rcases hlast hy with ⟨h1, h2⟩ | ⟨h1, rfl⟩
    · rcases hlastH hx with ⟨h3, h4⟩ | ⟨h3, rfl⟩
      · refine (hI.obj i x y h4 h2).conv (fun b hbb => heap_push_lt hw (hI.lt_of_block ⟨i, y, h2, hbb⟩)) (fun b hbb p hn => by
          cases hv : K' b p with
          | none => rfl
          | some u =>
            have h5 := hkn b p u hv hn
            have h6 := hI.lt_of_block ⟨i, y, h2, hbb⟩
            omega) (fun a v r => r.evo hkl hevo) ?_
        intro j b bs hj
        have hjl : j < G.length := by rcases hj with hj | hj <;> exact (List.getElem?_eq_some_iff.1 hj).1
        exact ⟨bs, by rw [List.getElem?_append_left hjl]; exact hj⟩
      · have := hI.len; omega
    · rcases hlastH hx with ⟨h3, h4⟩ | ⟨h3, rfl⟩
      · have := hI.len; omega
      · exact hobj
  · intro i j gi gj b hi hj hbi hbj
    rcases hlast hi with ⟨h1, h2⟩ | ⟨h1, rfl⟩ <;> rcases hlast hj with ⟨h3, h4⟩ | ⟨h3, rfl⟩
    · exact hI.apart i j gi gj b h2 h4 hbi hbj
    · have := hI.lt_of_block ⟨i, gi, h2, hbi⟩; have := hb b hbj; omega
    · have := hI.lt_of_block ⟨j, gj, h4, hbj⟩; have := hb b hbi; omega
    · omega
  · intro i m ck es todo cur it snap ck' es' b bs h1 h2 h3 h4
    have hm : m < H.length → H[m]? = some (.map ck' es') ∧ G[m]? = some (.map b bs) := fun hm => by
      rcases hlastH h3 with ⟨h6, h7⟩ | ⟨h6, h7⟩
      · rcases hlast h4 with ⟨h8, h9⟩ | ⟨h8, h9⟩
        · exact ⟨h7, h9⟩
        · have := hI.len; omega
      · omega
    rcases hlastH h1 with ⟨h6, h7⟩ | ⟨h6, rfl⟩
    · have hgi : G[i]? = some (.iter it snap) := by
        rcases hlast h2 with ⟨_, h9⟩ | ⟨h8, _⟩
        · exact h9
        · have := hI.len; omega
      by_cases hml : m < H.length
      · exact hI.walks i m ck es todo cur it snap ck' es' b bs h7 hgi (hm hml).1 (hm hml).2
      · rcases hlastH h3 with ⟨h8, _⟩ | ⟨h8, h9⟩
        · exact absurd h8 hml
        · subst h8
          exact (hnm ck' es' h9.symm i ck es todo cur h7).elim
    · rcases hlast h2 with ⟨h8, _⟩ | ⟨_, rfl⟩
      · have := hI.len; omega
      · by_cases hml : m < H.length
        · exact hwk m ck es todo cur it snap ck' es' b bs rfl rfl (hm hml).1 (hm hml).2
        · rcases hlastH h3 with ⟨h8, _⟩ | ⟨h8, h9⟩
          · exact absurd h8 hml
          · cases h9
  · simp
  · intro b p v h1 h2; exact .inl (by have := hkn b p v h1 h2; omega)
  · rintro b ⟨i, x, hx, hbx⟩
    rcases hlast hx with ⟨h1, h2⟩ | ⟨h1, rfl⟩
    · exact .inl ⟨i, x, h2, hbx⟩
    · exact .inr (by have := hb b hbx; omega)
  · rw [hw]; simp
  · intro b hb1 _; exact heap_push_lt hw hb1

theorem Inv.new (hI : Inv G K w H) {w' : World} {o : Obj} (hw : w'.heap = w.heap.push o) (ho : Out w w') (ao : HO) (g : GI) (hb : ∀ b ∈ g.blocks, b = w.heap.size)
    (hobj : ObjRel (G ++ [g]) (tipsOf (H ++ [ao])) K w' ao g)
    (hwk : ∀ (m ck : Nat) (es todo : List (MKey × AV)) (cur : Option (MKey × AV)) (it : Nat) (snap : List Nat) (ck' : Nat) (es' : List (MKey × AV)) (b : Nat) (bs : List Nat),
      ao = .iter m ck es todo cur → g = .iter it snap → H[m]? = some (.map ck' es') → G[m]? = some (.map b bs) → WalkOk ck es snap ck' es' bs)
    (hnm : ∀ ck es, ao = .map ck es → ∀ (i ck' : Nat) (es' todo : List (MKey × AV)) (cur : Option (MKey × AV)), H[i]? = some (.iter H.length ck' es' todo cur) → False := by intro ck es e; cases e) :
    Inv (G ++ [g]) K w' (H ++ [ao]) ∧ Post G.length G (tipsOf H) K w (G ++ [g]) (tipsOf (H ++ [ao])) K w' :=
  hI.newK hw ho ao g hb (Kle.refl K) (fun b p v e1 e2 => by rw [e1] at e2; cases e2)
    (fun b p v hk => by rw [cell_same (heap_push_lt hw (hI.k_lt hk))]; exact hI.agree b p v hk) hobj hwk hnm

/-- an object that lies nowhere: a word of the abstract machine's own -/
theorem Inv.ghost (hI : Inv G K w H) (n sz : Nat) :
    Inv (G ++ [.tip none]) K w (H ++ [.tip n sz]) ∧ Post G.length G (tipsOf H) K w (G ++ [.tip none]) (tipsOf (H ++ [.tip n sz])) K w := by
  have hevo := Evo.append G H hI.len (.tip none) (.tip n sz)
  have hkl : Kle K K := Kle.refl K
  have hlast : ∀ {i : Nat} {x : GI}, (G ++ [GI.tip none])[i]? = some x → (i < G.length ∧ G[i]? = some x) ∨ (i = G.length ∧ x = .tip none) := by
    intro i x h
    by_cases hi : i < G.length
    · rw [List.getElem?_append_left hi] at h; exact .inl ⟨hi, h⟩
    · rw [List.getElem?_append_right (by omega)] at h
      have : i - G.length = 0 := by
        rcases Nat.eq_zero_or_pos (i - G.length) with e | e
        · exact e
        · rw [List.getElem?_eq_none (by simp; omega)] at h; cases h
      rw [this] at h; simp at h
      exact .inr ⟨by omega, h.symm⟩
  have hlastH : ∀ {i : Nat} {x : HO}, (H ++ [HO.tip n sz])[i]? = some x → (i < H.length ∧ H[i]? = some x) ∨ (i = H.length ∧ x = .tip n sz) := by
    intro i x h
    by_cases hi : i < H.length
    · rw [List.getElem?_append_left hi] at h; exact .inl ⟨hi, h⟩
    · rw [List.getElem?_append_right (by omega)] at h
      have : i - H.length = 0 := by
        rcases Nat.eq_zero_or_pos (i - H.length) with e | e
        · exact e
        · rw [List.getElem?_eq_none (by simp; omega)] at h; cases h
      rw [this] at h; simp at h
      exact .inr ⟨by omega, h.symm⟩
  have hll := hI.len
  refine ⟨⟨hI.agree, hI.glob, by simp [hI.len], ?_, ?_, ?_⟩, ⟨by simp, hevo, hkl, ?_, ?_, Nat.le_refl _, fun _ _ _ => rfl, rfl, rfl, rfl⟩⟩
  · intro i x y hx hy
    rcases hlast hy with ⟨h1, h2⟩ | ⟨h1, rfl⟩
    · rcases hlastH hx with ⟨h3, h4⟩ | ⟨h3, rfl⟩
      · refine (hI.obj i x y h4 h2).conv (fun b hbb => rfl) (fun _ _ _ h => h) (fun a v r => r.evo hkl hevo) ?_
        intro j b bs hj
        have hjl : j < G.length := by rcases hj with hj | hj <;> exact (List.getElem?_eq_some_iff.1 hj).1
        exact ⟨bs, by rw [List.getElem?_append_left hjl]; exact hj⟩
      · omega
    · rcases hlastH hx with ⟨h3, h4⟩ | ⟨h3, rfl⟩
      · omega
      · simp only [ObjRel]
  · intro i j gi gj b hi hj hbi hbj
    rcases hlast hi with ⟨h1, h2⟩ | ⟨h1, rfl⟩ <;> rcases hlast hj with ⟨h3, h4⟩ | ⟨h3, rfl⟩
    · exact hI.apart i j gi gj b h2 h4 hbi hbj
    · simp [GI.blocks] at hbj
    · simp [GI.blocks] at hbi
    · omega
  · intro i m ck es todo cur it snap ck' es' b bs h1 h2 h3 h4
    rcases hlastH h1 with ⟨h6, h7⟩ | ⟨h6, h7⟩
    · rcases hlast h2 with ⟨_, h9⟩ | ⟨h8, _⟩
      · rcases hlastH h3 with ⟨_, k1⟩ | ⟨_, k1⟩
        · rcases hlast h4 with ⟨_, k2⟩ | ⟨k2, _⟩
          · exact hI.walks i m ck es todo cur it snap ck' es' b bs h7 h9 k1 k2
          · have := (List.getElem?_eq_some_iff.1 k1).1; omega
        · cases k1
      · omega
    · cases h7
  · intro b p v h1 h2; rw [h1] at h2; cases h2
  · rintro b ⟨i, x, hx, hbx⟩
    rcases hlast hx with ⟨h1, h2⟩ | ⟨h1, rfl⟩
    · exact .inl ⟨i, x, h2, hbx⟩
    · simp [GI.blocks] at hbx

theorem Inv.adopt (hI : Inv G K w H) (ao : HO) (g : GI) (hb : ∀ b ∈ g.blocks, ¬ inB G b) (hobj : ObjRel (G ++ [g]) (tipsOf (H ++ [ao])) K w ao g)
    (h1 : ∀ m ck es todo cur, ao ≠ .iter m ck es todo cur) (h2 : ∀ ck es, ao ≠ .map ck es) :
    Inv (G ++ [g]) K w (H ++ [ao]) ∧ Evo G.length G (tipsOf H) (G ++ [g]) (tipsOf (H ++ [ao])) := by
  have hevo := Evo.append G H hI.len g ao
  have hkl : Kle K K := Kle.refl K
  have hlast : ∀ {i : Nat} {x : GI}, (G ++ [g])[i]? = some x → (i < G.length ∧ G[i]? = some x) ∨ (i = G.length ∧ x = g) := by
    intro i x h
    by_cases hi : i < G.length
    · rw [List.getElem?_append_left hi] at h; exact .inl ⟨hi, h⟩
    · rw [List.getElem?_append_right (by omega)] at h
      have : i - G.length = 0 := by
        rcases Nat.eq_zero_or_pos (i - G.length) with e | e
        · exact e
        · rw [List.getElem?_eq_none (by simp; omega)] at h; cases h
      rw [this] at h; simp at h
      exact .inr ⟨by omega, h.symm⟩
  have hlastH : ∀ {i : Nat} {x : HO}, (H ++ [ao])[i]? = some x → (i < H.length ∧ H[i]? = some x) ∨ (i = H.length ∧ x = ao) := by
    intro i x h
    by_cases hi : i < H.length
    · rw [List.getElem?_append_left hi] at h; exact .inl ⟨hi, h⟩
    · rw [List.getElem?_append_right (by omega)] at h
      have : i - H.length = 0 := by
        rcases Nat.eq_zero_or_pos (i - H.length) with e | e
        · exact e
        · rw [List.getElem?_eq_none (by simp; omega)] at h; cases h
      rw [this] at h; simp at h
      exact .inr ⟨by omega, h.symm⟩
  have hll := hI.len
  have h1' := h1
  have h2' := h2
  clear h1 h2
  refine ⟨⟨hI.agree, hI.glob, by simp [hI.len], ?_, ?_, ?_⟩, hevo⟩
  · intro i x y hx hy
    rcases hlast hy with ⟨h1, h2⟩ | ⟨h1, rfl⟩
    · rcases hlastH hx with ⟨h3, h4⟩ | ⟨h3, rfl⟩
      · refine (hI.obj i x y h4 h2).conv (fun b hbb => rfl) (fun _ _ _ h => h) (fun a v r => r.evo hkl hevo) ?_
        intro j b bs hj
        have hjl : j < G.length := by rcases hj with hj | hj <;> exact (List.getElem?_eq_some_iff.1 hj).1
        exact ⟨bs, by rw [List.getElem?_append_left hjl]; exact hj⟩
      · omega
    · rcases hlastH hx with ⟨h3, h4⟩ | ⟨h3, rfl⟩
      · omega
      · exact hobj
  · intro i j gi gj b hi hj hbi hbj
    rcases hlast hi with ⟨h1, h2⟩ | ⟨h1, rfl⟩ <;> rcases hlast hj with ⟨h3, h4⟩ | ⟨h3, rfl⟩
    · exact hI.apart i j gi gj b h2 h4 hbi hbj
    · exact absurd ⟨i, gi, h2, hbi⟩ (hb b hbj)
    · exact absurd ⟨j, gj, h4, hbj⟩ (hb b hbi)
    · omega
  · intro i m ck es todo cur it snap ck' es' b bs h1 h2 h3 h4
    rcases hlastH h1 with ⟨h6, h7⟩ | ⟨h6, h7⟩
    · rcases hlast h2 with ⟨_, h9⟩ | ⟨h8, _⟩
      · rcases hlastH h3 with ⟨_, k1⟩ | ⟨_, k1⟩
        · rcases hlast h4 with ⟨_, k2⟩ | ⟨k2, _⟩
          · exact hI.walks i m ck es todo cur it snap ck' es' b bs h7 h9 k1 k2
          · have := (List.getElem?_eq_some_iff.1 k1).1; omega
        · exact absurd k1.symm (h2' _ _)
      · omega
    · exact absurd h7.symm (h1' _ _ _ _ _)

theorem Inv.ghostRow (hI : Inv G K w H) (sz : Nat) :
    Inv (G ++ [.row none]) K w (H ++ [.row 0 sz []]) ∧ Post G.length G (tipsOf H) K w (G ++ [.row none]) (tipsOf (H ++ [.row 0 sz []])) K w := by
  have hevo := Evo.append G H hI.len (.row none) (.row 0 sz [])
  have hkl : Kle K K := Kle.refl K
  have hlast : ∀ {i : Nat} {x : GI}, (G ++ [GI.row none])[i]? = some x → (i < G.length ∧ G[i]? = some x) ∨ (i = G.length ∧ x = .row none) := by
    intro i x h
    by_cases hi : i < G.length
    · rw [List.getElem?_append_left hi] at h; exact .inl ⟨hi, h⟩
    · rw [List.getElem?_append_right (by omega)] at h
      have : i - G.length = 0 := by
        rcases Nat.eq_zero_or_pos (i - G.length) with e | e
        · exact e
        · rw [List.getElem?_eq_none (by simp; omega)] at h; cases h
      rw [this] at h; simp at h
      exact .inr ⟨by omega, h.symm⟩
  have hlastH : ∀ {i : Nat} {x : HO}, (H ++ [HO.row 0 sz []])[i]? = some x → (i < H.length ∧ H[i]? = some x) ∨ (i = H.length ∧ x = .row 0 sz []) := by
    intro i x h
    by_cases hi : i < H.length
    · rw [List.getElem?_append_left hi] at h; exact .inl ⟨hi, h⟩
    · rw [List.getElem?_append_right (by omega)] at h
      have : i - H.length = 0 := by
        rcases Nat.eq_zero_or_pos (i - H.length) with e | e
        · exact e
        · rw [List.getElem?_eq_none (by simp; omega)] at h; cases h
      rw [this] at h; simp at h
      exact .inr ⟨by omega, h.symm⟩
  have hll := hI.len
  refine ⟨⟨hI.agree, hI.glob, by simp [hI.len], ?_, ?_, ?_⟩, ⟨by simp, hevo, hkl, ?_, ?_, Nat.le_refl _, fun _ _ _ => rfl, rfl, rfl, rfl⟩⟩
  · intro i x y hx hy
    rcases hlast hy with ⟨h1, h2⟩ | ⟨h1, rfl⟩
    · rcases hlastH hx with ⟨h3, h4⟩ | ⟨h3, rfl⟩
      · refine (hI.obj i x y h4 h2).conv (fun b hbb => rfl) (fun _ _ _ h => h) (fun a v r => r.evo hkl hevo) ?_
        intro j b bs hj
        have hjl : j < G.length := by rcases hj with hj | hj <;> exact (List.getElem?_eq_some_iff.1 hj).1
        exact ⟨bs, by rw [List.getElem?_append_left hjl]; exact hj⟩
      · omega
    · rcases hlastH hx with ⟨h3, h4⟩ | ⟨h3, rfl⟩
      · omega
      · simp only [ObjRel]
  · intro i j gi gj b hi hj hbi hbj
    rcases hlast hi with ⟨h1, h2⟩ | ⟨h1, rfl⟩ <;> rcases hlast hj with ⟨h3, h4⟩ | ⟨h3, rfl⟩
    · exact hI.apart i j gi gj b h2 h4 hbi hbj
    · simp [GI.blocks] at hbj
    · simp [GI.blocks] at hbi
    · omega
  · intro i m ck es todo cur it snap ck' es' b bs h1 h2 h3 h4
    rcases hlastH h1 with ⟨h6, h7⟩ | ⟨h6, h7⟩
    · rcases hlast h2 with ⟨_, h9⟩ | ⟨h8, _⟩
      · rcases hlastH h3 with ⟨_, k1⟩ | ⟨_, k1⟩
        · rcases hlast h4 with ⟨_, k2⟩ | ⟨k2, _⟩
          · exact hI.walks i m ck es todo cur it snap ck' es' b bs h7 h9 k1 k2
          · have := (List.getElem?_eq_some_iff.1 k1).1; omega
        · cases k1
      · omega
    · cases h7
  · intro b p v h1 h2; rw [h1] at h2; cases h2
  · rintro b ⟨i, x, hx, hbx⟩
    rcases hlast hx with ⟨h1, h2⟩ | ⟨h1, rfl⟩
    · exact .inl ⟨i, x, h2, hbx⟩
    · simp [GI.blocks] at hbx

/-- an object is changed: its block is written, or it moves to a new block -/
theorem Inv.change (hI : Inv G K w H) {w' : World} {K' : Kmem} (id : Nat) {g g' : GI} {o o' : HO} (hg : G[id]? = some g) (ho : H[id]? = some o)
    (hsz : w.heap.size ≤ w'.heap.size) (hsame : ∀ b, b < w.heap.size → b ∉ g.blocks → w'.heap[b]? = w.heap[b]?) (hout : Out w w')
    (hbl : ∀ b ∈ g'.blocks, b ∈ g.blocks ∨ w.heap.size ≤ b)
    (hk : Kle K K') (hkn : ∀ b p v, K' b p = some v → K b p = none → b ∈ g.blocks ∨ w.heap.size ≤ b) (hag : ∀ b p v, K' b p = some v → w'.cell? ⟨b, p, none⟩ = some v)
    (hev : evo1 g (tipsOf H id) g' (tipsOf (H.set id o') id))
    (hobj : ObjRel (G.set id g') (tipsOf (H.set id o')) K' w' o' g')
    (hwk : ∀ (i m ck : Nat) (es todo : List (MKey × AV)) (cur : Option (MKey × AV)) (it : Nat) (snap : List Nat) (ck' : Nat) (es' : List (MKey × AV)) (b : Nat) (bs : List Nat),
      (H.set id o')[i]? = some (.iter m ck es todo cur) → (G.set id g')[i]? = some (.iter it snap) → (H.set id o')[m]? = some (.map ck' es') → (G.set id g')[m]? = some (.map b bs) → WalkOk ck es snap ck' es' bs)
    : Inv (G.set id g') K' w' (H.set id o') ∧ Post G.length G (tipsOf H) K w (G.set id g') (tipsOf (H.set id o')) K' w' := by
  have hil : id < G.length := (List.getElem?_eq_some_iff.1 hg).1
  have hil' : id < H.length := (List.getElem?_eq_some_iff.1 ho).1
  have hevo : Evo G.length G (tipsOf H) (G.set id g') (tipsOf (H.set id o')) := fun i hi x hx => by
    by_cases e : id = i
    · subst e
      rw [hg] at hx; cases hx
      exact ⟨g', by rw [List.getElem?_set_self hil], hev⟩
    · exact ⟨x, by rw [List.getElem?_set_ne e, hx], by rw [tipsOf_set_ne H o' e]; exact evo1.refl _ _⟩
  have hother : ∀ {i : Nat} {x : GI}, id ≠ i → G[i]? = some x → ∀ b ∈ x.blocks, b ∉ g.blocks := fun {i x} e hx b hb hb' => e (hI.apart id i g x b hg hx hb' hb)
  refine ⟨⟨hag, hI.glob.mono hk, by simp [hI.len], ?_, ?_, hwk⟩, ⟨by simp, hevo, hk, ?_, ?_, hsz, ?_, hout.os, hout.out, hout.tape⟩⟩
  · intro i x y hx hy
    by_cases e : id = i
    · subst e
      rw [List.getElem?_set_self hil'] at hx; cases hx
      rw [List.getElem?_set_self hil] at hy; cases hy
      exact hobj
    · rw [List.getElem?_set_ne e] at hx hy
      refine (hI.obj i x y hx hy).conv (fun b hb => hsame b (hI.lt_of_block ⟨i, y, hy, hb⟩) (hother e hy b hb)) ?_ (fun a v r => r.evo hk hevo) ?_
      · intro b hb p hn
        cases hv : K' b p with
        | none => rfl
        | some v =>
          rcases hkn b p v hv hn with h1 | h1
          · exact absurd h1 (hother e hy b hb)
          · have := hI.lt_of_block ⟨i, y, hy, hb⟩; omega
      · intro j b bs hj
        by_cases e2 : id = j
        · subst e2
          rw [List.getElem?_set_self hil]
          rw [hg] at hj
          rcases hj with hj | hj
          · cases hj
            simp only [evo1] at hev
            rcases hev with rfl | ⟨bs', rfl⟩
            · exact ⟨bs, .inr rfl⟩
            · exact ⟨bs', .inl rfl⟩
          · cases hj
            simp only [evo1] at hev
            subst hev
            exact ⟨bs, .inr rfl⟩
        · exact ⟨bs, by rw [List.getElem?_set_ne e2]; exact hj⟩
  · intro i j gi gj b hi hj hbi hbj
    by_cases e : id = i <;> by_cases e2 : id = j
    · omega
    · subst e
      rw [List.getElem?_set_self hil] at hi; cases hi
      rw [List.getElem?_set_ne e2] at hj
      rcases hbl b hbi with h1 | h1
      · exact absurd h1 (hother e2 hj b hbj)
      · have := hI.lt_of_block ⟨j, gj, hj, hbj⟩; omega
    · subst e2
      rw [List.getElem?_set_self hil] at hj; cases hj
      rw [List.getElem?_set_ne e] at hi
      rcases hbl b hbj with h1 | h1
      · exact absurd h1 (hother e hi b hbi)
      · have := hI.lt_of_block ⟨i, gi, hi, hbi⟩; omega
    · rw [List.getElem?_set_ne e] at hi
      rw [List.getElem?_set_ne e2] at hj
      exact hI.apart i j gi gj b hi hj hbi hbj
  · intro b p v h1 h2
    rcases hkn b p v h1 h2 with h3 | h3
    · exact .inr ⟨id, g, hg, h3⟩
    · exact .inl h3
  · rintro b ⟨i, x, hx, hb⟩
    by_cases e : id = i
    · subst e
      rw [List.getElem?_set_self hil] at hx; cases hx
      rcases hbl b hb with h1 | h1
      · exact .inl ⟨id, g, hg, h1⟩
      · exact .inr h1
    · rw [List.getElem?_set_ne e] at hx
      exact .inl ⟨i, x, hx, hb⟩
  · intro b hb hn
    exact hsame b hb (fun h => hn ⟨id, g, hg, h⟩)

/-- where no map and no walk is changed, walks stay right -/
theorem Inv.walks_set (hI : Inv G K w H) {id : Nat} {g g' : GI} {o o' : HO} (hg : G[id]? = some g) (ho : H[id]? = some o)
    (h1 : ∀ m ck es todo cur, o' ≠ .iter m ck es todo cur) (h2 : ∀ ck es, o' ≠ .map ck es) :
    ∀ (i m ck : Nat) (es todo : List (MKey × AV)) (cur : Option (MKey × AV)) (it : Nat) (snap : List Nat) (ck' : Nat) (es' : List (MKey × AV)) (b : Nat) (bs : List Nat),
      (H.set id o')[i]? = some (.iter m ck es todo cur) → (G.set id g')[i]? = some (.iter it snap) → (H.set id o')[m]? = some (.map ck' es') → (G.set id g')[m]? = some (.map b bs) → WalkOk ck es snap ck' es' bs := by
  have hil : id < G.length := (List.getElem?_eq_some_iff.1 hg).1
  have hil' : id < H.length := (List.getElem?_eq_some_iff.1 ho).1
  intro i m ck es todo cur it snap ck' es' b bs k1 k2 k3 k4
  by_cases e : id = i
  · subst e
    rw [List.getElem?_set_self hil'] at k1
    exact absurd (Option.some.inj k1) (h1 _ _ _ _ _)
  · by_cases e2 : id = m
    · subst e2
      rw [List.getElem?_set_self hil'] at k3
      exact absurd (Option.some.inj k3) (h2 _ _)
    · rw [List.getElem?_set_ne e] at k1 k2
      rw [List.getElem?_set_ne e2] at k3 k4
      exact hI.walks i m ck es todo cur it snap ck' es' b bs k1 k2 k3 k4

end Go.Proofs.YthhmioodienlmaaGreatDoor
