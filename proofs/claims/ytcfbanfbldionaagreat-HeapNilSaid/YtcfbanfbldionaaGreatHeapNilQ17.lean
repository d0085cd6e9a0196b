/- Lemmas and contracts for scullion's HeapNil: HpI, HpJ, HpK, HpL, HpO, HpP. -/
import Derived.Test.YtcfbanfbldionaaGreatHeapNilQ16
import Derived.Test.YtcfbanfbldionaaGreatHeapNilQ14
/- Heaps: the words of a heap, an invariant: plain. -/
namespace Scul
open Go Go.Sl Go.RowKit Redo Dev
theorem getD_of {l m : List Int} {i : Nat} (h : l[i]? = m[i]?) : l.getD i 0 = m.getD i 0 := by rw [List.getD_eq_getElem?_getD, List.getD_eq_getElem?_getD, h]
/-- A part of words, by its words. -/
theorem part_congr {s m : List Int} {a n : Nat} (h : ∀ i, a ≤ i → i < a + n → s[i]? = m[i]?) : (s.drop a).take n = (m.drop a).take n := by
  refine List.ext_getElem? fun i => ?_
  by_cases hi : i < n
  · rw [List.getElem?_take_of_lt hi, List.getElem?_take_of_lt hi, List.getElem?_drop, List.getElem?_drop]
    exact h _ (by omega) (by omega)
  · rw [List.getElem?_eq_none (by rw [List.length_take]; omega), List.getElem?_eq_none (by rw [List.length_take]; omega)]
theorem part_get {s : List Int} {a n i : Nat} (h : i < n) : ((s.drop a).take n)[i]? = s[a + i]? := by
  rw [List.getElem?_take_of_lt h, List.getElem?_drop]
theorem part_length {s : List Int} {a n : Nat} (h : a + n ≤ s.length) : ((s.drop a).take n).length = n := by
  rw [List.length_take, List.length_drop]; omega
theorem mem_part {s : List Int} {a n : Nat} {x : Int} (h : x ∈ (s.drop a).take n) : ∃ i, i < n ∧ s[a + i]? = some x := by
  obtain ⟨i, hi, rfl⟩ := List.getElem_of_mem h
  have hl := hi
  rw [List.length_take] at hl
  have hn : i < n := by omega
  exact ⟨i, hn, by rw [← part_get hn]; exact List.getElem?_eq_getElem hi⟩
namespace Hp
/-- Is a block used? -/
def isU (U : List Bool) (b : Int) : Prop := getB U b = true
/-- A block's words are an object, whose references are all used. -/
def Good (c : Cfg) (s : List Int) (U : List Bool) (b : Int) : Prop := ∃ k vs e, objD c.kinds (blockW c s b) = some (k, vs, e) ∧ ∀ v ∈ vs, v.kind = 3 → getB U v.ref = true
/-- The words of a heap, of which U are used. -/
structure WInv (c : Cfg) (s : List Int) (U : List Bool) : Prop where
  ok : c.Ok
  len : (s.length : Int) = c.words
  u64 : ∀ x ∈ s, U64 x
  sup : s.take (9 + c.kinds.length) = c.super
  used : usedW c s = U
  clos : ∀ b, getB U b = true → Good c s U b
  rts : ∀ i : Nat, (i : Int) < c.roots → RootWord (isU U) c.count (s.getD (c.rootsAt.toNat + i) 0)
  wks : ∀ i : Nat, (i : Int) < c.weaks → RootWord (isU U) c.count (s.getD ((c.rootsAt + c.roots).toNat + i) 0)
variable {c : Cfg} {s s' : List Int} {U U' : List Bool}
/-- Where the parts lie. -/
theorem places (h : c.Ok) : (9 + c.kinds.length : Int) ≤ c.rootsAt ∧ c.rootsAt + c.roots + c.weaks ≤ c.bitsAt ∧ c.bitsAt + (c.count + 63) / 64 ≤ c.logAt ∧ c.logAt + c.log = c.blocksAt ∧ c.blocksAt ≤ c.words ∧ 0 ≤ c.rootsAt ∧ 0 ≤ c.bitsAt ∧ 0 < c.logAt ∧ c.logAt ≤ 130 ∧ c.logAt % 8 = 0 ∧ c.words ≤ 65536 := by
  have hp := Cfg.near_places h.toNear
  have h1 := h.toNear.roots; have h2 := h.toNear.weaks; have h3 := h.toNear.log; have h4 := h.some; have h5 := h.words
  have e1 : c.rootsAt = Cfg.lineOf (9 + c.kinds.length) := rfl
  have e2 : c.bitsAt = Cfg.lineOf (c.rootsAt + c.roots + c.weaks) := rfl
  have e3 : c.logAt = Cfg.lineOf (c.bitsAt + (c.count + 63) / 64) := rfl
  have e4 : c.blocksAt = c.logAt + c.log := rfl
  have e5 : c.words = Cfg.lineOf (c.blocksAt + c.all) := rfl
  unfold Cfg.lineOf at e1 e2 e3 e5
  omega
theorem WInv.ulen (h : WInv c s U) : U.length = c.count.toNat := by rw [← h.used]; simp [usedW, unpackW]
theorem WInv.bit (h : WInv c s U) {b : Int} (hb : getB U b = true) : 0 ≤ b ∧ b < c.count := by
  have h1 := getB_in hb
  rw [h.ulen] at h1
  have := h.ok.some
  omega
theorem WInv.cfg (h : WInv c s U) : cfgP s = some c := by
  have h1 : s = c.super ++ s.drop (9 + c.kinds.length) := by
    conv => lhs; rw [← List.take_append_drop (9 + c.kinds.length) s, h.sup]
  rw [h1]
  exact cfgP_super h.ok _
/-- Words whose log is clear are an image. -/
theorem WInv.read (h : WInv c s U) (hlog : s.getD c.logAt.toNat 0 = 0) : (readP s).isSome = true := by
  obtain ⟨g, bs, hr, _⟩ := readP_some (S := isU U) h.cfg (by rw [h.len]; exact Int.le_refl _) hlog (by
      intro b hb
      rw [h.used]
      obtain ⟨k, vs, e, h1, h2⟩ := h.clos b hb
      exact ⟨hb, k, vs, e, h1, h2⟩) (by
      intro x hx
      obtain ⟨i, hi, he⟩ := mem_part hx
      have := h.rts i (by omega)
      rw [List.getD_eq_getElem?_getD, he] at this
      exact this) (by
      intro x hx
      obtain ⟨i, hi, he⟩ := mem_part hx
      have := h.wks i (by omega)
      rw [List.getD_eq_getElem?_getD, he] at this
      exact this)
  rw [hr]
  rfl
/-- Words that changed. -/
theorem WInv.step (h : WInv c s U) (hl : s'.length = s.length) (hu : ∀ x ∈ s', U64 x) (hsup : ∀ i : Nat, (i : Int) < 9 + c.kinds.length → s'[i]? = s[i]?)
    (hused : usedW c s' = U') (hU : ∀ b, getB U b = true → getB U' b = true)
    (hb : ∀ b, getB U' b = true → Good c s' U' b ∨ (getB U b = true ∧ blockW c s' b = blockW c s b))
    (hr : ∀ i : Nat, (i : Int) < c.roots → s'[c.rootsAt.toNat + i]? = s[c.rootsAt.toNat + i]? ∨ RootWord (isU U') c.count (s'.getD (c.rootsAt.toNat + i) 0))
    (hw : ∀ i : Nat, (i : Int) < c.weaks → s'[(c.rootsAt + c.roots).toNat + i]? = s[(c.rootsAt + c.roots).toNat + i]? ∨ RootWord (isU U') c.count (s'.getD ((c.rootsAt + c.roots).toNat + i) 0)) : WInv c s' U' := by
  have hmono : ∀ x, RootWord (isU U) c.count x → RootWord (isU U') c.count x := fun x hx => hx.imp id fun ⟨a, b, d⟩ => ⟨a, b, hU _ d⟩
  refine ⟨h.ok, by rw [hl, h.len], hu, ?_, hused, ?_, ?_, ?_⟩
  · rw [← h.sup]
    have := part_congr (s := s') (m := s) (a := 0) (n := 9 + c.kinds.length) fun i _ hi => hsup i (by omega)
    simpa using this
  · intro b hb'
    rcases hb b hb' with hg | ⟨h1, h2⟩
    · exact hg
    · obtain ⟨k, vs, e, h3, h4⟩ := h.clos b h1
      exact ⟨k, vs, e, by rw [h2]; exact h3, fun v hv h5 => hU _ (h4 v hv h5)⟩
  · intro i hi
    rcases hr i hi with h1 | h1
    · rw [getD_of h1]; exact hmono _ (h.rts i hi)
    · exact h1
  · intro i hi
    rcases hw i hi with h1 | h1
    · rw [getD_of h1]; exact hmono _ (h.wks i hi)
    · exact h1
theorem blockW_length (h : c.Ok) (hl : (s.length : Int) = c.words) {b : Int} (hb : 0 ≤ b ∧ b < c.count) : (blockW c s b).length = (c.size b).toNat := by
  obtain ⟨h1, h2, h3, h4⟩ := Cfg.at_range h.toNear hb.1 hb.2
  have hp := places h
  have n3 := h.toNear.log
  unfold blockW
  exact part_length (by omega)
theorem blockW_congr (h : c.Ok) {b : Int} (hb : 0 ≤ b ∧ b < c.count) (hs : ∀ i : Nat, c.at_ b ≤ i → (i : Int) < c.at_ b + c.size b → s'[i]? = s[i]?) : blockW c s' b = blockW c s b := by
  obtain ⟨h1, h2, h3, h4⟩ := Cfg.at_range h.toNear hb.1 hb.2
  have hp := places h
  have n3 := h.toNear.log
  unfold blockW
  refine part_congr fun i h5 h6 => ?_
  exact hs i (by omega) (by omega)
/-- Bits that are as they were. -/
theorem usedW_congr (h : c.Ok) (hs : ∀ i : Nat, c.bitsAt ≤ i → (i : Int) < c.bitsAt + (c.count + 63) / 64 → s'[i]? = s[i]?) : usedW c s' = usedW c s := by
  have hp := places h
  have h4 := h.some
  unfold usedW
  rw [part_congr fun i h5 h6 => hs i (by omega) (by omega)]
end Hp
/-- Fields that are written over. -/
def putF (w : List Int) (o : Nat) (l : List Int) : List Int := w.take o ++ l ++ w.drop (o + l.length)
theorem kw_val {k : Int} {w : List Int} {v : Val} (h : valO k w = some v) : (w.length : Int) = kw k := by
  unfold valO at h
  unfold kw
  split at h
  · rename_i e; rw [if_pos (.inl e.1)]; omega
  split at h
  · rename_i e; rw [if_neg (by omega), if_pos e.1]; omega
  split at h
  · rename_i e; rw [if_pos (.inr e.1)]; omega
  split at h
  · rename_i e; rw [if_pos (.inr e.1)]; omega
  · cases h
theorem decF_len {fs w : List Int} {vs : List Val} (h : decF fs w = some vs) : kwSum fs ≤ w.length := by
  induction fs generalizing vs w with
  | nil => simp [kwSum]
  | cons f r ih =>
    unfold decF at h
    cases hv : valO f (w.take (kw f).toNat) with
    | none => rw [hv] at h; cases h
    | some x =>
      rw [hv] at h
      obtain ⟨y, hy, rfl⟩ := Option.map_eq_some_iff.1 h
      have h1 := ih hy
      have h2 := kw_val hv
      have h3 := kw_range f
      rw [List.length_take] at h2
      rw [List.length_drop] at h1
      unfold kwSum
      omega
/-- One field that is written over changes one value. -/
theorem decF_put {fs w : List Int} {vs : List Val} (h : decF fs w = some vs) {i : Nat} (hi : i < fs.length) {v : Val} (hv : v.Wf) {l : List Int} (hl : valW (fs.getD i 0) v = some l) :
    decF fs (putF w (kwSum (fs.take i)).toNat l) = some (vs.set i v.told) := by
  induction fs generalizing vs w i with
  | nil => simp at hi
  | cons f r ih =>
    have h0 := h
    unfold decF at h
    cases hx : valO f (w.take (kw f).toNat) with
    | none => rw [hx] at h; cases h
    | some x =>
      rw [hx] at h
      obtain ⟨y, hy, rfl⟩ := Option.map_eq_some_iff.1 h
      have h3 := kw_range f
      have h2 := kw_val hx
      rw [List.length_take] at h2
      cases i with
      | zero =>
        simp only [List.getD_cons_zero] at hl
        have hll := valW_length hl
        have e : (kw f).toNat = l.length := by omega
        have hp : putF w (kwSum ((f :: r).take 0)).toNat l = l ++ w.drop l.length := by simp [putF, kwSum]
        rw [hp]
        unfold decF
        rw [e, List.take_left, List.drop_left, valO_valW hv hl]
        simp only
        rw [← e, hy]
        rfl
      | succ i =>
        simp only [List.getD_cons_succ] at hl
        have hi' : i < r.length := by simpa using hi
        have hll := valW_length hl
        have hs := kwSum_range (r.take i)
        have e1 : (kwSum ((f :: r).take (i + 1))).toNat = (kw f).toNat + (kwSum (r.take i)).toNat := by
          simp only [List.take_succ_cons, kwSum]
          omega
        have e2 : putF w (kwSum ((f :: r).take (i + 1))).toNat l = w.take (kw f).toNat ++ putF (w.drop (kw f).toNat) (kwSum (r.take i)).toNat l := by
          rw [e1]
          unfold putF
          rw [List.take_add, List.drop_drop]
          simp [List.append_assoc, Nat.add_assoc]
        have e3 : (w.take (kw f).toNat).length = (kw f).toNat := by rw [List.length_take]; omega
        rw [e2]
        unfold decF
        rw [List.take_left' e3, List.drop_left' e3, hx]
        simp only
        rw [ih hy hi' hl]
        rfl
/-- An object one of whose fields is written over. -/
theorem objD_put {ks : List (List Int)} {w : List Int} {k : Int} {vs : List Val} {e : Nat} (h : objD ks w = some (k, vs, e)) {i : Int} {v : Val} (hv : v.Wf) {o : Int} {l : List Int} (hf : objF ks k i v = (o, l, 0)) :
    objD ks (putF w o.toNat l) = some (k, vs.set i.toNat v.told, e) ∧ 0 ≤ i ∧ i < vs.length ∧ 1 ≤ o ∧ o + l.length ≤ w.length := by
  unfold objF at hf
  cases hk : kindAt ks k with
  | none => rw [hk] at hf; simp at hf
  | some fs =>
    rw [hk] at hf
    simp only at hf
    split at hf
    · simp at hf
    rename_i hi
    cases hw : valW (fs.getD i.toNat 0) v with
    | none => rw [hw] at hf; simp at hf
    | some l' =>
      rw [hw] at hf
      simp only [Prod.mk.injEq, and_true] at hf
      obtain ⟨rfl, rfl⟩ := hf
      unfold objD at h
      cases w with
      | nil => cases h
      | cons x r =>
        simp only at h
        cases hh : hdrP x.toNat with
        | none => rw [hh] at h; cases h
        | some p =>
          obtain ⟨k', n, e'⟩ := p
          rw [hh] at h
          simp only at h
          cases hk' : kindAt ks k' with
          | none => rw [hk'] at h; cases h
          | some fs' =>
            rw [hk'] at h
            simp only at h
            split at h
            · cases h
            rename_i hn
            obtain ⟨y, hy, he⟩ := Option.map_eq_some_iff.1 h
            simp only [Prod.mk.injEq] at he
            obtain ⟨rfl, rfl, rfl⟩ := he
            rw [hk] at hk'
            simp only [Option.some.injEq] at hk'
            subst hk'
            have hil : i.toNat < fs.length := by omega
            have hs := kwSum_range (fs.take i.toNat)
            have hd := decF_put hy hil hv hw
            have e1 : (1 + kwSum (fs.take i.toNat)).toNat = 1 + (kwSum (fs.take i.toNat)).toNat := by omega
            have hyl := decF_length hy
            have hdl := decF_len hy
            have hsum : kwSum (fs.take i.toNat) + l'.length ≤ kwSum fs := by
              have h5 := valW_length hw
              have h6 := kwSum_append (fs.take i.toNat) (fs.drop i.toNat)
              rw [List.take_append_drop] at h6
              have h7 : fs.drop i.toNat = fs.getD i.toNat 0 :: fs.drop (i.toNat + 1) := by
                rw [List.drop_eq_getElem_cons hil, List.getD_eq_getElem?_getD, List.getElem?_eq_getElem hil]
                rfl
              rw [h7] at h6
              simp only [kwSum] at h6
              have h8 := kwSum_range (fs.drop (i.toNat + 1))
              omega
            have e2 : putF (x :: r) (1 + kwSum (fs.take i.toNat)).toNat l' = x :: putF r (kwSum (fs.take i.toNat)).toNat l' := by
              rw [e1]
              unfold putF
              rw [Nat.add_comm 1, List.take_succ_cons, show (kwSum (fs.take i.toNat)).toNat + 1 + l'.length = (kwSum (fs.take i.toNat)).toNat + l'.length + 1 by omega, List.drop_succ_cons]
              rfl
            refine ⟨?_, by omega, by omega, by omega, by simp only [List.length_cons]; omega⟩
            rw [e2]
            simp only [objD]
            rw [hh]
            simp only
            rw [hk]
            simp only
            have hpl : (putF r (kwSum (fs.take i.toNat)).toNat l').length = r.length := by
              unfold putF
              simp only [List.length_append, List.length_take, List.length_drop]
              omega
            rw [if_neg (by simp only [List.length_cons, hpl] at hn ⊢; exact hn), hd]
            rfl
end Scul
/- Heaps: what entries do to the words: plain. -/
namespace Scul
open Go Go.Sl Go.RowKit Redo Dev
namespace Hp
variable {c : Cfg} {s s' : List Int} {U U' : List Bool}
/-- A class's blocks' parts lie apart from the roots, the bits and the log. -/
theorem at_places (h : c.Ok) {b : Int} (hb : 0 ≤ b ∧ b < c.count) : c.blocksAt ≤ c.at_ b ∧ c.at_ b + c.size b ≤ c.words ∧ 2 ≤ c.size b ∧ c.size b ≤ 16 := Cfg.at_range h.toNear hb.1 hb.2
/-- Words that changed within the log. -/
theorem WInv.log (h : WInv c s U) (hl : s'.length = s.length) (hu : ∀ x ∈ s', U64 x) (hs : ∀ i : Nat, (i : Int) < c.logAt ∨ c.blocksAt ≤ i → s'[i]? = s[i]?) : WInv c s' U := by
  have hp := places h.ok
  have n1 := h.ok.toNear.roots; have n2 := h.ok.toNear.weaks; have n4 := h.ok.some
  refine h.step hl hu (fun i hi => hs i (by omega)) ?_ (fun b hb => hb) ?_ (fun i hi => .inl (hs _ (by omega))) (fun i hi => .inl (hs _ (by omega)))
  · rw [usedW_congr h.ok fun i h1 h2 => hs i (by omega)]; exact h.used
  · intro b hb
    have hb' := h.bit hb
    have := at_places h.ok hb'
    exact .inr ⟨hb, blockW_congr h.ok hb' fun i h1 h2 => hs i (by omega)⟩
theorem bitsOf_mul (h : c.Ok) {j : Int} (h0 : 0 ≤ j) (h1 : j < (c.count + 63) / 64) : c.bitsOf (j * 64) = c.bitsAt + j := by
  have h2 : ¬ c.cls (j * 64) < 0 := by
    have h3 := Cfg.cls_range c (j * 64)
    have h4 := Cfg.cls_neg h.toNear (j * 64)
    intro h5
    have : c.cls (j * 64) = -1 := by omega
    rw [h4] at this
    omega
  unfold Cfg.bitsOf
  rw [if_neg h2]
  omega
theorem turn_mem {V : List Bool} {ws : List Int} {p : Int × Int} (hp : p ∈ Redo.ents (turnE c V ws)) : ∃ j ∈ ws, p = (c.bitsOf (j * 64), wordB V j) := by
  unfold Redo.ents turnE at hp
  rw [List.map_map] at hp
  obtain ⟨j, hj, rfl⟩ := List.mem_map.1 hp
  exact ⟨j, hj, rfl⟩
/-- The bits behind a turn. -/
theorem turn_used (h : c.Ok) (hl : (s.length : Int) = c.words) (hU : usedW c s = U) {bl : List Int} (hbl : ∀ b ∈ bl, 0 ≤ b ∧ b < c.count) (x : Bool) :
    usedW c (sets s (Redo.ents (turnE c (setAll U bl x) (wordsOf bl)))) = setAll U bl x := by
  have hp := places h
  have n4 := h.some
  have n3 := h.toNear.log
  have hul : U.length = c.count.toNat := by rw [← hU]; simp [usedW, unpackW]
  obtain ⟨V, hV⟩ : ∃ V, V = setAll U bl x := ⟨_, rfl⟩
  rw [← hV]
  have hvl : V.length = c.count.toNat := by rw [hV, setAll_length, hul]
  have hws : ∀ j ∈ wordsOf bl, 0 ≤ j ∧ j < (c.count + 63) / 64 := fun j hj => by
    obtain ⟨b, hb, rfl⟩ := (mem_wordsOf bl j).1 hj
    have := hbl b hb
    omega
  refine List.ext_getElem (by rw [hvl]; simp [usedW, unpackW]) fun i hi hi2 => ?_
  have hgd : ∀ (l : List Bool) (hl : i < l.length), l[i] = l.getD i false := fun l hl => by rw [List.getD_eq_getElem?_getD, List.getElem?_eq_getElem hl]; rfl
  rw [hgd _ hi, hgd _ hi2]
  have hic : i < c.count.toNat := by rw [hvl] at hi2; exact hi2
  have hiw : i / 64 < (c.count.toNat + 63) / 64 := by omega
  unfold usedW
  rw [unpackW_getD, decide_eq_true hic, Bool.true_and]
  have hwd : ((List.drop c.bitsAt.toNat (sets s (Redo.ents (turnE c V (wordsOf bl))))).take ((c.count.toNat + 63) / 64)).getD (i / 64) 0 = (sets s (Redo.ents (turnE c V (wordsOf bl)))).getD (c.bitsAt.toNat + i / 64) 0 := by
    rw [List.getD_eq_getElem?_getD, part_get hiw, ← List.getD_eq_getElem?_getD]
  rw [hwd]
  by_cases hj : ((i / 64 : Nat) : Int) ∈ wordsOf bl
  · have hin : ∃ p ∈ Redo.ents (turnE c V (wordsOf bl)), p.1.toNat = c.bitsAt.toNat + i / 64 := by
      refine ⟨(c.bitsOf (((i / 64 : Nat) : Int) * 64), wordB V ((i / 64 : Nat) : Int)), ?_, ?_⟩
      · unfold Redo.ents turnE
        rw [List.map_map]
        exact List.mem_map.2 ⟨_, hj, rfl⟩
      · show (c.bitsOf (((i / 64 : Nat) : Int) * 64)).toNat = _
        rw [bitsOf_mul h (by omega) (by omega)]
        omega
    have hval : (sets s (Redo.ents (turnE c V (wordsOf bl)))).getD (c.bitsAt.toNat + i / 64) 0 = wordB V ((i / 64 : Nat) : Int) := by
      rw [List.getD_eq_getElem?_getD]
      rcases sets_get s (Redo.ents (turnE c V (wordsOf bl))) (c.bitsAt.toNat + i / 64) with h1 | ⟨p, hp1, hp2, h1⟩
      · -- it is in an entry: read it off the entries of a list of another content
        have h3 := sets_in s (Redo.ents (turnE c V (wordsOf bl))) (c.bitsAt.toNat + i / 64) (by omega) hin (List.replicate s.length (wordB V ((i / 64 : Nat) : Int))) (by simp)
        rcases sets_get (List.replicate s.length (wordB V ((i / 64 : Nat) : Int))) (Redo.ents (turnE c V (wordsOf bl))) (c.bitsAt.toNat + i / 64) with h4 | ⟨p, hp1, hp2, h4⟩
        · rw [h3, h4, List.getElem?_replicate, if_pos (by omega)]
          rfl
        · rw [h3, h4]
          obtain ⟨j, hj1, rfl⟩ := turn_mem hp1
          have hj2 := hws j hj1
          simp only at hp2
          rw [bitsOf_mul h hj2.1 hj2.2] at hp2
          have : j = ((i / 64 : Nat) : Int) := by omega
          rw [this]
          rfl
      · rw [h1]
        obtain ⟨j, hj1, rfl⟩ := turn_mem hp1
        have hj2 := hws j hj1
        simp only at hp2
        rw [bitsOf_mul h hj2.1 hj2.2] at hp2
        have : j = ((i / 64 : Nat) : Int) := by omega
        rw [this]
        rfl
    rw [hval, wordB_at V (i / 64) (by rw [hvl]; exact hiw), Int.toNat_natCast, wordAt_bit, decide_eq_true (show i % 64 < 64 by omega), Bool.true_and]
    congr 1
    omega
  · have hne : (sets s (Redo.ents (turnE c V (wordsOf bl))))[c.bitsAt.toNat + i / 64]? = s[c.bitsAt.toNat + i / 64]? := by
      refine sets_ne _ _ _ fun p hp1 hp2 => ?_
      obtain ⟨j, hj1, rfl⟩ := turn_mem hp1
      have hj2 := hws j hj1
      simp only at hp2
      rw [bitsOf_mul h hj2.1 hj2.2] at hp2
      have : j = ((i / 64 : Nat) : Int) := by omega
      exact hj (this ▸ hj1)
    rw [getD_of hne]
    have hv1 : V.getD i false = U.getD i false := by
      have := getB_setAll U bl x (i : Int)
      rw [← hV, getB_nat, getB_nat, if_neg] at this
      · exact this
      · rintro ⟨h1, _⟩
        exact hj ((mem_wordsOf bl _).2 ⟨_, h1, by omega⟩)
    rw [hv1, ← hU]
    unfold usedW
    rw [unpackW_getD, decide_eq_true hic, Bool.true_and]
    have hwd2 : ((List.drop c.bitsAt.toNat s).take ((c.count.toNat + 63) / 64)).getD (i / 64) 0 = s.getD (c.bitsAt.toNat + i / 64) 0 := by
      rw [List.getD_eq_getElem?_getD, part_get hiw, ← List.getD_eq_getElem?_getD]
    rw [hwd2]
/-- What a turn leaves alone. -/
theorem turn_ne (h : c.Ok) {V : List Bool} {bl : List Int} (hbl : ∀ b ∈ bl, 0 ≤ b ∧ b < c.count) {i : Nat} (hi : (i : Int) < c.bitsAt ∨ c.bitsAt + (c.count + 63) / 64 ≤ i) : (sets s (Redo.ents (turnE c V (wordsOf bl))))[i]? = s[i]? := by
  have hp := places h
  refine sets_ne _ _ _ fun p hp1 hp2 => ?_
  obtain ⟨j, hj1, rfl⟩ := turn_mem hp1
  obtain ⟨b, hb, hj⟩ := (mem_wordsOf bl j).1 hj1
  have hb' := hbl b hb
  simp only at hp2
  rw [bitsOf_mul h (by omega) (by omega)] at hp2
  omega
theorem sets_u64 (hs : ∀ x ∈ s, U64 x) {S : List (Int × Int)} (hS : ∀ p ∈ S, U64 p.2) : ∀ x ∈ sets s S, U64 x := by
  induction S generalizing s with
  | nil => exact hs
  | cons p S ih =>
    rw [sets_cons]
    refine ih (fun x hx => ?_) fun q hq => hS q (List.mem_cons_of_mem _ hq)
    rcases List.mem_or_eq_of_mem_set hx with hx | rfl
    · exact hs x hx
    · exact hS p (by simp)
theorem wordB_u64 (V : List Bool) (i : Int) : U64 (wordB V i) := by
  unfold wordB
  split
  · have := wordAt_lt V i.toNat
    unfold U64
    omega
  · exact ⟨by decide, by decide⟩
/-- A turn of blocks that were laid makes them used. -/
theorem WInv.turn (h : WInv c s U) {bl : List Int} (hbl : ∀ b ∈ bl, 0 ≤ b ∧ b < c.count) (hg : ∀ b ∈ bl, Good c s (setAll U bl true) b) :
    WInv c (sets s (Redo.ents (turnE c (setAll U bl true) (wordsOf bl)))) (setAll U bl true) := by
  have hp := places h.ok
  have n1 := h.ok.toNear.roots; have n2 := h.ok.toNear.weaks; have n3 := h.ok.toNear.log; have n4 := h.ok.some
  have hmono : ∀ b, getB U b = true → getB (setAll U bl true) b = true := fun b hb => by
    rw [getB_setAll]; split
    · rfl
    · exact hb
  refine h.step (sets_len _ _) (sets_u64 h.u64 ?_) (fun i hi => turn_ne h.ok hbl (by omega)) (turn_used h.ok h.len h.used hbl true) hmono ?_ (fun i hi => .inl (turn_ne h.ok hbl (by omega))) (fun i hi => .inl (turn_ne h.ok hbl (by omega)))
  · intro p hp
    obtain ⟨j, _, rfl⟩ := turn_mem hp
    exact wordB_u64 _ _
  · intro b hb
    have hb0 : 0 ≤ b ∧ b < c.count := by
      have := getB_in hb
      rw [setAll_length, h.ulen] at this
      omega
    have hsame : blockW c (sets s (Redo.ents (turnE c (setAll U bl true) (wordsOf bl)))) b = blockW c s b := by
      have := at_places h.ok hb0
      exact blockW_congr h.ok hb0 fun i h1 h2 => turn_ne h.ok hbl (by omega)
    rw [getB_setAll] at hb
    by_cases hm : b ∈ bl ∧ 0 ≤ b ∧ b < U.length
    · obtain ⟨k, vs, e, h1, h2⟩ := hg b hm.1
      exact .inl ⟨k, vs, e, by rw [hsame]; exact h1, h2⟩
    · rw [if_neg hm] at hb
      exact .inr ⟨hb, hsame⟩
/-- One word of the roots is written. -/
theorem WInv.root (h : WInv c s U) {a : Int} (h0 : c.rootsAt ≤ a) (h1 : a < c.rootsAt + c.roots + c.weaks) {x : Int} (hx : RootWord (isU U) c.count x) : WInv c (s.set a.toNat x) U := by
  have hp := places h.ok
  have n1 := h.ok.toNear.roots; have n2 := h.ok.toNear.weaks; have n3 := h.ok.toNear.log; have n4 := h.ok.some
  have hc : c.count ≤ 2048 := (Cfg.near_places h.ok.toNear).2.2.2.2.2.2.2.2.2.2.1
  have hxu : U64 x := by rcases hx with hx | ⟨hx1, hx2, _⟩ <;> unfold U64 <;> omega
  have hne : ∀ i : Nat, i ≠ a.toNat → (s.set a.toNat x)[i]? = s[i]? := fun i hi => List.getElem?_set_ne (Ne.symm hi)
  have hat : a.toNat < s.length := by have := h.len; omega
  refine h.step (List.length_set ..) (fun y hy => ?_) (fun i hi => hne i (by omega)) ?_ (fun b hb => hb) ?_ ?_ ?_
  · rcases List.mem_or_eq_of_mem_set hy with hy | rfl
    · exact h.u64 y hy
    · exact hxu
  · rw [usedW_congr h.ok fun i h2 h3 => hne i (by omega)]; exact h.used
  · intro b hb
    have hb' := h.bit hb
    have := at_places h.ok hb'
    exact .inr ⟨hb, blockW_congr h.ok hb' fun i h2 h3 => hne i (by omega)⟩
  · intro i hi
    by_cases e : c.rootsAt.toNat + i = a.toNat
    · right
      rw [e, List.getD_eq_getElem?_getD, List.getElem?_set_self hat]
      exact hx
    · exact .inl (hne _ e)
  · intro i hi
    by_cases e : (c.rootsAt + c.roots).toNat + i = a.toNat
    · right
      rw [e, List.getD_eq_getElem?_getD, List.getElem?_set_self hat]
      exact hx
    · exact .inl (hne _ e)
theorem entsAt_mem {a : Int} {l : List Int} {x : Ent} (hx : x ∈ entsAt a l) : a ≤ x.at_ ∧ x.at_ < a + l.length ∧ x.word ∈ l := by
  induction l generalizing a with
  | nil => cases hx
  | cons y r ih =>
    rcases List.mem_cons.1 hx with rfl | hx
    · exact ⟨Int.le_refl _, by simp only [List.length_cons]; omega, by simp⟩
    · obtain ⟨h1, h2, h3⟩ := ih hx
      exact ⟨by omega, by simp only [List.length_cons]; omega, List.mem_cons_of_mem _ h3⟩
/-- Entries of words from a place on. -/
theorem sets_entsAt {a : Nat} {l : List Int} (h : a + l.length ≤ s.length) : sets s (Redo.ents (entsAt (a : Int) l)) = s.take a ++ l ++ s.drop (a + l.length) := by
  induction l generalizing s a with
  | nil => simp [entsAt, Redo.ents, sets_nil]
  | cons x r ih =>
    simp only [List.length_cons] at h
    have e : ((a : Int) + 1) = ((a + 1 : Nat) : Int) := by omega
    have e2 : Redo.ents (entsAt (a : Int) (x :: r)) = ((a : Int), x) :: Redo.ents (entsAt ((a + 1 : Nat) : Int) r) := by
      show ((a : Int), x) :: Redo.ents (entsAt ((a : Int) + 1) r) = _
      rw [e]
    rw [e2, sets_cons, Int.toNat_natCast, ih (by rw [List.length_set]; omega)]
    have h1 : (s.set a x).take (a + 1) = s.take a ++ [x] := by
      rw [List.take_succ_eq_append_getElem (by rw [List.length_set]; omega), List.getElem_set_self, List.take_set_of_le (by omega)]
    have h2 : (s.set a x).drop (a + 1 + r.length) = s.drop (a + (x :: r).length) := by
      rw [List.drop_set_of_lt (by omega)]
      congr 1
      simp only [List.length_cons]
      omega
    rw [h1, h2]
    simp
/-- Words within a block are written over. -/
theorem block_put (h : c.Ok) (hl : (s.length : Int) = c.words) {b : Int} (hb : 0 ≤ b ∧ b < c.count) {o : Nat} {l : List Int} (ho : (o : Int) + l.length ≤ c.size b) :
    blockW c (sets s (Redo.ents (entsAt (c.at_ b + o) l))) b = putF (blockW c s b) o l ∧ ∀ i : Nat, (i : Int) < c.at_ b ∨ c.at_ b + c.size b ≤ i → (sets s (Redo.ents (entsAt (c.at_ b + o) l)))[i]? = s[i]? := by
  obtain ⟨h1, h2, h3, h4⟩ := at_places h hb
  have hp := places h
  have n3 := h.toNear.log
  constructor
  · have e : c.at_ b + (o : Int) = (((c.at_ b).toNat + o : Nat) : Int) := by omega
    rw [e, sets_entsAt (by omega)]
    unfold blockW putF
    generalize ha : (c.at_ b).toNat = a
    generalize hz : (c.size b).toNat = z
    have hoz : o + l.length ≤ z := by omega
    have haz : a + z ≤ s.length := by omega
    refine List.ext_getElem? fun i => ?_
    by_cases hi : i < z
    · rw [part_get hi]
      have hlt : (s.take (a + o)).length = a + o := by rw [List.length_take]; omega
      have hlt2 : (((s.drop a).take z).take o).length = o := by rw [List.length_take, part_length haz]; omega
      by_cases e1 : i < o
      · rw [List.append_assoc, List.append_assoc, List.getElem?_append_left (by omega), List.getElem?_append_left (by omega), List.getElem?_take_of_lt (by omega), List.getElem?_take_of_lt e1, part_get hi]
      · by_cases e2 : i < o + l.length
        · have e3 : (s.take (a + o) ++ l ++ s.drop (a + o + l.length))[a + i]? = l[i - o]? := by
            rw [List.append_assoc, List.getElem?_append_right (by omega), hlt, List.getElem?_append_left (by omega)]
            congr 1
            omega
          have e4 : (((s.drop a).take z).take o ++ l ++ ((s.drop a).take z).drop (o + l.length))[i]? = l[i - o]? := by
            rw [List.append_assoc, List.getElem?_append_right (by omega), hlt2, List.getElem?_append_left (by omega)]
          rw [e3, e4]
        · have e3 : (s.take (a + o) ++ l ++ s.drop (a + o + l.length))[a + i]? = s[a + i]? := by
            rw [List.getElem?_append_right (by rw [List.length_append]; omega), List.length_append, hlt, List.getElem?_drop]
            congr 1
            omega
          have e4 : (((s.drop a).take z).take o ++ l ++ ((s.drop a).take z).drop (o + l.length))[i]? = s[a + i]? := by
            rw [List.getElem?_append_right (by rw [List.length_append]; omega), List.length_append, hlt2, List.getElem?_drop, part_get (by omega)]
            congr 1
            omega
          rw [e3, e4]
    · have hlen : (s.take (a + o) ++ l ++ s.drop (a + o + l.length)).length = s.length := by
        simp only [List.length_append, List.length_take, List.length_drop]
        omega
      rw [List.getElem?_eq_none (by rw [part_length (by omega)]; omega), List.getElem?_eq_none]
      simp only [List.length_append, List.length_take, List.length_drop]
      omega
  · intro i hi
    refine sets_ne _ _ _ fun p hp1 hp2 => ?_
    obtain ⟨x, hx, rfl⟩ := List.mem_map.1 hp1
    have := entsAt_mem hx
    simp only at hp2
    omega
/-- Blocks lie apart. -/
theorem block_other (h : c.Ok) {a b : Int} (ha : 0 ≤ a ∧ a < c.count) (hb : 0 ≤ b ∧ b < c.count) (hab : a ≠ b) (hs : ∀ i : Nat, (i : Int) < c.at_ b ∨ c.at_ b + c.size b ≤ i → s'[i]? = s[i]?) : blockW c s' a = blockW c s a := by
  refine blockW_congr h ha fun i h1 h2 => hs i ?_
  rcases Int.lt_or_gt_of_ne hab with h3 | h3
  · have := Cfg.at_apart h.toNear ha.1 h3 hb.2; omega
  · have := Cfg.at_apart h.toNear hb.1 h3 ha.2; omega
/-- One field of a used object is written. -/
theorem WInv.field (h : WInv c s U) {b : Int} (hb : getB U b = true) {k : Int} {vs : List Val} {e : Nat} (ho : objD c.kinds (blockW c s b) = some (k, vs, e)) {f : Int} {v : Val} (hv : v.Wf) {o : Int} {l : List Int} (hf : objF c.kinds k f v = (o, l, 0)) (hr : v.kind = 3 → getB U v.ref = true) :
    WInv c (sets s (Redo.ents (entsAt (c.at_ b + o) l))) U ∧ objD c.kinds (blockW c (sets s (Redo.ents (entsAt (c.at_ b + o) l))) b) = some (k, vs.set f.toNat v.told, e) ∧ ∀ i : Nat, (i : Int) < c.at_ b ∨ c.at_ b + c.size b ≤ i → (sets s (Redo.ents (entsAt (c.at_ b + o) l)))[i]? = s[i]? := by
  have hb' := h.bit hb
  obtain ⟨h1, h2, h3, h4⟩ := at_places h.ok hb'
  have hp := places h.ok
  have n1 := h.ok.toNear.roots; have n2 := h.ok.toNear.weaks; have n3 := h.ok.toNear.log; have n4 := h.ok.some
  obtain ⟨g1, g2, g3, g4, g5⟩ := objD_put ho hv hf
  have hbl := blockW_length h.ok h.len hb'
  have eo : o = ((o.toNat : Nat) : Int) := by omega
  obtain ⟨p1, p2⟩ := block_put (s := s) h.ok h.len hb' (o := o.toNat) (l := l) (by omega)
  rw [← eo] at p1 p2
  have hD : objD c.kinds (blockW c (sets s (Redo.ents (entsAt (c.at_ b + o) l))) b) = some (k, vs.set f.toNat v.told, e) := by rw [p1]; exact g1
  refine ⟨h.step (sets_len _ _) (sets_u64 h.u64 ?_) (fun i hi => p2 i (by omega)) ?_ (fun b hb => hb) ?_ (fun i hi => .inl (p2 _ (by omega))) (fun i hi => .inl (p2 _ (by omega))), hD, p2⟩
  · intro p hp1
    obtain ⟨x, hx, rfl⟩ := List.mem_map.1 hp1
    have hxl := (entsAt_mem hx).2.2
    unfold objF at hf
    split at hf
    · cases hf
    split at hf
    · cases hf
    split at hf
    · cases hf
    · rename_i hw
      simp only [Prod.mk.injEq, and_true] at hf
      obtain ⟨_, rfl⟩ := hf
      exact valW_u64 hv hw _ hxl
  · rw [usedW_congr h.ok fun i h5 h6 => p2 i (by omega)]; exact h.used
  · intro a ha
    by_cases e1 : a = b
    · subst e1
      left
      refine ⟨k, _, e, hD, fun y hy hy3 => ?_⟩
      rcases List.mem_or_eq_of_mem_set hy with hy | rfl
      · obtain ⟨k', vs', e', q1, q2⟩ := h.clos a ha
        rw [ho] at q1
        simp only [Option.some.injEq, Prod.mk.injEq] at q1
        obtain ⟨_, rfl, _⟩ := q1
        exact q2 y hy hy3
      · unfold Val.told at hy3 ⊢
        by_cases k1 : v.kind = 1
        · rw [if_pos k1] at hy3; cases hy3
        rw [if_neg k1] at hy3 ⊢
        by_cases k2 : v.kind = 2
        · rw [if_pos k2] at hy3; cases hy3
        rw [if_neg k2] at hy3 ⊢
        by_cases k3 : v.kind = 3
        · rw [if_pos k3]; exact hr k3
        · rw [if_neg k3] at hy3; cases hy3
    · exact .inr ⟨ha, block_other h.ok (h.bit ha) hb' e1 p2⟩
end Hp
end Scul
/- Heaps: laying, committing while the power is there: plain. -/
namespace Scul
open Go Go.Sl Go.RowKit
namespace Dev
/-- With the power there and no fuse set, calls to words that are there are all done. -/
theorem run_upE {d : Dev} (h : d.Up) (ops : List DOp) (hv : ∀ o ∈ ops, validOp d.read.length o) : (d.run ops).2 = 0 ∧ (d.run ops).1.Up := by
  induction ops generalizing d with
  | nil => exact ⟨rfl, h⟩
  | cons o r ih =>
    have ho := hv o List.mem_cons_self
    have he : d.opE o = 0 ∧ (d.opD o).Up := by
      cases o with
      | st a x => exact ⟨by show d.storeE a = 0; rw [store_upE h, isB_of ho]; rfl, up_store h a x⟩
      | fl a => exact ⟨by show d.flushE a = 0; rw [flush_upE h, isB_of ho]; rfl, up_flush h a⟩
      | fe => exact ⟨fence_upE h, up_fence h⟩
    rw [run_cons, if_pos he.1]
    exact ih he.2 fun o' ho' => by rw [op_len]; exact hv o' (List.mem_cons_of_mem _ ho')
end Dev
namespace Redo
open Dev
theorem writeOps_validF {f T n : Nat} {l : List Ent} (h : FitF f T n l) : ∀ o ∈ writeOps f l, validOp n o := by
  intro o ho
  have hlog := h.log
  have htop := h.top
  have e : writeOps f l = segOps (entSets ((f + 8 : Nat) : Int) l) (flA (f + 8) (f + 8 + 2 * l.length)) ++ (segOps [((f : Int), (l.length : Int))] [(f : Int)] ++ (segOps (ents l) (onceA [] l) ++ segOps [((f : Int), 0)] [(f : Int)])) := by
    unfold writeOps
    rw [putOpsF, doOpsF]
    rfl
  rw [e] at ho
  have seg : ∀ (S : List (Int × Int)) (A : List Int), (∀ p ∈ S, 0 ≤ p.1 ∧ p.1 < (n : Int)) → (∀ a ∈ A, 0 ≤ a ∧ a < (n : Int)) → o ∈ segOps S A → validOp n o := by
    intro S A hS hA ho
    unfold segOps at ho
    rcases List.mem_append.1 ho with ho | ho
    · obtain ⟨p, hp, rfl⟩ := List.mem_map.1 ho
      exact hS p hp
    · rcases List.mem_append.1 ho with ho | ho
      · obtain ⟨p, hp, rfl⟩ := List.mem_map.1 ho
        exact hA p hp
      · rw [List.mem_singleton] at ho; subst ho; trivial
  rcases List.mem_append.1 ho with ho | ho
  · refine seg _ _ (fun p hp => ?_) (fun a ha => ?_) ho
    · have := entSets_mem _ _ _ hp; omega
    · have := flA_mem ha; omega
  · rcases List.mem_append.1 ho with ho | ho
    · exact seg _ _ (by simp; omega) (by simp; omega) ho
    · rcases List.mem_append.1 ho with ho | ho
      · refine seg _ _ (fun p hp => ?_) (fun a ha => ?_) ho
        · obtain ⟨x, hx, rfl⟩ := List.mem_map.1 hp
          have := h.at_ x hx
          simp only; omega
        · obtain ⟨x, hx, rfl⟩ := onceA_mem ha
          have := h.at_ x hx
          omega
      · exact seg _ _ (by simp; omega) (by simp; omega) ho
theorem write_upF {f T n : Nat} {l : List Ent} (h : FitF f T n l) (d : Dev) (hu : d.Up) (hc : Clean d) (hn : d.read.length = n) (hT : T ≤ 10000) (hm : d.read.getD f 0 = 0) (hl0 : l ≠ []) (hll : l.length ≤ 1024) :
    (write d f T l).2 = 0 ∧ (write d f T l).1.Up ∧ Clean (write d f T l).1 ∧ (write d f T l).1.read = pf4 f (pf2 f d.read l) l := by
  obtain ⟨h1, h2⟩ := run_upE hu (writeOps f l) (by rw [hn]; exact writeOps_validF h)
  have hw := writeF h d hu.1 hn hT hm hl0 hll
  rw [← hw] at h1 h2
  obtain ⟨_, h4, h5⟩ := writeF_up h d hu hc hn hT hm hl0 hll (by rw [h1]; decide)
  exact ⟨h1, h2, h4, h5⟩
end Redo
namespace Hp
open Redo Dev
variable {c : Cfg} {d : Dev} {U R : List Bool}
/-- A device that is a heap's. -/
structure HInv (c : Cfg) (d : Dev) (U : List Bool) : Prop where
  w : WInv c d.read U
  up : d.Up
  mark : d.read.getD c.logAt.toNat 0 = 0
  st : Settled d
  dok : d.Ok
theorem firstE_zero {f : Wr → Int} {l : List Wr} : firstE f l = 0 ↔ ∀ w ∈ l, f w = 0 := by
  induction l with
  | nil => simp [firstE]
  | cons w r ih =>
    unfold firstE
    by_cases h : f w = 0
    · rw [if_neg (by simpa using h), ih]
      simp [h]
    · rw [if_pos h]
      exact ⟨fun h' => absurd h' h, fun h' => absurd (h' w (by simp)) h⟩
theorem obj_ok (hd : d.down = false) (hw : WInv c d.read U) {b : Int} (hb : getB U b = true) : ∃ k vs e, objD c.kinds (blockW c d.read b) = some (k, vs, e) ∧ obj c U d b = (k, vs, 0) ∧ (∀ v ∈ vs, v.kind = 3 → getB U v.ref = true) := by
  obtain ⟨k, vs, e, h1, h2⟩ := hw.clos b hb
  refine ⟨k, vs, e, h1, ?_, h2⟩
  unfold obj
  rw [hb, hd, h1]
  rfl
/-- What a write needs. -/
structure WrOk (c : Cfg) (U : List Bool) (d : Dev) (w : Wr) : Prop where
  wf : w.val.Wf
  fld : I64 w.field
  obj : w.kind = 1 → getB U w.obj = true
  kind : w.kind = 1 ∨ w.kind = 2 ∨ w.kind = 3
  root : w.kind ≠ 1 → 0 ≤ rootAt c w
  typ : w.kind ≠ 1 → w.val.kind = 0 ∨ w.val.kind = 3
  field : (fieldW c U d w).2.2 = 0
/-- What Fits lets through. -/
theorem fits_ok {bl : List Int} {ws : List Wr} (hf : fits c U R d bl ws = 0) (hwf : ∀ w ∈ ws, w.val.Wf ∧ I64 w.field) :
    mayB R [] bl = true ∧ (∀ w ∈ ws, WrOk c U d w ∧ (w.val.kind = 3 → getB U w.val.ref = true ∨ w.val.ref ∈ bl)) ∧ countN c U d bl ws ≤ 1024 ∧ Redo.need (countN c U d bl ws) ≤ c.log := by
  unfold fits at hf
  split at hf
  · cases hf
  rename_i h1
  split at hf
  · rename_i h; exact absurd hf h
  rename_i h2
  split at hf
  · rename_i h; exact absurd hf h
  rename_i h3
  split at hf
  · rename_i h; exact absurd hf h
  rename_i h4
  split at hf
  · rename_i h; exact absurd hf h
  rename_i h5
  split at hf
  · rename_i h; exact absurd hf h
  rename_i h6
  split at hf
  · rename_i h; exact absurd hf h
  rename_i h7
  split at hf
  · cases hf
  rename_i h8
  simp only [Classical.not_not] at h2 h3 h4 h5 h6 h7
  rw [firstE_zero] at h2 h3 h4 h5 h6 h7
  refine ⟨by simpa using h1, fun w hw => ⟨⟨(hwf w hw).1, (hwf w hw).2, fun hk => ?_, ?_, fun hk => ?_, fun hk => ?_, h7 w hw⟩, fun h3' => ?_⟩, by omega, by omega⟩
  · have := h2 w hw
    unfold placeE at this
    rw [if_pos hk] at this
    split at this
    · assumption
    · cases this
  · have := h2 w hw
    unfold placeE at this
    by_cases hk : w.kind = 1
    · exact .inl hk
    · rw [if_neg hk] at this
      split at this
      · rename_i h; exact .inr h
      · cases this
  · have := h3 w hw
    unfold indexE at this
    split at this
    · cases this
    · rename_i h; omega
  · have := h5 w hw
    unfold typedE at this
    split at this
    · cases this
    · rename_i h; omega
  · have := h4 w hw
    unfold refersE at this
    split at this
    · cases this
    · rename_i h
      by_cases hu : getB U w.val.ref = true ∨ w.val.ref ∈ bl
      · exact hu
      · exact absurd ⟨h3', hu⟩ h
theorem rootAt_in (h : c.Ok) {w : Wr} (h0 : 0 ≤ rootAt c w) : c.rootsAt ≤ rootAt c w ∧ rootAt c w < c.rootsAt + c.roots + c.weaks := by
  have n1 := h.toNear.roots; have n2 := h.toNear.weaks
  unfold rootAt Cfg.rootOf Cfg.weakOf at *
  split
  · rename_i e
    rw [if_pos e] at h0
    split
    · rename_i e2; rw [if_pos e2] at h0; omega
    · omega
  · rename_i e
    rw [if_neg e] at h0
    split
    · rename_i e2; rw [if_pos e2] at h0; omega
    · omega
/-- Where a write's words go. -/
theorem field_in (hd : d.down = false) (hw : WInv c d.read U) {w : Wr} (hk : WrOk c U d w) :
    ∀ x ∈ entsAt (fieldW c U d w).1 (fieldW c U d w).2.1, 0 ≤ x.at_ ∧ x.at_ < c.words ∧ (x.at_ < c.logAt ∨ c.blocksAt ≤ x.at_) := by
  intro x hx
  have hp := places hw.ok
  have n3 := hw.ok.toNear.log; have n4 := hw.ok.some
  by_cases h1 : w.kind = 1
  · obtain ⟨k, vs, e, ho, hob, _⟩ := obj_ok hd hw (hk.obj h1)
    have hb := hw.bit (hk.obj h1)
    obtain ⟨g1, g2, g3, g4⟩ := at_places hw.ok hb
    have hf := hk.field
    unfold fieldW at hx hf
    rw [if_neg (by simpa using h1), hob] at hx hf
    simp only [ne_eq, not_true_eq_false, if_false] at hx hf
    have hfo : objF c.kinds k w.field w.val = ((objF c.kinds k w.field w.val).1, (objF c.kinds k w.field w.val).2.1, 0) := by rw [← hf]
    obtain ⟨_, q2, q3, q4, q5⟩ := objD_put ho hk.wf hfo
    rw [blockW_length hw.ok hw.len hb] at q5
    have := entsAt_mem hx
    omega
  · have h0 := hk.root h1
    have hr := rootAt_in hw.ok h0
    unfold fieldW at hx
    rw [if_pos h1] at hx
    have := entsAt_mem hx
    simp only at this
    have hlen : (if w.val.kind = 3 then [(w.val.ref % 18446744073709551616 + 1) % 18446744073709551616] else [(0 : Int)]).length = 1 := by split <;> rfl
    omega
/-- A write keeps a heap's words one. -/
theorem WInv.wr {V : List Bool} (hd : d.down = false) (hw : WInv c d.read U) (hUV : ∀ b, getB U b = true → getB V b = true) {s : List Int} (hs : WInv c s V) (hsame : ∀ b, getB U b = true → ∃ k vs vs' e, objD c.kinds (blockW c d.read b) = some (k, vs, e) ∧ objD c.kinds (blockW c s b) = some (k, vs', e) ∧ vs'.length = vs.length)
    {w : Wr} (hk : WrOk c U d w) (hr : w.val.kind = 3 → getB V w.val.ref = true) :
    WInv c (sets s (Redo.ents (entsAt (fieldW c U d w).1 (fieldW c U d w).2.1))) V ∧ ∀ b, getB U b = true → ∃ k vs vs' e, objD c.kinds (blockW c d.read b) = some (k, vs, e) ∧ objD c.kinds (blockW c (sets s (Redo.ents (entsAt (fieldW c U d w).1 (fieldW c U d w).2.1))) b) = some (k, vs', e) ∧ vs'.length = vs.length := by
  have hp := places hw.ok
  have n1 := hw.ok.toNear.roots; have n2 := hw.ok.toNear.weaks; have n3 := hw.ok.toNear.log; have n4 := hw.ok.some
  by_cases h1 : w.kind = 1
  · have hb1 := hk.obj h1
    obtain ⟨k, vs, e, ho, hob, _⟩ := obj_ok hd hw hb1
    have hb := hw.bit hb1
    have hf := hk.field
    unfold fieldW at hf ⊢
    rw [if_neg (by simpa using h1), hob] at hf ⊢
    simp only [ne_eq, not_true_eq_false, if_false] at hf ⊢
    have hfo : objF c.kinds k w.field w.val = ((objF c.kinds k w.field w.val).1, (objF c.kinds k w.field w.val).2.1, 0) := by rw [← hf]
    obtain ⟨k', vs1, vs2, e', q1, q2, q3⟩ := hsame w.obj hb1
    rw [ho] at q1
    simp only [Option.some.injEq, Prod.mk.injEq] at q1
    obtain ⟨rfl, rfl, rfl⟩ := q1
    obtain ⟨r1, r2, r3⟩ := hs.field (hUV _ hb1) q2 hk.wf hfo hr
    refine ⟨r1, fun b hb2 => ?_⟩
    obtain ⟨k', vs1, vs3, e', q4, q5, q6⟩ := hsame b hb2
    by_cases eb : b = w.obj
    · subst eb
      exact ⟨k, vs, _, e, ho, r2, by rw [List.length_set, q3]⟩
    · exact ⟨k', vs1, vs3, e', q4, by rw [block_other hw.ok (hw.bit hb2) hb eb r3]; exact q5, q6⟩
  · have h0 := hk.root h1
    have hin := rootAt_in hw.ok h0
    unfold fieldW
    rw [if_pos h1]
    have hrw : RootWord (isU V) c.count (if w.val.kind = 3 then (w.val.ref % 18446744073709551616 + 1) % 18446744073709551616 else 0) := by
      split
      · rename_i h3
        have h4 := hr h3
        have h5 := hs.bit h4
        have hc : c.count ≤ 2048 := (Cfg.near_places hw.ok.toNear).2.2.2.2.2.2.2.2.2.2.1
        have e : (w.val.ref % 18446744073709551616 + 1) % 18446744073709551616 = w.val.ref + 1 := by omega
        rw [e]
        exact .inr ⟨by omega, by omega, by show getB V _ = true; rw [show w.val.ref + 1 - 1 = w.val.ref by omega]; exact h4⟩
      · exact .inl rfl
    have es : sets s (Redo.ents (entsAt (rootAt c w) (if w.val.kind = 3 then [(w.val.ref % 18446744073709551616 + 1) % 18446744073709551616] else [0]))) = s.set (rootAt c w).toNat (if w.val.kind = 3 then (w.val.ref % 18446744073709551616 + 1) % 18446744073709551616 else 0) := by
      split <;> rfl
    simp only
    rw [es]
    refine ⟨hs.root hin.1 hin.2 hrw, fun b hb2 => ?_⟩
    obtain ⟨k', vs1, vs3, e', q4, q5, q6⟩ := hsame b hb2
    refine ⟨k', vs1, vs3, e', q4, ?_, q6⟩
    have hb := hw.bit hb2
    have := at_places hw.ok hb
    rw [blockW_congr hw.ok hb fun i h2 h3 => List.getElem?_set_ne (by omega)]
    exact q5
theorem wents_cons (c : Cfg) (U : List Bool) (d : Dev) (w : Wr) (ws : List Wr) : wents c U d (w :: ws) = entsAt (fieldW c U d w).1 (fieldW c U d w).2.1 ++ wents c U d ws := rfl
theorem ents_append (a b : List Ent) : Redo.ents (a ++ b) = Redo.ents a ++ Redo.ents b := List.map_append
theorem WInv.wrs {V : List Bool} (hd : d.down = false) (hw : WInv c d.read U) (hUV : ∀ b, getB U b = true → getB V b = true) {ws : List Wr} (hk : ∀ w ∈ ws, WrOk c U d w ∧ (w.val.kind = 3 → getB V w.val.ref = true)) : ∀ {s : List Int} (_ : WInv c s V) (_ : ∀ b, getB U b = true → ∃ k vs vs' e, objD c.kinds (blockW c d.read b) = some (k, vs, e) ∧ objD c.kinds (blockW c s b) = some (k, vs', e) ∧ vs'.length = vs.length),
    WInv c (sets s (Redo.ents (wents c U d ws))) V := by
  induction ws with
  | nil => intro s hs _; exact hs
  | cons w ws ih =>
    intro s hs hsame
    rw [wents_cons, ents_append, sets_append]
    obtain ⟨h1, h2⟩ := WInv.wr hd hw hUV hs hsame (hk w (by simp)).1 (hk w (by simp)).2
    exact ih (fun w' hw' => hk w' (by simp [hw'])) h1 h2
/-- The same words at another moment. -/
theorem field_same {V : List Bool} {d1 : Dev} (hd : d.down = false) (hd1 : d1.down = false) (hr : d1.read = d.read) (hUV : ∀ b, getB U b = true → getB V b = true) {w : Wr} (hk : w.kind = 1 → getB U w.obj = true) : fieldW c V d1 w = fieldW c U d w := by
  unfold fieldW
  by_cases h1 : w.kind = 1
  · have h2 := hk h1
    have e : obj c V d1 w.obj = obj c U d w.obj := by
      unfold obj
      rw [hd, hd1, hr, h2, hUV _ h2]
    rw [e]
  · rw [if_pos h1, if_pos h1]
theorem wents_same {V : List Bool} {d1 : Dev} (hd : d.down = false) (hd1 : d1.down = false) (hr : d1.read = d.read) (hUV : ∀ b, getB U b = true → getB V b = true) {ws : List Wr} (hk : ∀ w ∈ ws, w.kind = 1 → getB U w.obj = true) : wents c V d1 ws = wents c U d ws := by
  induction ws with
  | nil => rfl
  | cons w ws ih =>
    rw [wents_cons, wents_cons, field_same hd hd1 hr hUV (hk w (by simp)), ih fun w' hw' => hk w' (by simp [hw'])]
theorem wents_length (c : Cfg) (U : List Bool) (d : Dev) (ws : List Wr) : ((wents c U d ws).length : Int) = fieldN c U d ws := by
  induction ws with
  | nil => rfl
  | cons w ws ih =>
    rw [wents_cons, List.length_append, entsAt_length]
    unfold fieldN
    omega
theorem wents_in (hd : d.down = false) (hw : WInv c d.read U) {ws : List Wr} (hk : ∀ w ∈ ws, WrOk c U d w) : ∀ x ∈ wents c U d ws, 0 ≤ x.at_ ∧ x.at_ < c.words ∧ (x.at_ < c.logAt ∨ c.blocksAt ≤ x.at_) := by
  intro x hx
  obtain ⟨w, hw', hx⟩ := List.mem_flatMap.1 hx
  exact field_in hd hw (hk w hw') x hx
/-- As many bits' words as the entries of a turn. -/
theorem bits_length (h : c.Ok) {bl : List Int} (hbl : ∀ b ∈ bl, 0 ≤ b ∧ b < c.count) : (compB (sortB (bl.map c.bitsOf))).length = (wordsOf bl).length := by
  have e : bl.map c.bitsOf = (bl.map fun b => b / 64).map fun x => c.bitsAt + x := by
    rw [List.map_map]
    refine List.map_congr_left fun b hb => ?_
    have := hbl b hb
    have h3 := Cfg.cls_range c b
    have h4 := Cfg.cls_neg h.toNear b
    unfold Cfg.bitsOf
    rw [if_neg (by omega)]
    rfl
  rw [e]
  unfold wordsOf
  have hp1 := (compB_spec (sortB_pairwise ((bl.map fun b => b / 64).map fun x => c.bitsAt + x)))
  have hp2 := (compB_spec (sortB_pairwise (bl.map fun b => b / 64)))
  have ha : ∀ (l m : List Int), l.Nodup → (∀ x ∈ l, ∃ y ∈ m, x = c.bitsAt + y) → l.length ≤ m.length := fun l m hn hs => by
    have : (l.map fun x => x - c.bitsAt).Nodup := by
      rw [List.nodup_iff_pairwise_ne, List.pairwise_map]
      exact (List.nodup_iff_pairwise_ne.1 hn).imp fun h1 h2 => h1 (by omega)
    have h2 := this.length_le_of_subset (l₂ := m) (fun y hy => by
      obtain ⟨x, hx, rfl⟩ := List.mem_map.1 hy
      obtain ⟨z, hz, rfl⟩ := hs x hx
      rw [show c.bitsAt + z - c.bitsAt = z by omega]
      exact hz)
    simpa using h2
  have hb : ∀ (l m : List Int), l.Nodup → (∀ x ∈ l, c.bitsAt + x ∈ m) → l.length ≤ m.length := fun l m hn hs => by
    have : (l.map fun x => c.bitsAt + x).Nodup := by
      rw [List.nodup_iff_pairwise_ne, List.pairwise_map]
      exact (List.nodup_iff_pairwise_ne.1 hn).imp fun h1 h2 => h1 (by omega)
    have h2 := this.length_le_of_subset (l₂ := m) (fun y hy => by
      obtain ⟨x, hx, rfl⟩ := List.mem_map.1 hy
      exact hs x hx)
    simpa using h2
  refine Nat.le_antisymm (ha _ _ (hp1.1.imp fun h => by omega) fun x hx => ?_) (hb _ _ (hp2.1.imp fun h => by omega) fun x hx => ?_)
  · rw [hp1.2, mem_sortB] at hx
    obtain ⟨y, hy, rfl⟩ := List.mem_map.1 hx
    exact ⟨y, by rw [hp2.2, mem_sortB]; exact hy, rfl⟩
  · rw [hp2.2, mem_sortB] at hx
    rw [hp1.2, mem_sortB]
    exact List.mem_map.2 ⟨x, hx, rfl⟩
end Hp
end Scul
/- Heaps: format, lay, commit, open, crash while the power is there: plain. -/
namespace Scul
open Go Go.Sl Go.RowKit
namespace Hp
open Redo Dev
variable {c : Cfg} {d : Dev} {U R : List Bool}
theorem super_fits (h : c.Ok) : c.super.length ≤ c.words.toNat := by
  rw [Cfg.super_length]
  have hp := places h
  have n1 := h.toNear.roots; have n2 := h.toNear.weaks; have n3 := h.toNear.log; have n4 := h.some
  omega
theorem empty_eq (h : c.Ok) : c.empty = c.super ++ List.replicate (c.words.toNat - c.super.length) 0 := by
  have hf := super_fits h
  unfold Cfg.empty splice
  rw [List.take_of_length_le hf, List.take_zero, List.nil_append, Nat.zero_add, List.drop_replicate]
theorem empty_zero (h : c.Ok) {i : Nat} (hi : 9 + c.kinds.length ≤ i) (hi2 : (i : Int) < c.words) : c.empty[i]? = some 0 := by
  rw [empty_eq h, List.getElem?_append_right (by rw [Cfg.super_length]; exact hi), List.getElem?_replicate, if_pos]
  rw [Cfg.super_length]
  omega
theorem unpack_zero (n : Nat) (w : List Int) (h : ∀ i, i < n → w.getD (i / 64) 0 = 0) : unpackW n w = List.replicate n false := by
  refine List.ext_getElem (by simp [unpackW]) fun i hi hi2 => ?_
  have hin : i < n := by simpa [unpackW] using hi
  simp only [unpackW, List.getElem_map, List.getElem_range, List.getElem_replicate]
  rw [h i hin]
  simp
theorem getB_replicate (n : Nat) (b : Int) : getB (List.replicate n false) b = false := by
  unfold getB
  rw [List.getD_eq_getElem?_getD, List.getElem?_replicate]
  split <;> simp
/-- A new heap. -/
theorem format_inv (h : c.Ok) (hd : (Dev.of c.empty).Ok) : HInv c (Dev.of c.empty) (List.replicate c.count.toNat false) := by
  have hp := places h
  have n1 := h.toNear.roots; have n2 := h.toNear.weaks; have n3 := h.toNear.log; have n4 := h.some; have n5 := h.log40
  have hl := empty_length h
  refine ⟨⟨h, by show (c.empty.length : Int) = _; omega, empty_u64 h, ?_, ?_, fun b hb => (by rw [getB_replicate] at hb; cases hb), fun i hi => .inl ?_, fun i hi => .inl ?_⟩, ⟨rfl, rfl⟩, ?_, ⟨rfl, fun i _ => .inr ⟨rfl, rfl⟩⟩, hd⟩
  · show c.empty.take _ = _
    rw [empty_eq h, List.take_left' (by rw [Cfg.super_length])]
  · show unpackW _ _ = _
    refine unpack_zero _ _ fun i hi => ?_
    rw [List.getD_eq_getElem?_getD, part_get (by omega)]
    show ((c.empty)[c.bitsAt.toNat + i / 64]?).getD 0 = 0
    rw [empty_zero h (by omega) (by omega)]
    rfl
  · show c.empty.getD _ 0 = 0
    rw [List.getD_eq_getElem?_getD, empty_zero h (by omega) (by omega)]
    rfl
  · show c.empty.getD _ 0 = 0
    rw [List.getD_eq_getElem?_getD, empty_zero h (by omega) (by omega)]
    rfl
  · show c.empty.getD _ 0 = 0
    rw [List.getD_eq_getElem?_getD, empty_zero h (by omega) (by omega)]
    rfl
theorem of_clean (l : List Int) : Clean (Dev.of l) := ⟨rfl, rfl, rfl⟩
/-- A heap is opened as it is. -/
theorem open_inv (h : HInv c d U) : openE d = (d, 0, some (c, U)) := by
  have hp := places h.w.ok
  have n3 := h.w.ok.toNear.log; have n5 := h.w.ok.log40
  have hr := h.w.read h.mark
  obtain ⟨f, hf⟩ := Int.eq_ofNat_of_zero_le (a := c.logAt) (by omega)
  have hfl : f < d.read.length := by have := h.w.len; omega
  have hl := load0 d h.up.1 f hfl
  have hm : d.load c.logAt = 0 := by rw [hf, hl.2]; have := h.mark; rw [hf] at this; simpa using this
  have hle : d.loadE c.logAt = 0 := by rw [hf]; exact hl.1
  have hmay : Redo.may d c.logAt (c.logAt + c.log) = true := by
    unfold Redo.may
    rw [decide_eq_true_iff]
    have := h.w.len
    have := h.w.ok.log40
    omega
  have hwr : wrap64 (c.logAt + c.log - c.logAt) = c.log := by unfold wrap64; omega
  have hfit : Redo.fits c.logAt (c.logAt + c.log) 0 = true := by
    unfold Redo.fits Redo.need
    rw [hwr, decide_eq_true_iff]
    have := h.w.ok.log40
    simp
    omega
  have hee : Redo.entE d c.logAt (c.logAt + c.log) = 0 := by
    unfold Redo.entE
    rw [hle, hm, hfit]
    simp
  have hel : Redo.entL d c.logAt (c.logAt + c.log) = [] := by
    unfold Redo.entL Redo.entsOf
    rw [hee, hm]
    simp
  have hrec : Redo.recover d c.logAt (c.logAt + c.log) = (d, 0, 0) := by
    unfold Redo.recover
    rw [hmay, hel, hee]
    simp
  unfold openE
  rw [h.w.cfg]
  simp only
  rw [if_neg (by rw [h.w.len]; omega), hrec]
  simp only
  rw [if_neg (by simp), if_pos hr, h.w.used]
/-- A crash that picks nothing, of what is sure. -/
theorem crash_inv (h : HInv c d U) (hc : Clean d) (hok : (d.crash []).Ok) : HInv c (d.crash []) U ∧ Clean (d.crash []) ∧ (d.crash []).read = d.read := by
  obtain ⟨h1, h2⟩ := hc.crash_nil h.dok
  exact ⟨⟨by rw [h1]; exact h.w, up_crash _ _, by rw [h1]; exact h.mark, h2.settled, hok⟩, h2, h1⟩
theorem stOpsAt_eq (a : Int) (l : List Int) : stOpsAt a l = (Redo.ents (entsAt a l)).map fun p => .st p.1 p.2 := by
  induction l generalizing a with
  | nil => rfl
  | cons x r ih =>
    show DOp.st a x :: stOpsAt (a + 1) r = _
    rw [ih]
    rfl
theorem lineOps_eq (a z : Nat) : lineOps a z = ((List.range (z + 1 - a)).map fun i => ((8 * (a + i) : Nat) : Int)).map fun x => .fl x := by
  unfold lineOps
  rw [List.map_map]
  rfl
/-- An object is laid into a block that is not used. -/
theorem lay_inv (h : HInv c d U) {b k : Int} {vs : List Val} {e : Nat} {w : List Int} (hR : getB R b = true) (hU : getB U b = false) (hb : 0 ≤ b ∧ b < c.count) (ho : objE c.kinds k vs e = (0, w)) (hw : (w.length : Int) ≤ c.size b) (hw1 : 1 ≤ w.length) (hwf : ∀ v ∈ vs, v.Wf) (hwu : ∀ x ∈ w, U64 x) (hok : (lay c R d b k vs e).1.Ok) :
    (lay c R d b k vs e).2 = 0 ∧ HInv c (lay c R d b k vs e).1 U ∧ objD c.kinds (blockW c (lay c R d b k vs e).1.read b) = some (k, vs.map Val.told, e % 2 ^ 32) ∧ (∀ i : Nat, (i : Int) < c.at_ b ∨ c.at_ b + c.size b ≤ i → (lay c R d b k vs e).1.read[i]? = d.read[i]?) := by
  obtain ⟨g1, g2, g3, g4⟩ := at_places h.w.ok hb
  have hp := places h.w.ok
  have n1 := h.w.ok.toNear.roots; have n2 := h.w.ok.toNear.weaks; have n3 := h.w.ok.toNear.log; have n4 := h.w.ok.some; have n5 := h.w.ok.log40
  have hlen := h.w.len
  obtain ⟨A0, hA0⟩ := Int.eq_ofNat_of_zero_le (a := c.at_ b) (by omega)
  have hl : lay c R d b k vs e = d.run (layOps A0 w) := by
    unfold lay
    rw [hR, if_neg (by simp), ho]
    simp only
    rw [if_neg (by simp), if_neg (by omega), hA0]
    rfl
  rw [hl] at hok ⊢
  have hops : layOps A0 w = ((Redo.ents (entsAt (A0 : Int) w)).map fun p => .st p.1 p.2) ++ (((List.range ((A0 + w.length - 1) / 8 + 1 - A0 / 8)).map fun i => ((8 * (A0 / 8 + i) : Nat) : Int)).map fun x => .fl x) := by
    unfold layOps
    rw [stOpsAt_eq, lineOps_eq]
  have hS : ∀ p ∈ Redo.ents (entsAt (A0 : Int) w), 0 ≤ p.1 ∧ p.1 < (d.read.length : Int) ∧ (A0 : Int) ≤ p.1 ∧ p.1 < A0 + w.length := fun p hp1 => by
    obtain ⟨x, hx, rfl⟩ := List.mem_map.1 hp1
    have := entsAt_mem hx
    simp only
    omega
  have hA : ∀ a ∈ ((List.range ((A0 + w.length - 1) / 8 + 1 - A0 / 8)).map fun i => ((8 * (A0 / 8 + i) : Nat) : Int)), 0 ≤ a ∧ a < (d.read.length : Int) := fun a ha => by
    obtain ⟨i, hi, rfl⟩ := List.mem_map.1 ha
    rw [List.mem_range] at hi
    omega
  have hrun := run_upE h.up (layOps A0 w) (by
    intro o ho
    rw [hops] at ho
    rcases List.mem_append.1 ho with ho | ho
    · obtain ⟨p, hp1, rfl⟩ := List.mem_map.1 ho
      exact ⟨(hS p hp1).1, (hS p hp1).2.1⟩
    · obtain ⟨a, ha, rfl⟩ := List.mem_map.1 ho
      exact hA a ha)
  rcases lay_run d h.up.1 h.st (Redo.ents (entsAt (A0 : Int) w)) _ (fun p hp1 => ⟨(hS p hp1).1, (hS p hp1).2.1⟩) hA (by
      intro p hp1
      have := hS p hp1
      rw [List.mem_map]
      refine ⟨((8 * (A0 / 8 + (p.1.toNat / 8 - A0 / 8)) : Nat) : Int), List.mem_map.2 ⟨p.1.toNat / 8 - A0 / 8, ?_, rfl⟩, ?_⟩
      · rw [List.mem_range]; omega
      · omega) _ rfl with ⟨r1, r2, r3, r4⟩ | r1
  · rw [← hops] at r1 r2 r3 r4
    have hput := block_put (s := d.read) h.w.ok hlen hb (o := 0) (l := w) (by omega)
    have e0 : c.at_ b + ((0 : Nat) : Int) = (A0 : Int) := by omega
    rw [e0, ← r3] at hput
    obtain ⟨p1, p2⟩ := hput
    have hbl := blockW_length h.w.ok hlen hb
    refine ⟨r1, ⟨?_, hrun.2, ?_, r4, hok⟩, ?_, p2⟩
    · refine h.w.step (by rw [r3, sets_len]) hok.rd (fun i hi => p2 i (by omega)) ?_ (fun b hb => hb) ?_ (fun i hi => .inl (p2 _ (by omega))) (fun i hi => .inl (p2 _ (by omega)))
      · rw [usedW_congr h.w.ok fun i h5 h6 => p2 i (by omega)]; exact h.w.used
      · intro a ha
        have hab : a ≠ b := fun e => by rw [e, hU] at ha; cases ha
        exact .inr ⟨ha, block_other h.w.ok (h.w.bit ha) hb hab p2⟩
    · have := p2 c.logAt.toNat (by omega)
      rw [getD_of this]
      exact h.mark
    · rw [p1]
      unfold putF
      rw [List.take_zero, List.nil_append]
      exact objD_objE hwf ho _
  · rw [← hops, hrun.1] at r1
    cases r1
end Hp
end Scul
/- Heaps: a commit while the power is there: plain. -/
namespace Scul
open Go Go.Sl Go.RowKit
namespace Hp
open Redo Dev
variable {c : Cfg} {d : Dev} {U R : List Bool}
theorem setAll_mono (U : List Bool) (bl : List Int) (b : Int) (h : getB U b = true) : getB (setAll U bl true) b = true := by
  rw [getB_setAll]
  split
  · rfl
  · exact h
theorem ents_inv (h : HInv c d U) {bl : List Int} {ws : List Wr} (hbl : ∀ b ∈ bl, 0 ≤ b ∧ b < c.count) (hg : ∀ b ∈ bl, Good c d.read (setAll U bl true) b) (hk : ∀ w ∈ ws, WrOk c U d w ∧ (w.val.kind = 3 → getB (setAll U bl true) w.val.ref = true)) :
    WInv c (sets d.read (Redo.ents (turnE c (setAll U bl true) (wordsOf bl) ++ wents c U d ws))) (setAll U bl true) := by
  rw [ents_append, sets_append]
  have h1 := h.w.turn hbl hg
  refine WInv.wrs h.up.1 h.w (setAll_mono U bl) hk h1 fun b hb => ?_
  obtain ⟨k, vs, e, h2, h3⟩ := h.w.clos b hb
  refine ⟨k, vs, vs, e, h2, ?_, rfl⟩
  have hb' := h.w.bit hb
  have := at_places h.w.ok hb'
  have hp := places h.w.ok
  have n3 := h.w.ok.toNear.log
  rw [blockW_congr h.w.ok hb' fun i h5 h6 => turn_ne h.w.ok hbl (by omega)]
  exact h2
theorem commit_inv (h : HInv c d U) {bl : List Int} {ws : List Wr} (hwf : ∀ w ∈ ws, w.val.Wf ∧ I64 w.field) (hf : fits c U R d bl ws = 0) (hne : ¬ (bl = [] ∧ ws = [])) (hR : R.length = c.count.toNat) (hg : ∀ b ∈ bl, Good c d.read (setAll U bl true) b) (hok : (commit c ⟨d, U, R⟩ bl ws).1.d.Ok) :
    (commit c ⟨d, U, R⟩ bl ws).2 = 0 ∧ (commit c ⟨d, U, R⟩ bl ws).1.U = setAll U bl true ∧ (commit c ⟨d, U, R⟩ bl ws).1.R = setAll R bl false ∧ HInv c (commit c ⟨d, U, R⟩ bl ws).1.d (setAll U bl true) ∧ Clean (commit c ⟨d, U, R⟩ bl ws).1.d ∧
    ∀ i : Nat, (i : Int) < c.logAt ∨ c.blocksAt ≤ i → (commit c ⟨d, U, R⟩ bl ws).1.d.read[i]? = (sets d.read (Redo.ents (turnE c (setAll U bl true) (wordsOf bl) ++ wents c U d ws)))[i]? := by
  obtain ⟨hmb, hws, hc1, hc2⟩ := fits_ok hf hwf
  have hp := places h.w.ok
  have n1 := h.w.ok.toNear.roots; have n2 := h.w.ok.toNear.weaks; have n3 := h.w.ok.toNear.log; have n4 := h.w.ok.some; have n5 := h.w.ok.log40; have n6 := h.w.ok.log8
  have hlen := h.w.len
  obtain ⟨hbl, hbll⟩ := mayB_in hR hmb
  have hk : ∀ w ∈ ws, WrOk c U d w ∧ (w.val.kind = 3 → getB (setAll U bl true) w.val.ref = true) := fun w hw => ⟨(hws w hw).1, fun h3 => by
    rcases (hws w hw).2 h3 with h4 | h4
    · exact setAll_mono U bl _ h4
    · have := hbl _ h4
      rw [getB_setAll, if_pos ⟨h4, by omega, by rw [h.w.ulen]; omega⟩]⟩
  have hinv := ents_inv h hbl hg hk
  -- the fence
  have hfe : d.fenceE = 0 := fence_upE h.up
  have hfu : d.fence.Up := up_fence h.up
  have hfc : Clean d.fence ∧ d.fence.read = d.read := by
    rcases fence_run d h.st with ⟨_, h1, h2⟩ | h1
    · exact ⟨h1, h2⟩
    · rw [hfe] at h1; cases h1
  have hwe : wents c (setAll U bl true) d.fence ws = wents c U d ws := wents_same h.up.1 hfu.1 hfc.2 (setAll_mono U bl) fun w hw => (hk w hw).1.obj
  obtain ⟨L, hL⟩ : ∃ L, L = turnE c (setAll U bl true) (wordsOf bl) ++ wents c U d ws := ⟨_, rfl⟩
  have hcm : commit c ⟨d, U, R⟩ bl ws = (⟨(write c d.fence L).1, setAll U bl true, setAll R bl false⟩, (write c d.fence L).2) := by
    unfold commit
    simp only
    rw [if_neg (by intro h; rcases h with h | h; exact h hf; exact hne h), if_neg (by simpa using hfe), hwe, ← hL]
  rw [hcm] at hok ⊢
  simp only at hok ⊢
  rw [← hL] at hinv ⊢
  have hLn : (L.length : Int) = countN c U d bl ws := by
    rw [hL, List.length_append, turnE_length]
    unfold countN
    rw [bits_length h.w.ok hbl]
    have := wents_length c U d ws
    omega
  have hL0 : 0 ≤ countN c U d bl ws := by omega
  have hneed : Redo.need (countN c U d bl ws) = 8 + 2 * countN c U d bl ws := by unfold Redo.need; rw [if_neg (by omega)]
  by_cases hL0 : L = []
  · have hw0 : write c d.fence L = (d.fence, 0) := if_pos hL0
    rw [hw0] at hok ⊢
    simp only at hok ⊢
    rw [hL0] at hinv ⊢
    have hs : sets d.read (Redo.ents []) = d.read := rfl
    rw [hs] at hinv ⊢
    exact ⟨by first | rfl | trivial, by first | rfl | trivial, by first | rfl | trivial, ⟨by rw [hfc.2]; exact hinv, hfu, by rw [hfc.2]; exact h.mark, hfc.1.settled, hok⟩, hfc.1, fun i _ => by rw [hfc.2]⟩
  · have hw0 : write c d.fence L = Redo.write d.fence c.logAt (c.logAt + c.log) L := if_neg hL0
    obtain ⟨f, hfN⟩ := Int.eq_ofNat_of_zero_le (a := c.logAt) (by omega)
    obtain ⟨T, hTN⟩ := Int.eq_ofNat_of_zero_le (a := c.logAt + c.log) (by omega)
    have hfit : FitF f T d.read.length L := by
      refine ⟨by omega, by omega, by omega, fun x hx => ?_⟩
      rw [hL] at hx
      rcases List.mem_append.1 hx with hx | hx
      · unfold turnE at hx
        obtain ⟨j, hj, rfl⟩ := List.mem_map.1 hx
        obtain ⟨b, hb, hjb⟩ := (mem_wordsOf bl j).1 hj
        have hb' := hbl b hb
        simp only
        rw [bitsOf_mul h.w.ok (by omega) (by omega)]
        omega
      · have := wents_in h.up.1 h.w (fun w hw => (hk w hw).1) x hx
        omega
    have hm0 : d.fence.read.getD f 0 = 0 := by rw [hfc.2]; have := h.mark; rw [hfN] at this; simpa using this
    obtain ⟨w1, w2, w3, w4⟩ := write_upF hfit d.fence hfu hfc.1 (by rw [hfc.2]) (by omega) hm0 hL0 (by omega)
    rw [hw0, hTN, hfN] at hok ⊢
    rw [hfc.2] at w4
    have hdata : ∀ i : Nat, (i : Int) < c.logAt ∨ c.blocksAt ≤ i → (Redo.write d.fence f T L).1.read[i]? = (sets d.read (Redo.ents L))[i]? := fun i hi => by
      rw [w4]
      exact pf_data hfit d.read i (by omega)
    refine ⟨w1, by first | rfl | trivial, by first | rfl | trivial, ⟨?_, w2, ?_, w3.settled, hok⟩, w3, fun i hi => hdata i (by rw [hfN]; exact hi)⟩
    · exact hinv.log (by rw [w4, pf_len, sets_len]) hok.rd hdata
    · rw [w4, hfN, Int.toNat_natCast, List.getD_eq_getElem?_getD, pf_mark _ _ (by have := pf_len f d.read L; unfold pf4 pf3 at this; simp only [sets_len] at this; omega)]
      rfl
end Hp
end Scul
/- Heaps: what Fits lets through; root writes: plain. -/
namespace Scul
open Go Go.Sl Go.RowKit
namespace Hp
open Redo Dev
variable {c : Cfg} {d : Dev} {U R : List Bool}
/-- A commit that fits. -/
theorem fits_of {bl : List Int} {ws : List Wr} (hm : mayB R [] bl = true) (hk : ∀ w ∈ ws, WrOk c U d w ∧ (w.val.kind = 3 → getB U w.val.ref = true ∨ w.val.ref ∈ bl)) (h1 : countN c U d bl ws ≤ 1024) (h2 : 8 + 2 * countN c U d bl ws ≤ c.log) (h0 : 0 ≤ countN c U d bl ws) : fits c U R d bl ws = 0 := by
  have a0 : firstE (placeE U) ws = 0 := firstE_zero.2 fun w hw => by
    have hk1 := (hk w hw).1
    unfold placeE
    by_cases h : w.kind = 1
    · rw [if_pos h, if_pos (hk1.obj h)]
    · rw [if_neg h, if_pos (by rcases hk1.kind with h3 | h3; exact absurd h3 h; exact h3)]
  have a1 : firstE (indexE c) ws = 0 := firstE_zero.2 fun w hw => by
    have hk1 := (hk w hw).1
    unfold indexE
    by_cases h : w.kind = 1
    · rw [if_neg (fun h3 => h3.1 h)]
    · have := hk1.root h
      rw [if_neg (fun h3 => by omega)]
  have a2 : firstE (refersE U bl) ws = 0 := firstE_zero.2 fun w hw => by
    unfold refersE
    rw [if_neg]
    rintro ⟨h3, h4⟩
    exact h4 ((hk w hw).2 h3)
  have a3 : firstE typedE ws = 0 := firstE_zero.2 fun w hw => by
    have hk1 := (hk w hw).1
    unfold typedE
    by_cases h : w.kind = 1
    · rw [if_neg (fun h3 => h3.1 h)]
    · have := hk1.typ h
      rw [if_neg (fun h3 => by omega)]
  have a4 : firstE (field5E c U d) ws = 0 := firstE_zero.2 fun w hw => by
    unfold field5E
    rw [(hk w hw).1.field]
    rfl
  have a5 : firstE (field6E c U d) ws = 0 := firstE_zero.2 fun w hw => by
    unfold field6E
    exact (hk w hw).1.field
  have hn : Redo.need (countN c U d bl ws) = 8 + 2 * countN c U d bl ws := by unfold Redo.need; rw [if_neg (by omega)]
  unfold fits
  rw [hm, if_neg (by decide), a0, if_neg (by simp), a1, if_neg (by simp), a2, if_neg (by simp), a3, if_neg (by simp), a4, if_neg (by simp), a5, if_neg (by simp), hn, if_neg (by omega)]
/-- What a root's word becomes. -/
def rootW (w : Wr) : Int := if w.val.kind = 3 then (w.val.ref % 18446744073709551616 + 1) % 18446744073709551616 else 0
theorem fieldW_root {w : Wr} (h : w.kind ≠ 1) : fieldW c U d w = (rootAt c w, [rootW w], 0) := by
  unfold fieldW rootW
  rw [if_pos h]
  split <;> rfl
theorem wents_roots {ws : List Wr} (h : ∀ w ∈ ws, w.kind ≠ 1) : Redo.ents (wents c U d ws) = ws.map fun w => (rootAt c w, rootW w) := by
  induction ws with
  | nil => rfl
  | cons w ws ih =>
    rw [wents_cons, ents_append, ih fun x hx => h x (by simp [hx]), fieldW_root (h w (by simp))]
    rfl
theorem fieldN_roots {ws : List Wr} (h : ∀ w ∈ ws, w.kind ≠ 1) : fieldN c U d ws = ws.length := by
  induction ws with
  | nil => rfl
  | cons w ws ih =>
    unfold fieldN
    rw [ih fun x hx => h x (by simp [hx]), fieldW_root (h w (by simp))]
    simp only [List.length_cons, List.length_nil]
    omega
/-- A root write that may be. -/
theorem wrOk_root {w : Wr} (hk : w.kind = 2 ∨ w.kind = 3) (hwf : w.val.Wf) (hf : I64 w.field) (hr : 0 ≤ rootAt c w) (ht : w.val.kind = 0 ∨ w.val.kind = 3) : WrOk c U d w :=
  ⟨hwf, hf, fun h => by omega, .inr hk, fun _ => hr, fun _ => ht, by rw [fieldW_root (by omega)]⟩
/-- How many entries a commit of root writes has. -/
theorem countN_roots (hok : c.Ok) {bl : List Int} {ws : List Wr} (hbl : ∀ b ∈ bl, 0 ≤ b ∧ b < c.count) (h : ∀ w ∈ ws, w.kind ≠ 1) : countN c U d bl ws = ws.length + (wordsOf bl).length := by
  unfold countN
  rw [fieldN_roots h, bits_length hok hbl]
/-- The words of a commit of root writes: the blocks' own are as they were. -/
theorem roots_block (hok : c.Ok) (s : List Int) {V : List Bool} {bl : List Int} {ws : List Wr} (hbl : ∀ b ∈ bl, 0 ≤ b ∧ b < c.count) (h : ∀ w ∈ ws, w.kind ≠ 1 ∧ 0 ≤ rootAt c w) {i : Nat} (hi : c.blocksAt ≤ i) :
    (sets s (Redo.ents (turnE c V (wordsOf bl) ++ wents c U d ws)))[i]? = s[i]? := by
  have hp := places hok
  have n3 := hok.toNear.log; have n1 := hok.toNear.roots; have n2 := hok.toNear.weaks; have n4 := hok.some
  rw [ents_append, sets_append, wents_roots fun w hw => (h w hw).1, sets_ne, turn_ne hok hbl (by omega)]
  intro p hp1 hp2
  obtain ⟨w, hw, rfl⟩ := List.mem_map.1 hp1
  have := rootAt_in hok (h w hw).2
  simp only at hp2
  omega
theorem roots_word (hok : c.Ok) (s : List Int) {V : List Bool} {bl : List Int} {ws : List Wr} (hbl : ∀ b ∈ bl, 0 ≤ b ∧ b < c.count) (h : ∀ w ∈ ws, w.kind ≠ 1) {i : Nat} (hi : (i : Int) < c.bitsAt) :
    (sets s (Redo.ents (turnE c V (wordsOf bl) ++ wents c U d ws)))[i]? = (sets s (ws.map fun w => (rootAt c w, rootW w)))[i]? := by
  rw [ents_append, sets_append, wents_roots h]
  exact sets_congr _ _ _ _ (turn_ne hok hbl (.inl hi))
/-- An object that reads as one that was laid. -/
theorem obj_of {b k : Int} {vs : List Val} {e : Nat} (hd : d.down = false) (hu : getB U b = true) (ho : objD c.kinds (blockW c d.read b) = some (k, vs, e)) : obj c U d b = (k, vs, 0) := by
  unfold obj
  rw [hu, hd, ho]
  rfl
theorem rootV_of (hd : d.down = false) {a : Nat} (ha : a < d.read.length) {x : Int} (hx : d.read[a]? = some x) : rootV d (a : Int) = (wrap64 (wrap64 x - 1), 0) := by
  have hl := load0 d hd a ha
  unfold rootV
  rw [if_neg (by omega), hl.1, if_neg (by simp), hl.2, List.getD_eq_getElem?_getD, hx]
  rfl
end Hp
end Scul
