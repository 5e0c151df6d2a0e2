/- Words for memory, of no program: a string known by its bytes, a slice that reads as a list, rows of the call's own. No condition. Plain laws on UTF-8 (no program in sight): the characters of bytes, their bytes again, bytes made right. No condition. Plain laws on character references (no program in sight): a reference at a text's beginning, a text with its references told, a text written. Words on strings, further: a byte, a character, a part, both behind each other. -/
import Derived.BigQuiet
import Derived.Deep.AppendLies
import Derived.Deep.Draws
import Derived.Deep.QuietTactic
import Derived.Laws.BytesArg
import Derived.Laws.Cover4
import Derived.Laws.IdiomStrings
import Derived.Laws.OwnMore
import Derived.Lib.Hide
import Derived.Lib.OthersKept
import Derived.Lib.RuneBytes
import Derived.Lib.UnsafeStr
import Derived.Lib.ValidLaws
import Derived.Maps.AppendAt
import Derived.OwnWalk
import Derived.RegionTactic
import Derived.WalkKit
import Derived.WalkLawsBesides
import Derived.WalkSpells
section
namespace Go.Proofs.YtnkelhmjkmeilaaGreatDoor
open Go.RowKit
theorem ret_bool {a b : Bool} (h : a = b) : Ending.returned (.bool a) = .returned (.bool b) := by rw [h]
theorem ret_int {k : IntKind} {a b : Int} (h : a = b) : Ending.returned (.int k a) = .returned (.int k b) := by rw [h]
def IsStr (t : ByteArray) (l : List UInt8) : Prop := t.data.toList = l
theorem IsStr.mk (l : List UInt8) : IsStr ⟨l.toArray⟩ l := rfl
theorem IsStr.of (t : ByteArray) : IsStr t t.data.toList := rfl
theorem IsStr.to {t : ByteArray} {l : List UInt8} (h : IsStr t l) : t = ⟨l.toArray⟩ := by
  unfold IsStr at h
  subst h
  cases t; simp
theorem IsStr.eq {t u : ByteArray} {l m : List UInt8} (h : IsStr t l) (h' : IsStr u m) (e : l = m) : t = u := by rw [h.to, h'.to, e]
theorem IsStr.size {t : ByteArray} {l : List UInt8} (h : IsStr t l) : t.size = l.length := by rw [h.to]; rfl
theorem IsStr.out {t : ByteArray} {l : List UInt8} (h : IsStr t l) : t.data.toList = l := h
theorem block_add (a : Addr) (n : Nat) : (a.add n).block = a.block := by unfold Addr.add; split <;> rfl
theorem add_pos (a : Addr) (n : Nat) (h : 0 < n) : a.add n = ⟨a.block, a.off + n, none⟩ := by unfold Addr.add; rw [if_neg (by omega)]
theorem add_add (a : Addr) (i j : Nat) : (a.add i).add j = a.add (i + j) := by
  unfold Addr.add
  by_cases hi : i = 0 <;> by_cases hj : j = 0 <;> simp [hi, hj, Nat.add_assoc]
def Rd (w : World) (B z : Nat) (A : Option Addr) (n : Nat) (xs : List Value) : Prop :=
  xs.length = n * z ∧ (xs ≠ [] → ∃ a, A = some a ∧ a.block < B ∧ ∀ j u, xs[j]? = some u → w.cell? (a.add j) = some u)
section
variable {w w' : World} {B B' z n : Nat} {A : Option Addr} {xs : List Value}
theorem Rd.nil (w : World) (B z : Nat) (A : Option Addr) : Rd w B z A 0 [] := ⟨by simp, fun h => absurd rfl h⟩
theorem Rd.len (h : Rd w B 1 A n xs) : xs.length = n := by rw [h.1, Nat.mul_one]
theorem Rd.at_ {k : Nat} (h : Rd w B 1 A n xs) (hk : k < n) : ∃ a u, A = some a ∧ a.block < B ∧ xs[k]? = some u ∧ w.cell? (a.add k) = some u := by
  have hl : k < xs.length := by rw [h.len]; exact hk
  obtain ⟨a, e, hb, hc⟩ := h.2 (by intro e; rw [e] at hl; simp at hl)
  exact ⟨a, xs[k], e, hb, List.getElem?_eq_getElem hl, hc k _ (List.getElem?_eq_getElem hl)⟩
theorem Rd.keep (h : Rd w B z A n xs) (hk : ∀ p : Addr, p.block < B → w'.cell? p = w.cell? p) : Rd w' B z A n xs :=
  ⟨h.1, fun hn => by
    obtain ⟨a, e, hb, hc⟩ := h.2 hn
    exact ⟨a, e, hb, fun j u hu => (hk _ (by rw [block_add]; exact hb)).trans (hc j u hu)⟩⟩
theorem Rd.more (h : Rd w B z A n xs) (hB : B ≤ B') : Rd w B' z A n xs :=
  ⟨h.1, fun hn => by
    obtain ⟨a, e, hb, hc⟩ := h.2 hn
    exact ⟨a, e, by omega, hc⟩⟩
theorem Rd.below (h : Rd w B z A n xs) (hb : Below B w w') : Rd w' B z A n xs := h.keep fun _ hp => hb.cell hp
theorem Rd.on (h : Rd w w.heap.size z A n xs) (hb : Below w.heap.size w w') : Rd w' w'.heap.size z A n xs := (h.below hb).more hb.size
theorem Rd.drew (h : Rd w B z A n xs) : Rd w.drew B z A n xs := h
theorem Rd.drewN (h : Rd w B z A n xs) (k : Nat) : Rd (w.drewN k) B z A n xs := h
theorem Rd.alloc (h : Rd w B z A n xs) (hB : B ≤ w.heap.size) (o : Obj) : Rd (w.alloc o) B z A n xs := h.keep fun p hp => World.cell?_alloc_lt w o p (by omega)
theorem Rd.setCell (h : Rd w B z A n xs) {p : Addr} (hB : B ≤ p.block) (u : Value) : Rd (w.setCell p u) B z A n xs :=
  h.keep fun q hq => World.cell?_setCell_other w p q u (fun e => by subst e; omega)
theorem Rd.grown (h : Rd w B z A n xs) {row : Option Nat} (hg : w.grownBy w' row) (hB : B ≤ w.heap.size) (hr : ∀ g, row = some g → B ≤ g) : Rd w' B z A n xs :=
  h.keep fun p hp => World.cell?_of_block (hg.block p.block (by omega) (fun e => by have := hr _ e.symm; omega))
theorem Rd.cut (h : Rd w B z A n xs) {k cap : Nat} (_hk : k ≤ n) (hc : n ≤ cap) :
    Rd w B z (if cap = k then A else A.map (·.add (k * z))) (n - k) (xs.drop (k * z)) := by
  refine ⟨by rw [List.length_drop, h.1, Nat.sub_mul], fun hn => ?_⟩
  have hx : xs ≠ [] := fun e => hn (by rw [e, List.drop_nil])
  have hlt : k * z < xs.length := by
    rcases Nat.lt_or_ge (k * z) xs.length with h' | h'
    · exact h'
    · exact absurd (List.drop_eq_nil_of_le h') hn
  have hkn : k < n := by
    rw [h.1] at hlt
    exact Nat.lt_of_mul_lt_mul_right hlt
  obtain ⟨a, rfl, hb, hcell⟩ := h.2 hx
  rw [if_neg (by omega)]
  refine ⟨a.add (k * z), rfl, by rw [block_add]; exact hb, fun j u hu => ?_⟩
  rw [add_add]
  exact hcell _ u (by rw [← hu, List.getElem?_drop])
theorem Rd.take (h : Rd w B z A n xs) {k : Nat} (hk : k ≤ n) : Rd w B z A k (xs.take (k * z)) := by
  refine ⟨?_, fun hn => ?_⟩
  · rw [List.length_take, h.1]
    exact Nat.min_eq_left (Nat.mul_le_mul_right z hk)
  · obtain ⟨a, e, hb, hcell⟩ := h.2 (fun e => hn (by rw [e, List.take_nil]))
    refine ⟨a, e, hb, fun j u hu => hcell j u ?_⟩
    rw [List.getElem?_take] at hu
    split at hu
    · exact hu
    · cases hu
theorem Rd.of_own {base c : Nat} {e : TypeId} (h : w.ownsRow base e z (.slice A n c) n xs) : Rd w w.heap.size z A n xs := by
  refine ⟨h.1, fun hn => ?_⟩
  have hp : 0 < n := by
    rcases Nat.eq_zero_or_pos n with h0 | h0
    · have := h.1; rw [h0, Nat.zero_mul] at this; exact absurd (List.eq_nil_of_length_eq_zero this) hn
    · exact h0
  obtain ⟨g, cap, hv, _, hlt⟩ := h.form hp
  have hA : A = some ⟨g, 0, none⟩ := by injection hv
  subst hA
  exact ⟨_, rfl, hlt, h.cells (g := g) rfl⟩
theorem own_shape {v : Value} {base : Nat} {e : TypeId} (h : w.ownsRow base e z v n xs) : ∃ A c, v = .slice A n c ∧ n ≤ c := by
  rcases h.2 with ⟨rfl, rfl⟩ | ⟨g, cap, cur, rfl, _, _, hnc, _⟩
  · exact ⟨none, 0, rfl, Nat.le_refl _⟩
  · exact ⟨_, cap, rfl, hnc⟩
end
section
variable {P : Program} {w : World} {B n : Nat} {A : Option Addr}
theorem bytes_of_cells (l : List UInt8) : strOfNums (l.map fun b => (b.toNat : Int)) = ⟨l.toArray⟩ := by
  unfold strOfNums
  rw [List.map_map]
  have : ((fun n : Int => UInt8.ofNat n.toNat) ∘ fun b : UInt8 => (b.toNat : Int)) = id := by funext b; simp
  rw [this, List.map_id]
theorem run_bytes_str {l : List UInt8} (h : Rd w B 1 A n (Lib.byteCells l)) (src e dst : TypeId) (c : Nat) (hs : P.underlying src = some (.slice e)) (he : P.underlying e = some (.int .u8)) (hd : P.underlying dst = some .string) :
    (convert src dst (.slice A n c)).run P w = .ok (.string ⟨l.toArray⟩) w := by
  have hl : l.length = n := by rw [← h.len, Lib.byteCells_length]
  rcases A with _ | a
  · rw [run_convert_bytes_nil w src e hs he n c dst hd]
    have : l = [] := by
      rcases l with _ | ⟨x, l⟩
      · rfl
      · obtain ⟨a, e, _⟩ := h.2 (by simp [Lib.byteCells]); cases e
    subst this
    rfl
  · have hl2 : (loadCells a n).run P w = .ok ((l.map fun b => (b.toNat : Int)).map (Value.int .u8)).toArray w := by
      have := run_loadCells_list (P := P) w a (Lib.byteCells l) (fun j v hj => by
        obtain ⟨a', e, _, hc⟩ := h.2 (by intro e; rw [e] at hj; simp at hj)
        injection e with e
        subst e
        exact hc j v hj)
      rw [Lib.byteCells_length, hl] at this
      rw [this, List.map_map]
      rfl
    rw [run_convert_bytes_string w src dst e _ n c hs he hd, run_bytesToString w _ n c _ hl2, foldl_push_bytes]
    have := bytes_of_cells l
    unfold strOfNums at this
    rw [← this, show ByteArray.empty.data = #[] from rfl, Array.empty_append]
end
section
variable {P : Program} {w : World} {B n : Nat} {A : Option Addr}
end
structure Row (P : Program) (t e : TypeId) (size bytes : Nat) : Prop where
  und : P.underlying t = some (.slice e)
  ex : ∃ (i : TypeInfo) (z : Value), P.info? e = some i ∧ i.zero = some z ∧ i.size = size ∧ i.bytes = bytes ∧ z.cells.size = size
  pos : 0 < size
theorem bt {a b c : World} (h : Below a.heap.size a b) (k : Below b.heap.size b c) : Below a.heap.size a c := h.trans (k.mono h.size)
theorem below_drewN {B : Nat} {a w : World} (h : Below B a w) (n : Nat) : Below B a (w.drewN n) := ⟨h.os, h.tape, h.output, h.size, h.block⟩
theorem own_ge {w : World} {base z n : Nat} {e : TypeId} {v : Value} {xs : List Value} (h : w.ownsRow base e z v n xs) : ∀ k, v.ownBlock = some k → base ≤ k := fun k hk => (h.lt k hk).1
theorem own_below {w w' : World} {base z n B : Nat} {e : TypeId} {v : Value} {xs : List Value} (h : w.ownsRow base e z v n xs) (hb : Below B w w') (hB : w.heap.size ≤ B) : w'.ownsRow base e z v n xs := by
  refine ⟨h.1, ?_⟩
  rcases h.2 with h0 | ⟨g, cap, cur, rfl, hb2, hh, rest⟩
  · exact .inl h0
  · refine .inr ⟨g, cap, cur, rfl, hb2, ?_, rest⟩
    have hg : g < w.heap.size := (Array.getElem?_eq_some_iff.1 hh).1
    rw [hb.block g (by omega), hh]
section
variable {P : Program} {w : World} {ops : Array Oper} {rest : List Oper} {o : Oper} {a : Act} {Q : Exit → Act → World → Prop}
theorem wpList_push (hgd : o.guard = none) (s x : Operand) (t : TypeId) (ho : o.op = .call { callee := .builtin .append, args := #[s, x], argTypes := #[t, t] })
    (base : Nat) {e : TypeId} {size bytes : Nat} (R : Row P t e size bytes) (A : Option Addr) (n c : Nat) (xs : List Value) (hs : a.eval s = .slice A n c) (hown : w.ownsRow base e size (.slice A n c) n xs)
    (cs : List Value) (c1 : Nat) (hx : a.eval x = .slice (some ⟨w.heap.size, 0, none⟩) 1 c1) (hl : cs.length = size) (h1 : ∀ u ∈ cs, u.oneCell' = true)
    (h63 : n + 1 ≤ maxLen) (hbytes : (n + 1) * bytes ≤ 140737488355328) (hbase : base ≤ w.heap.size)
    (h : ∀ A' c' w', n + 1 ≤ c' → w'.ownsRow base e size (.slice A' (n + 1) c') (n + 1) (xs ++ cs) → w.grownBy w' (Value.slice A n c).ownBlock → wpList P ops Q rest (a.put o.dst (.slice A' (n + 1) c')) w') :
    wpList P ops Q (o :: rest) a (w.alloc (.cells cs.toArray e)) := by
  obtain ⟨i, z, hi, hz, hsize, hby, hzs⟩ := R.ex
  have hcell : ∀ j u, cs[j]? = some u → (w.alloc (.cells cs.toArray e)).cell? ((⟨w.heap.size, 0, none⟩ : Addr).add j) = some u := fun j u hu =>
    World.news_of_block (fr := (0, 0)) (heap_alloc_new w _) j u (by simpa using hu)
  refine wpList_append_own _ hgd s x t ho base e i z size bytes R.und hi hz hsize hby hzs R.pos _ n xs hs (hown.alloc _) ⟨w.heap.size, 0, none⟩ 1 c1 cs hx (by simpa using hl) hcell h1 h63 hbytes (by simp; omega) ?_
  intro v' w' h2 h3 _
  obtain ⟨A', c', rfl, hc'⟩ := own_shape h2
  refine h A' c' w' hc' h2 ⟨h3.os, h3.tape, h3.output, Nat.le_trans (by simp) h3.size, fun k hk hne => ?_⟩
  exact (h3.block k (by simp; omega) hne).trans (Below.heap_alloc w _ k hk)
end
end Go.Proofs.YtnkelhmjkmeilaaGreatDoor
end
section
namespace Go.Proofs.YtnkelhmjkmeilaaGreatDoor
open Go.Lib
def runesF : Nat → List UInt8 → List Int
  | 0, _ => []
  | n + 1, l => if l = [] then [] else ((decodeL l).1 : Int) :: runesF n (l.drop (decodeL l).2)
def runes (l : List UInt8) : List Int := runesF l.length l
theorem runesF_nil : ∀ n, runesF n [] = []
  | 0 => rfl
  | _ + 1 => by simp [runesF]
theorem runesF_fuel : ∀ (n m : Nat) (l : List UInt8), l.length ≤ n → l.length ≤ m → runesF n l = runesF m l
  | 0, m, l, hn, _ => by
    have : l = [] := List.eq_nil_of_length_eq_zero (by omega)
    subst this
    rw [runesF_nil, runesF_nil]
  | n + 1, 0, l, _, hm => by
    have : l = [] := List.eq_nil_of_length_eq_zero (by omega)
    subst this
    rw [runesF_nil, runesF_nil]
  | n + 1, m + 1, l, hn, hm => by
    unfold runesF
    by_cases hne : l = []
    · simp [hne]
    · have hw := decodeL_width l
      have hl : 0 < l.length := List.length_pos_iff.2 hne
      rw [if_neg hne, if_neg hne, runesF_fuel n m (l.drop (decodeL l).2) (by rw [List.length_drop]; omega) (by rw [List.length_drop]; omega)]
theorem runes_nil : runes [] = [] := rfl
theorem runes_step (l : List UInt8) (hne : l ≠ []) : runes l = ((decodeL l).1 : Int) :: runes (l.drop (decodeL l).2) := by
  have hl : 0 < l.length := List.length_pos_iff.2 hne
  have hw := decodeL_width l
  obtain ⟨n, hn⟩ : ∃ n, l.length = n + 1 := ⟨l.length - 1, by omega⟩
  unfold runes
  rw [hn]
  show (if l = [] then [] else _) = _
  rw [if_neg hne, runesF_fuel n (l.drop (decodeL l).2).length _ (by rw [List.length_drop]; omega) (Nat.le_refl _)]
theorem byRunes {P : List UInt8 → Prop} (h0 : P []) (h1 : ∀ l, l ≠ [] → P (l.drop (decodeL l).2) → P l) (l : List UInt8) : P l := by
  suffices h : ∀ n (l : List UInt8), l.length ≤ n → P l from h l.length l (Nat.le_refl _)
  intro n
  induction n with
  | zero =>
    intro l hl
    have : l = [] := List.eq_nil_of_length_eq_zero (by omega)
    subst this
    exact h0
  | succ n ih =>
    intro l hl
    by_cases hne : l = []
    · subst hne; exact h0
    · refine h1 l hne (ih _ ?_)
      have := decodeL_width l
      have hl : 0 < l.length := List.length_pos_iff.2 hne
      rw [List.length_drop]; omega
theorem runes_length (l : List UInt8) : (runes l).length ≤ l.length := by
  induction l using byRunes with
  | h0 => simp [runes_nil]
  | h1 l hne ih =>
    rw [runes_step l hne]
    have := decodeL_width l
    have hl : 0 < l.length := List.length_pos_iff.2 hne
    rw [List.length_drop] at ih
    simp only [List.length_cons]
    omega
def okRune (r : Int) : Prop := (0 ≤ r ∧ r < 55296) ∨ (57343 < r ∧ r ≤ 1114111)
theorem decodeN_ok (n b0 b1 b2 b3 : Nat) (h0 : b0 < 256) : okRune ((decodeN n b0 b1 b2 b3).1 : Int) := by
  unfold okRune
  rcases decodeN_shape n b0 b1 b2 b3 with ⟨c, e⟩ | ⟨c1, c2, c3, cv, e⟩ | ⟨c1, c2, c3, c4, cv, cs, e⟩ | ⟨c1, c2, c3, c4, c5, cv, cw, e⟩ | e <;> rw [e] <;> simp only [] <;> omega
theorem decodeL_ok (l : List UInt8) : okRune ((decodeL l).1 : Int) := by
  rw [decodeL_N]; exact decodeN_ok _ _ _ _ _ (UInt8.toNat_lt _)
theorem runes_ok (l : List UInt8) : ∀ r ∈ runes l, okRune r := by
  induction l using byRunes with
  | h0 => simp [runes_nil]
  | h1 l hne ih =>
    rw [runes_step l hne]
    intro r hr
    rcases List.mem_cons.1 hr with rfl | hr
    · exact decodeL_ok l
    · exact ih r hr
def enc (l : List Int) : List UInt8 := l.flatMap encodeRune
theorem enc_nil : enc [] = [] := rfl
theorem enc_cons (r : Int) (l : List Int) : enc (r :: l) = encodeRune r ++ enc l := rfl
theorem encodeRune_length (r : Int) : 1 ≤ (encodeRune r).length ∧ (encodeRune r).length ≤ 4 := by
  have := runeCells_le r
  rwa [runeCells_length] at this
theorem enc_length (l : List Int) : l.length ≤ (enc l).length ∧ (enc l).length ≤ 4 * l.length := by
  induction l with
  | nil => simp [enc_nil]
  | cons r l ih =>
    have := encodeRune_length r
    rw [enc_cons, List.length_append, List.length_cons]
    omega
theorem toU8n (x : Nat) (h1 : x < 256) : (x.toUInt8).toNat = x := by
  simp only [Nat.toUInt8_eq, UInt8.toNat_ofNat']
  omega
theorem encodeRune_ne (r : Int) (t : List UInt8) : encodeRune r ++ t ≠ [] := by
  have := encodeRune_length r
  intro h
  have h2 := congrArg List.length h
  rw [List.length_append, List.length_nil] at h2
  omega
def fix : Bool → List Int → List Int
  | _, [] => []
  | ret, r :: t => (if r = 10 ∧ ret = true then [] else [if r = 13 then 10 else if r = 0 then 65533 else r]) ++ fix (r == 13) t
def right (l : List UInt8) : List UInt8 := enc (fix false (runes l))
theorem fix_length (ret : Bool) (l : List Int) : (fix ret l).length ≤ l.length := by
  induction l generalizing ret with
  | nil => simp [fix]
  | cons r l ih =>
    have := ih (r == 13)
    rw [fix, List.length_append]
    split <;> simp <;> omega
theorem fix_ok (ret : Bool) (l : List Int) (h : ∀ r ∈ l, okRune r) : ∀ r ∈ fix ret l, okRune r ∧ r ≠ 0 ∧ r ≠ 13 := by
  induction l generalizing ret with
  | nil => simp [fix]
  | cons a l ih =>
    intro r hr
    rw [fix, List.mem_append] at hr
    rcases hr with hr | hr
    · split at hr
      · cases hr
      · rw [List.mem_singleton] at hr
        subst hr
        have ha := h a (by simp)
        split
        · unfold okRune; omega
        · split
          · unfold okRune; omega
          · exact ⟨ha, by omega, by omega⟩
    · exact ih _ (fun x hx => h x (by simp [hx])) r hr
def isRight (l : List UInt8) : Bool := validD l && (runes l).all fun r => r != 0 && r != 13
theorem right_length (l : List UInt8) : (right l).length ≤ 4 * l.length := by
  have h1 := (enc_length (fix false (runes l))).2
  have h2 := fix_length false (runes l)
  have h3 := runes_length l
  unfold right
  omega
end Go.Proofs.YtnkelhmjkmeilaaGreatDoor
end
section
namespace Go.Proofs.YtnkelhmjkmeilaaGreatDoor
open Go.Lib
def nameTab : List (List UInt8 × Int) := [([97, 109, 112], 38), ([108, 116], 60), ([103, 116], 62), ([113, 117, 111, 116], 34), ([97, 112, 111, 115], 39), ([110, 98, 115, 112], 160), ([99, 111, 112, 121], 169), ([114, 101, 103], 174), ([100, 101, 103], 176), ([109, 105, 100, 100, 111, 116], 183), ([116, 105, 109, 101, 115], 215), ([110, 100, 97, 115, 104], 8211), ([109, 100, 97, 115, 104], 8212), ([104, 101, 108, 108, 105, 112], 8230), ([101, 117, 114, 111], 8364)]
def nameOf (s : List UInt8) : Option Int := (nameTab.find? fun p => p.1 == s).map (·.2)
def digitOf (c base : Int) : Int :=
  if 48 ≤ c ∧ c ≤ 57 then c - 48 else if base = 16 ∧ 97 ≤ c ∧ c ≤ 102 then c - 97 + 10 else if base = 16 ∧ 65 ≤ c ∧ c ≤ 70 then c - 65 + 10 else -1
theorem digitOf_bd (c base : Int) (hb : base = 10 ∨ base = 16) : -1 ≤ digitOf c base ∧ digitOf c base < base := by
  unfold digitOf
  repeat' split
  all_goals omega
def numGo (base : Int) (most : Nat) : List UInt8 → Int → Nat → Option (Int × Nat)
  | [], _, _ => none
  | c :: t, n, k =>
    if c = 59 then (if k = 0 then none else some (n, k))
    else if digitOf c.toNat base < 0 ∨ k = most then none
    else numGo base most t (n * base + digitOf c.toNat base) (k + 1)
def charOf (n : Int) : Int := if n = 0 ∨ n = 13 ∨ (55296 ≤ n ∧ n ≤ 57343) ∨ n > 1114111 then 65533 else n
def numRef (l : List UInt8) (from_ : Nat) (base : Int) (most : Nat) : Int × Nat :=
  match numGo base most (l.drop from_) 0 0 with
  | none => (0, 0)
  | some (n, k) => (charOf n, from_ + k + 1)
def semi : Nat → List UInt8 → Option Nat
  | 0, _ => none
  | _ + 1, [] => none
  | n + 1, c :: t => if c = 59 then some 0 else (semi n t).map (· + 1)
def nameRef (l : List UInt8) : Int × Nat :=
  match semi 7 l.tail with
  | none => (0, 0)
  | some i => match nameOf (l.tail.take i) with
    | none => (0, 0)
    | some r => (r, i + 2)
def one (l : List UInt8) : Int × Nat :=
  if [38, 35, 120].isPrefixOf l ∨ [38, 35, 88].isPrefixOf l then numRef l 3 16 6
  else if [38, 35].isPrefixOf l then numRef l 2 10 7
  else if [38].isPrefixOf l then nameRef l
  else (0, 0)
theorem semi_le : ∀ (n : Nat) (l : List UInt8) (i : Nat), semi n l = some i → i < n ∧ i < l.length
  | 0, _, _, h => by simp [semi] at h
  | n + 1, [], _, h => by simp [semi] at h
  | n + 1, c :: t, i, h => by
    simp only [semi] at h
    split at h
    · simp at h; subst h; simp
    · obtain ⟨j, hj, rfl⟩ := Option.map_eq_some_iff.1 h
      have := semi_le n t j hj
      simp; omega
theorem numGo_le (base : Int) (most : Nat) : ∀ (l : List UInt8) (n : Int) (k : Nat) (r : Int) (j : Nat), numGo base most l n k = some (r, j) → k ≤ j ∧ j - k < l.length
  | [], _, _, _, _, h => by simp [numGo] at h
  | c :: t, n, k, r, j, h => by
    simp only [numGo] at h
    split at h
    · split at h
      · cases h
      · simp at h; obtain ⟨_, rfl⟩ := h; simp
    · split at h
      · cases h
      · have := numGo_le base most t _ _ _ _ h
        simp; omega
theorem numRef_le (l : List UInt8) (f : Nat) (base : Int) (most : Nat) (_hf : 1 ≤ f) : (numRef l f base most).2 ≤ l.length := by
  unfold numRef
  cases h : numGo base most (l.drop f) 0 0 with
  | none => simp
  | some p =>
    obtain ⟨n, k⟩ := p
    have := numGo_le base most _ _ _ _ _ h
    rw [List.length_drop] at this
    simp only
    omega
theorem nameRef_le (l : List UInt8) : (nameRef l).2 ≤ l.length := by
  unfold nameRef
  cases h : semi 7 l.tail with
  | none => simp
  | some i =>
    have := semi_le _ _ _ h
    rw [List.length_tail] at this
    simp only
    cases nameOf (l.tail.take i) <;> simp <;> omega
theorem one_le (l : List UInt8) : (one l).2 ≤ l.length := by
  unfold one
  split
  · exact numRef_le _ _ _ _ (by omega)
  · split
    · exact numRef_le _ _ _ _ (by omega)
    · split
      · exact nameRef_le _
      · simp
def decF : Nat → List UInt8 → List UInt8
  | 0, _ => []
  | _ + 1, [] => []
  | n + 1, c :: t => if c = 38 then (if 0 < (one (c :: t)).2 then encodeRune (one (c :: t)).1 ++ decF n ((c :: t).drop (one (c :: t)).2) else 38 :: decF n t) else c :: decF n t
def dec (l : List UInt8) : List UInt8 := decF l.length l
theorem decF_fuel : ∀ (n m : Nat) (l : List UInt8), l.length ≤ n → l.length ≤ m → decF n l = decF m l
  | 0, m, l, hn, _ => by
    have : l = [] := List.eq_nil_of_length_eq_zero (by omega)
    subst this
    cases m <;> rfl
  | n + 1, 0, l, _, hm => by
    have : l = [] := List.eq_nil_of_length_eq_zero (by omega)
    subst this
    rfl
  | n + 1, m + 1, [], _, _ => rfl
  | n + 1, m + 1, c :: t, hn, hm => by
    simp only [List.length_cons] at hn hm
    unfold decF
    rw [decF_fuel n m t (by omega) (by omega)]
    by_cases h0 : 0 < (one (c :: t)).2
    · rw [decF_fuel n m ((c :: t).drop (one (c :: t)).2) (by rw [List.length_drop, List.length_cons]; omega) (by rw [List.length_drop, List.length_cons]; omega)]
    · simp only [if_neg h0]
theorem dec_nil : dec [] = [] := rfl
theorem dec_other (c : UInt8) (t : List UInt8) (h : c ≠ 38) : dec (c :: t) = c :: dec t := by
  unfold dec
  rw [List.length_cons, decF, if_neg h]
theorem dec_ref (t : List UInt8) (h : 0 < (one (38 :: t)).2) : dec (38 :: t) = encodeRune (one (38 :: t)).1 ++ dec ((38 :: t).drop (one (38 :: t)).2) := by
  unfold dec
  rw [List.length_cons, decF, if_pos rfl, if_pos h, decF_fuel _ ((38 :: t).drop (one (38 :: t)).2).length _ (by rw [List.length_drop, List.length_cons]; omega) (Nat.le_refl _)]
theorem dec_amp (t : List UInt8) (h : ¬ 0 < (one (38 :: t)).2) : dec (38 :: t) = 38 :: dec t := by
  unfold dec
  rw [List.length_cons, decF, if_pos rfl, if_neg h]
theorem dec_plain (p t : List UInt8) (h : ∀ c ∈ p, c ≠ 38) : dec (p ++ t) = p ++ dec t := by
  induction p with
  | nil => rfl
  | cons c p ih => rw [List.cons_append, dec_other _ _ (h c (by simp)), ih (fun x hx => h x (by simp [hx]))]; rfl
theorem dec_length (l : List UInt8) : (dec l).length ≤ 4 * l.length := by
  suffices h : ∀ n (l : List UInt8), l.length ≤ n → (dec l).length ≤ 4 * l.length from h l.length l (Nat.le_refl _)
  intro n
  induction n with
  | zero =>
    intro l hl
    have : l = [] := List.eq_nil_of_length_eq_zero (by omega)
    subst this
    simp [dec_nil]
  | succ n ih =>
    intro l hl
    rcases l with _ | ⟨c, t⟩
    · simp [dec_nil]
    · simp only [List.length_cons] at hl
      by_cases hc : c = 38
      · subst hc
        by_cases h0 : 0 < (one (38 :: t)).2
        · rw [dec_ref t h0, List.length_append]
          have h1 := encodeRune_length (one (38 :: t)).1
          have h2 := ih ((38 :: t).drop (one (38 :: t)).2) (by rw [List.length_drop, List.length_cons]; omega)
          have h3 := one_le (38 :: t)
          rw [List.length_drop] at h2
          simp only [List.length_cons] at *
          omega
        · rw [dec_amp t h0]
          have := ih t (by omega)
          simp only [List.length_cons]; omega
      · rw [dec_other c t hc]
        have := ih t (by omega)
        simp only [List.length_cons]; omega
def escB (value : Bool) (c : UInt8) : List UInt8 :=
  if c = 38 then [38, 97, 109, 112, 59] else if c = 60 then [38, 108, 116, 59] else if c = 62 then [38, 103, 116, 59] else if c = 34 ∧ value = true then [38, 113, 117, 111, 116, 59] else [c]
def esc (value : Bool) (l : List UInt8) : List UInt8 := l.flatMap (escB value)
theorem esc_append (v : Bool) (a b : List UInt8) : esc v (a ++ b) = esc v a ++ esc v b := by simp [esc]
theorem escB_length (v : Bool) (c : UInt8) : 1 ≤ (escB v c).length ∧ (escB v c).length ≤ 6 := by
  unfold escB
  repeat' split
  all_goals simp
theorem esc_length (v : Bool) (l : List UInt8) : l.length ≤ (esc v l).length ∧ (esc v l).length ≤ 6 * l.length := by
  induction l with
  | nil => simp [esc]
  | cons c l ih =>
    have := escB_length v c
    have e : esc v (c :: l) = escB v c ++ esc v l := rfl
    rw [e, List.length_append, List.length_cons]
    omega
theorem one_amp (t : List UInt8) : one (38 :: 97 :: 109 :: 112 :: 59 :: t) = (38, 5) := rfl
theorem one_lt (t : List UInt8) : one (38 :: 108 :: 116 :: 59 :: t) = (60, 4) := rfl
theorem one_gt (t : List UInt8) : one (38 :: 103 :: 116 :: 59 :: t) = (62, 4) := rfl
theorem one_quot (t : List UInt8) : one (38 :: 113 :: 117 :: 111 :: 116 :: 59 :: t) = (34, 6) := rfl
theorem dec_esc (v : Bool) (l t : List UInt8) : dec (esc v l ++ t) = l ++ dec t := by
  induction l with
  | nil => rfl
  | cons c l ih =>
    have e : esc v (c :: l) = escB v c ++ esc v l := rfl
    rw [e, List.append_assoc]
    have e2 : c :: l ++ dec t = c :: (l ++ dec t) := rfl
    rw [e2, ← ih]
    generalize esc v l ++ t = s
    unfold escB
    by_cases h1 : c = 38
    · rw [if_pos h1]
      have hd := dec_ref (97 :: 109 :: 112 :: 59 :: s) (by rw [one_amp]; decide)
      rw [one_amp] at hd
      subst h1
      exact hd
    · rw [if_neg h1]
      by_cases h2 : c = 60
      · rw [if_pos h2]
        have hd := dec_ref (108 :: 116 :: 59 :: s) (by rw [one_lt]; decide)
        rw [one_lt] at hd
        subst h2
        exact hd
      · rw [if_neg h2]
        by_cases h3 : c = 62
        · rw [if_pos h3]
          have hd := dec_ref (103 :: 116 :: 59 :: s) (by rw [one_gt]; decide)
          rw [one_gt] at hd
          subst h3
          exact hd
        · rw [if_neg h3]
          by_cases h4 : c = 34 ∧ v = true
          · rw [if_pos h4]
            have hd := dec_ref (113 :: 117 :: 111 :: 116 :: 59 :: s) (by rw [one_quot]; decide)
            rw [one_quot] at hd
            rw [h4.1]
            exact hd
          · rw [if_neg h4]
            exact dec_other c s h1
theorem dec_esc_self (v : Bool) (l : List UInt8) : dec (esc v l) = l := by
  have := dec_esc v l []
  rwa [List.append_nil, dec_nil, List.append_nil] at this
theorem escB_bare (v : Bool) (c : UInt8) : ∀ x ∈ escB v c, x ≠ 60 ∧ x ≠ 62 ∧ (v = true → x ≠ 34) := by
  intro x hx
  unfold escB at hx
  by_cases h1 : c = 38
  · rw [if_pos h1] at hx; revert x; cases v <;> decide
  · rw [if_neg h1] at hx
    by_cases h2 : c = 60
    · rw [if_pos h2] at hx; revert x; cases v <;> decide
    · rw [if_neg h2] at hx
      by_cases h3 : c = 62
      · rw [if_pos h3] at hx; revert x; cases v <;> decide
      · rw [if_neg h3] at hx
        by_cases h4 : c = 34 ∧ v = true
        · rw [if_pos h4] at hx; revert x; cases v <;> decide
        · rw [if_neg h4, List.mem_singleton] at hx
          subst hx
          exact ⟨h2, h3, fun hv e => h4 ⟨e, hv⟩⟩
theorem esc_bare (v : Bool) (l : List UInt8) : ∀ x ∈ esc v l, x ≠ 60 ∧ x ≠ 62 ∧ (v = true → x ≠ 34) := by
  intro x hx
  obtain ⟨c, _, hc⟩ := List.mem_flatMap.1 hx
  exact escB_bare v c x hc
end Go.Proofs.YtnkelhmjkmeilaaGreatDoor
end
section
namespace Go.Proofs.YtnkelhmjkmeilaaGreatDoor
theorem s_byte {s : ByteArray} {l : List UInt8} (h : IsStr s l) (k : Nat) (hk : k < s.size) (hk' : k < l.length) : s[k] = l[k] := by
  have := h.out
  subst this
  rfl
theorem s_decode {s : ByteArray} {l : List UInt8} (h : IsStr s l) (pos : Nat) : Utf8.decode s pos = Lib.decodeL (l.drop pos) := by
  rw [← Lib.decodeL_drop, h.out]
theorem s_drop {t : ByteArray} {l : List UInt8} (ht : IsStr t l) (k : Nat) : IsStr (t.extract k t.size) (l.drop k) := by
  rw [ht.to]
  unfold IsStr
  simp [ByteArray.data_extract, ByteArray.size]
  exact List.take_of_length_le (by simp)
theorem s_take {t : ByteArray} {l : List UInt8} (ht : IsStr t l) (k : Nat) : IsStr (t.extract 0 k) (l.take k) := by
  rw [ht.to]
  unfold IsStr
  simp [ByteArray.data_extract]
theorem s_part {t : ByteArray} {l : List UInt8} (ht : IsStr t l) (i k : Nat) : IsStr (t.extract i k) ((l.drop i).take (k - i)) := by
  rw [ht.to]
  unfold IsStr
  simp [ByteArray.data_extract, List.take_drop]
  try omega
theorem s_append {t u : ByteArray} {l m : List UInt8} (ht : IsStr t l) (hu : IsStr u m) : IsStr (t ++ u) (l ++ m) := by
  rw [ht.to, hu.to]
  unfold IsStr
  simp
end Go.Proofs.YtnkelhmjkmeilaaGreatDoor
end
