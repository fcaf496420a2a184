/- Round trips of chapter 14: frames and what stands in them. No program in sight. -/
import Derived.Test.YtnieminnnkbneaaGreatPg
import Derived.Test.YtnieminnnkbneaaGreatRound2
namespace Go.Proofs.YtnieminnnkbneaaGreat
open Go.RowKit

theorem wordOf_le4 (v : Nat) (h : v < 4294967296) : wordOf (UInt8.ofNat v) (UInt8.ofNat (v / 256)) (UInt8.ofNat (v / 65536)) (UInt8.ofNat (v / 16777216)) = v := by
  unfold wordOf
  simp only [UInt8.toNat_ofNat']
  omega
theorem getD_of {xs : Bs} {p i : Nat} {b : UInt8} (h : (xs.drop p)[i]? = some b) : xs.getD (p + i) 0 = b := by
  rw [List.getElem?_drop] at h
  rw [List.getD_eq_getElem?_getD, h]
  rfl
theorem wordAt_of {xs : Bs} {p : Nat} {a b c d : UInt8} {rest : Bs} (h : xs.drop p = a :: b :: c :: d :: rest) : wordAt xs p = wordOf a b c d := by
  unfold wordAt
  rw [show xs.getD p 0 = a from getD_of (i := 0) (by rw [h]; rfl), getD_of (i := 1) (b := b) (by rw [h]; rfl), getD_of (i := 2) (b := c) (by rw [h]; rfl), getD_of (i := 3) (b := d) (by rw [h]; rfl)]

theorem next_fwd {xs b rest : Bs} {p : Nat} (h : xs.drop p = headB b ++ (b ++ rest)) (h1 : 1 ≤ b.length) (h2 : b.length ≤ 65536) :
    nextE xs p = 0 ∧ wordAt xs p = b.length ∧ bodyAt xs p = b ∧ xs.drop (p + 8 + b.length) = rest ∧ p + 8 + b.length ≤ xs.length := by
  have hl : xs.length - p = 8 + (b.length + rest.length) := by
    have := congrArg List.length h
    rw [List.length_drop, List.length_append, List.length_append, headB_length] at this
    exact this
  have hw : wordAt xs p = b.length := by
    rw [wordAt_of (h.trans (by rfl : headB b ++ (b ++ rest) = UInt8.ofNat b.length :: UInt8.ofNat (b.length / 256) :: UInt8.ofNat (b.length / 65536) :: UInt8.ofNat (b.length / 16777216) :: (le4 (crcUpd (crcUpd 0 (le4 b.length)) b) ++ (b ++ rest)))), wordOf_le4 _ (by omega)]
  have h4 : xs.drop (p + 4) = le4 (crcUpd (crcUpd 0 (le4 b.length)) b) ++ (b ++ rest) := by
    rw [← List.drop_drop, h]
    rfl
  have h8 : xs.drop (p + 8) = b ++ rest := by
    rw [← List.drop_drop, h]
    rfl
  have hw4 : wordAt xs (p + 4) = crcUpd (crcUpd 0 (le4 b.length)) b := by
    generalize hs : crcUpd (crcUpd 0 (le4 b.length)) b = s at *
    have hsl : s < 4294967296 := by rw [← hs]; exact crcUpd_lt _ _
    rw [wordAt_of (h4.trans (by rfl : le4 s ++ (b ++ rest) = UInt8.ofNat s :: UInt8.ofNat (s / 256) :: UInt8.ofNat (s / 65536) :: UInt8.ofNat (s / 16777216) :: (b ++ rest))), wordOf_le4 _ hsl]
  have hb : bodyAt xs p = b := by
    unfold bodyAt
    rw [h8, hw, List.take_left]
  have ht4 : (xs.drop p).take 4 = le4 b.length := by
    rw [h]
    rfl
  refine ⟨?_, hw, hb, ?_, by omega⟩
  · unfold nextE
    rw [if_neg (by omega), if_neg (by omega), hw, if_neg (by omega), hw4, hb, ht4, if_pos rfl]
  · rw [← List.drop_drop, h8, List.drop_left]

theorem next_end {xs : Bs} {p : Nat} (hp : p = xs.length) : nextE xs p = 12 := by
  unfold nextE
  rw [if_pos hp]

theorem next_cut {xs b : Bs} {p k : Nat} (h : xs.drop p = (headB b ++ b).take k) (h2 : b.length ≤ 65536) (h0 : 0 < k) (hk : k < 8 + b.length) : nextE xs p = 13 := by
  have hl : xs.length - p = k := by
    have := congrArg List.length h
    rw [List.length_drop, List.length_take, List.length_append, headB_length] at this
    omega
  unfold nextE
  rw [if_neg (by omega)]
  by_cases h8 : k < 8
  · rw [if_pos (by omega)]
  · rw [if_neg (by omega)]
    obtain ⟨j, rfl⟩ : ∃ j, k = 8 + j := ⟨k - 8, by omega⟩
    have e : xs.drop p = headB b ++ b.take j := by
      rw [h, show 8 = (headB b).length from rfl, List.take_append, List.take_of_length_le (by rw [headB_length]; omega), show (headB b).length + j - (headB b).length = j by omega]
    have hw : wordAt xs p = b.length := by
      rw [wordAt_of (e.trans (by rfl : headB b ++ b.take j = UInt8.ofNat b.length :: UInt8.ofNat (b.length / 256) :: UInt8.ofNat (b.length / 65536) :: UInt8.ofNat (b.length / 16777216) :: (le4 (crcUpd (crcUpd 0 (le4 b.length)) b) ++ b.take j))), wordOf_le4 _ (by omega)]
    rw [hw, if_pos (by omega)]

/-- A body as it was laid: what is left to read behind its kind and its place. -/
theorem frame_of (s : RS) (k : UInt8) (extra : Bs) (hf : s.frames ≤ 9223372036854775807) : ∃ r, Rem r extra ∧ r.err = 0 ∧ r.xs = bodyF k s.frames extra ∧
    pgFrame s (bodyF k s.frames extra) = pgShut (decide (k.toNat = 4)) (pgKind k.toNat (bodyF k s.frames extra).length s r) := by
  have R0 : Rem (Rdr.new (bodyF k s.frames extra)) (k :: (encNumber s.frames ++ extra)) := Rem.new _
  obtain ⟨r1, e1, R1, h1, x1⟩ := byte_fwd rfl R0
  obtain ⟨r2, e2, R2, h2, x2⟩ := number_fwd h1 (by omega) (by omega) R1
  refine ⟨r2, R2, h2, x2.trans x1, ?_⟩
  unfold pgFrame
  rw [e1]
  simp only [e2]
  rw [if_pos trivial]

theorem shut_nil {over : Bool} {s : RS} {r : Rdr} (h : Rem r []) (he : r.err = 0) : pgShut over (some (s, r)) = some ({ s with frames := s.frames + 1 }, over) := by
  unfold pgShut
  simp only
  rw [end_zero h he, if_pos rfl]
  rfl

theorem fwd_head (s : RS) (n m : Nat) (h0 : s.frames = 0) (h1 : 1 ≤ n) (h2 : n ≤ 281474976710655) (h3 : m ≤ 281474976710655) :
    pgFrame s (bodyF 1 0 (encNumber n ++ encNumber m)) = some ({ s with frames := 1, number := n, mark := m }, false) := by
  obtain ⟨r, R, he, _, hE⟩ := frame_of s 1 (encNumber n ++ encNumber m) (by omega)
  rw [h0] at hE
  rw [hE]
  obtain ⟨r1, e1, R1, h1', _⟩ := number_fwd he (by omega) (by omega) R
  obtain ⟨r2, e2, R2, h2', _⟩ := number_fwd (v := (m : Int)) (ys := []) h1' (by omega) (by omega) (by rw [List.append_nil]; exact R1)
  have hk : pgKind (1 : UInt8).toNat (bodyF 1 0 (encNumber n ++ encNumber m)).length s r = some ({ s with number := n, mark := m }, r2) := by
    unfold pgKind
    rw [if_pos (by rfl)]
    unfold pgHead maxNum
    rw [e1]
    simp only [e2]
    rw [if_pos ⟨h0, by omega, by omega, by omega⟩]
  have e0 : ((0 : Nat) : Int) = 0 := rfl
  rw [hk, shut_nil R2 h2', h0]
  rfl

theorem fwd_proc (s : RS) (p : Prc) (hf : s.frames ≤ 9223372036854775807) (h0 : 0 < s.frames) (he0 : s.entries = []) (hc : (procCheck p).2 = 0) (hv : ∀ x ∈ p.code, i64v x.v) (hn : leS p.name s.name = false) (hl : (procBytes p).length ≤ 9223372036854775807) :
    pgFrame s (bodyF 2 s.frames (encText (procBytes p))) = some ({ s with frames := s.frames + 1, name := p.name, procs := s.procs ++ [p] }, false) := by
  obtain ⟨r, R, he, hx, hE⟩ := frame_of s 2 (encText (procBytes p)) hf
  rw [hE]
  have hlen : (procBytes p).length ≤ r.xs.length := by
    have := R.len
    unfold encText at this
    rw [List.length_append] at this
    omega
  obtain ⟨r1, e1, R1, h1, _⟩ := text_fwd (ys := []) (most := (r.xs.length : Int)) he (by omega) hl (by rw [List.append_nil]; exact R)
  have hd : procDecode (procBytes p) = (p, 0) := by
    have := proc_back hc hv []
    rw [List.append_nil, if_pos rfl] at this
    exact this
  have hk : pgKind (2 : UInt8).toNat (bodyF 2 s.frames (encText (procBytes p))).length s r = some ({ s with name := p.name, procs := s.procs ++ [p] }, r1) := by
    unfold pgKind
    rw [if_neg (by decide), if_pos (by rfl)]
    unfold pgProc
    rw [← hx, e1]
    simp only [hd]
    rw [if_pos ⟨h0, trivial, by rw [he0]; rfl, hn⟩]
  rw [hk, shut_nil R1 h1]
  rfl

theorem ent_fwd (all : Nat) (s : RS) (x : PW) (y : Ent) (r : Rdr) (rest : Bs) (he : r.err = 0) (hall : r.xs.length ≤ all) (hal : all ≤ 9223372036854775807) (R : Rem r (entBytes y ++ rest)) (hy : pwEntE x y = 0) (hk : x.key = s.key) (hv : i64v y.v) :
    ∃ r', pgEnt all s r = some ({ s with key := y.key, entries := s.entries ++ [y] }, r') ∧ Rem r' rest ∧ r'.err = 0 ∧ r'.xs = r.xs := by
  have hlen := R.len
  unfold entBytes encText at hlen
  simp only [List.length_append] at hlen
  unfold entBytes at R
  rw [List.append_assoc] at R
  obtain ⟨r1, e1, R1, h1, x1⟩ := text_fwd (most := (all : Int)) he (by omega) (by omega) R
  obtain ⟨r2, e2, R2, h2, x2⟩ := text_fwd (most := (all : Int)) h1 (by omega) (by omega) R1
  unfold pwEntE at hy
  by_cases hK : isKey y.key = false
  · rw [if_pos hK] at hy; cases hy
  rw [if_neg hK] at hy
  by_cases hC : datumCheck y.v ≠ 0
  · rw [if_pos hC] at hy; exact absurd hy hC
  rw [if_neg hC] at hy
  by_cases hZ : y.v.kind = 0
  · rw [if_pos hZ] at hy; cases hy
  rw [if_neg hZ] at hy
  by_cases hO : leS y.key x.key = true
  · rw [if_pos hO] at hy; cases hy
  refine ⟨r2, ?_, R2, h2, x2.trans x1⟩
  unfold pgEnt
  rw [e1]
  simp only [e2]
  rw [datum_back (by simpa using hC) hv, ofBs_back]
  simp only
  rw [if_pos ⟨trivial, by simpa using hK, by rw [← hk]; simpa using hO, hZ⟩]

theorem ents_fwd (all : Nat) (hal : all ≤ 9223372036854775807) : ∀ (l : List Ent) (s : RS) (x x' : PW) (r : Rdr) (rest : Bs), r.err = 0 → r.xs.length ≤ all → Rem r (l.flatMap entBytes ++ rest) → pwEnts x l = (x', 0) → x.key = s.key → (∀ y ∈ l, i64v y.v) →
    ∃ r', pgEnts all l.length s r = some ({ s with key := x'.key, entries := s.entries ++ l }, r') ∧ Rem r' rest ∧ r'.err = 0 ∧ r'.xs = r.xs
  | [], s, x, x', r, rest, he, _, R, h, hk, _ => by
    obtain rfl : x = x' := congrArg Prod.fst h
    refine ⟨r, ?_, R, he, rfl⟩
    rw [hk, List.append_nil]
    rfl
  | y :: l, s, x, x', r, rest, he, hall, R, h, hk, hv => by
    have hy : pwEntE x y = 0 := by
      by_cases hy : pwEntE x y = 0
      · exact hy
      · rw [pwEnts, if_pos hy] at h
        exact absurd (congrArg Prod.snd h) hy
    rw [pwEnts, if_neg (by simpa using hy)] at h
    rw [List.flatMap_cons, List.append_assoc] at R
    obtain ⟨r1, e1, R1, h1, x1⟩ := ent_fwd all s x y r _ he hall hal R hy hk (hv y (by simp))
    obtain ⟨r2, e2, R2, h2, x2⟩ := ents_fwd all hal l { s with key := y.key, entries := s.entries ++ [y] } (pwEnt x y) x' r1 rest h1 (by rw [x1]; exact hall) R1 h rfl (fun z hz => hv z (by simp [hz]))
    refine ⟨r2, ?_, R2, h2, x2.trans x1⟩
    rw [List.length_cons, pgEnts, e1]
    simp only [e2]
    rw [List.append_assoc]
    rfl

theorem fwd_ents (s : RS) (x x' : PW) (l : List Ent) (hf : s.frames ≤ 9223372036854775807) (h0 : 0 < s.frames) (hl : 1 ≤ l.length) (hl2 : l.length ≤ 128) (h : pwEnts x l = (x', 0)) (hk : x.key = s.key) (hv : ∀ y ∈ l, i64v y.v) (hb : (bodyF 3 s.frames (entsBytes l)).length ≤ 9223372036854775807) :
    pgFrame s (bodyF 3 s.frames (entsBytes l)) = some ({ s with frames := s.frames + 1, key := x'.key, entries := s.entries ++ l }, false) := by
  obtain ⟨r, R, he, hx, hE⟩ := frame_of s 3 (entsBytes l) hf
  rw [hE]
  obtain ⟨r1, e1, R1, h1, x1⟩ := number_fwd he (by omega) (by omega) R
  obtain ⟨r2, e2, R2, h2, x2⟩ := ents_fwd (bodyF 3 s.frames (entsBytes l)).length hb l s x x' r1 [] h1 (by rw [x1, hx]; exact Nat.le_refl _) (by rw [List.append_nil]; exact R1) h hk hv
  have hkk : pgKind (3 : UInt8).toNat (bodyF 3 s.frames (entsBytes l)).length s r = some ({ s with key := x'.key, entries := s.entries ++ l }, r2) := by
    unfold pgKind
    rw [if_neg (by decide), if_neg (by decide), if_pos (by rfl)]
    unfold pgPage
    rw [e1]
    simp only [Int.toNat_natCast]
    rw [if_pos ⟨h0, by omega, by omega⟩, e2]
  rw [hkk, shut_nil R2 h2]
  rfl

theorem fwd_end (s : RS) (hf : s.frames ≤ 9223372036854775807) (h0 : 0 < s.frames) (h1 : s.procs.length ≤ 9223372036854775807) (h2 : s.entries.length ≤ 9223372036854775807) :
    pgFrame s (bodyF 4 s.frames (encNumber s.procs.length ++ encNumber s.entries.length)) = some ({ s with frames := s.frames + 1 }, true) := by
  obtain ⟨r, R, he, _, hE⟩ := frame_of s 4 (encNumber s.procs.length ++ encNumber s.entries.length) hf
  rw [hE]
  obtain ⟨r1, e1, R1, h1', _⟩ := number_fwd he (by omega) (by omega) R
  obtain ⟨r2, e2, R2, h2', _⟩ := number_fwd (v := (s.entries.length : Int)) (ys := []) h1' (by omega) (by omega) (by rw [List.append_nil]; exact R1)
  have hk : pgKind (4 : UInt8).toNat (bodyF 4 s.frames (encNumber s.procs.length ++ encNumber s.entries.length)).length s r = some (s, r2) := by
    unfold pgKind
    rw [if_neg (by decide), if_neg (by decide), if_neg (by decide), if_pos (by rfl)]
    unfold pgEnd
    rw [e1]
    simp only [e2]
    rw [if_pos ⟨h0, trivial, trivial⟩]
  rw [hk, shut_nil R2 h2']
  rfl
end Go.Proofs.YtnieminnnkbneaaGreat
