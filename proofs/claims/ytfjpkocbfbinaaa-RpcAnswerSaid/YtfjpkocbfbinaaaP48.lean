/- The abstract machine, and the contracts of the code: part 48. -/
import Derived.Test.YtfjpkocbfbinaaaP47

section
/- rpc: an answer gone through. -/
namespace Go.Fw
open Go Go.Proofs
set_option linter.unusedVariables false
set_option linter.unusedSimpArgs false

theorem kA_of (c : UInt8) : (c = 1 ∧ kA c = 1) ∨ (c ≠ 1 ∧ c = 2 ∧ kA c = 2) ∨ (c ≠ 1 ∧ c ≠ 2 ∧ c = 5 ∧ kA c = 2) ∨ (c ≠ 1 ∧ c ≠ 2 ∧ c ≠ 5 ∧ c = 9 ∧ kA c = 2) ∨ (c ≠ 1 ∧ c ≠ 2 ∧ c ≠ 5 ∧ c ≠ 9 ∧ c = 3 ∧ kA c = 3) ∨ (c ≠ 1 ∧ c ≠ 2 ∧ c ≠ 5 ∧ c ≠ 9 ∧ c ≠ 3 ∧ c = 4 ∧ kA c = 4) ∨ (c ≠ 1 ∧ c ≠ 2 ∧ c ≠ 5 ∧ c ≠ 9 ∧ c ≠ 3 ∧ c ≠ 4 ∧ c = 6 ∧ kA c = 5) ∨ (c ≠ 1 ∧ c ≠ 2 ∧ c ≠ 5 ∧ c ≠ 9 ∧ c ≠ 3 ∧ c ≠ 4 ∧ c ≠ 6 ∧ c = 7 ∧ kA c = 6) ∨ (c ≠ 1 ∧ c ≠ 2 ∧ c ≠ 5 ∧ c ≠ 9 ∧ c ≠ 3 ∧ c ≠ 4 ∧ c ≠ 6 ∧ c ≠ 7 ∧ c = 8 ∧ kA c = 7) ∨ (c ≠ 1 ∧ c ≠ 2 ∧ c ≠ 5 ∧ c ≠ 9 ∧ c ≠ 3 ∧ c ≠ 4 ∧ c ≠ 6 ∧ c ≠ 7 ∧ c ≠ 8 ∧ c = 10 ∧ kA c = 8) ∨ (c ≠ 1 ∧ c ≠ 2 ∧ c ≠ 5 ∧ c ≠ 9 ∧ c ≠ 3 ∧ c ≠ 4 ∧ c ≠ 6 ∧ c ≠ 7 ∧ c ≠ 8 ∧ c ≠ 10 ∧ kA c = 0) := by
  by_cases h1 : c = 1
  · subst h1; exact .inl ⟨rfl, rfl⟩
  by_cases h2 : c = 2
  · subst h2; exact .inr (.inl ⟨h1, rfl, rfl⟩)
  by_cases h5 : c = 5
  · subst h5; exact .inr (.inr (.inl ⟨h1, h2, rfl, rfl⟩))
  by_cases h9 : c = 9
  · subst h9; exact .inr (.inr (.inr (.inl ⟨h1, h2, h5, rfl, rfl⟩)))
  by_cases h3 : c = 3
  · subst h3; exact .inr (.inr (.inr (.inr (.inl ⟨h1, h2, h5, h9, rfl, rfl⟩))))
  by_cases h4 : c = 4
  · subst h4; exact .inr (.inr (.inr (.inr (.inr (.inl ⟨h1, h2, h5, h9, h3, rfl, rfl⟩)))))
  by_cases h6 : c = 6
  · subst h6; exact .inr (.inr (.inr (.inr (.inr (.inr (.inl ⟨h1, h2, h5, h9, h3, h4, rfl, rfl⟩))))))
  by_cases h7 : c = 7
  · subst h7; exact .inr (.inr (.inr (.inr (.inr (.inr (.inr (.inl ⟨h1, h2, h5, h9, h3, h4, h6, rfl, rfl⟩)))))))
  by_cases h8 : c = 8
  · subst h8; exact .inr (.inr (.inr (.inr (.inr (.inr (.inr (.inr (.inl ⟨h1, h2, h5, h9, h3, h4, h6, h7, rfl, rfl⟩))))))))
  by_cases h10 : c = 10
  · subst h10; exact .inr (.inr (.inr (.inr (.inr (.inr (.inr (.inr (.inr (.inl ⟨h1, h2, h5, h9, h3, h4, h6, h7, h8, rfl, rfl⟩)))))))))
  exact .inr (.inr (.inr (.inr (.inr (.inr (.inr (.inr (.inr (.inr (⟨h1, h2, h5, h9, h3, h4, h6, h7, h8, h10, by unfold kA; simp [h1, h2, h5, h9, h3, h4, h6, h7, h8, h10]⟩))))))))))

/-- An answer that has nothing, as it is read into. -/
def bareN (op : UInt8) : T := .st [.int .u8 (op.toNat : Int), .int .i64 0, .ba 32 (zby 32), .int .u32 0, .ar 4 1 [.int .u64 0, .int .u64 0, .int .u64 0, .int .u64 0], .int .u64 0, .bool false, .by [], .nil, .ar 5 1 [.int .u32 0, .int .u32 0, .int .u32 0, .int .u32 0, .int .u32 0], .nil]
theorem bareN_inj (a b : UInt8) (h : bareN a = bareN b) : a = b := by
  unfold bareN at h
  simp only [T.st.injEq, List.cons.injEq, T.int.injEq, true_and, and_true] at h
  exact n8_inj h
theorem bareN_S (op : UInt8) : Blk.bx (.t (bareN op)) = ansS (bareA op 0) .nil .nil := rfl
/-- An answer's box, its entries or its names in a row of their own. -/
def boxE (a : TA) (k : Nat) (N : T) : Blk := .bx (.st [.t (.int .u8 (a.op.toNat : Int)), .t (.int .i64 a.e), .t (.ba 32 a.name.1), .t (.int .u32 (a.hgt.toNat : Int)), .t (wT a.work), .t (.int .u64 (a.val.toNat : Int)), .t (.bool a.fst), .t (.by a.bts), .own k, .t (.ar 5 1 (a.nums.1.map nT)), .t N])
def boxN (a : TA) (k : Nat) (E : T) : Blk := .bx (.st [.t (.int .u8 (a.op.toNat : Int)), .t (.int .i64 a.e), .t (.ba 32 a.name.1), .t (.int .u32 (a.hgt.toNat : Int)), .t (wT a.work), .t (.int .u64 (a.val.toNat : Int)), .t (.bool a.fst), .t (.by a.bts), .t E, .t (.ar 5 1 (a.nums.1.map nT)), .own k])
/-- What laying an answer leaves. -/
def wA (l : List UInt8) (a : TA) : Nat → Option (List Blk × AV)
  | 0 => some ([.bx (.st [.own 1]), .by l, .bx (.t (aT a))], .tup [])
  | 1 => some ([.bx (.st [.own 3]), .no, .bx (.t (aT a)), .by (l ++ bodyAK 1 a)], .tup [])
  | 2 => some ([.bx (.st [.own 3]), .by l, .bx (.t (aT a)), .by (l ++ bodyAK 2 a)], .tup [])
  | 3 => some ([.bx (.st [.own 3]), .by l, .bx (.t (aT a)), .by (l ++ bodyAK 3 a)], .tup [])
  | 4 => some ([.bx (.st [.own 3]), .by l, .bx (.t (aT a)), .by (l ++ bodyAK 4 a)], .tup [])
  | 5 => some ([.bx (.st [.own 3]), .by l, boxE a 4 (.sq 32 (a.nams.map hT)), .by (l ++ bodyAK 5 a), .sq 69 (a.ents.map eT)], .tup [])
  | 6 => some ([.bx (.st [.own 3]), .by l, .bx (.t (aT a)), .by (l ++ bodyAK 6 a)], .tup [])
  | 7 => some ([.bx (.st [.own 3]), .no, .bx (.t (aT a)), .by (l ++ bodyAK 7 a)], .tup [])
  | 8 => some ([.bx (.st [.own 3]), .by l, boxN a 4 (.sq 69 (a.ents.map eT)), .by (l ++ bodyAK 8 a), .sq 32 (a.nams.map hT)], .tup [])
  | _ => none
/-- What reading an answer leaves. -/
def rA (r : TA × RSt) : Nat → Option (List Blk × AV)
  | 5 => some ([rX r.2, boxE r.1 2 .nil, .sq 69 (r.1.ents.map eT)], .tup [])
  | 8 => some ([rX r.2, boxN r.1 2 .nil, .sq 32 (r.1.nams.map hT)], .tup [])
  | _ => some ([rX r.2, ansS r.1 .nil .nil], .tup [])

noncomputable def G35a : GFun
  | [.bx (.st [.own 1]), .by l, .bx (.t y)], [.st [.clo f1 [.ptr 0 0 []], .clo f2 [.ptr 0 0 []], .clo f3 [.ptr 0 0 []], .clo f4 [.ptr 0 0 []], .clo f5 [.ptr 0 0 []], .clo f6 [.ptr 0 0 []], .clo f7 [.ptr 0 0 []], .clo f8 [.ptr 0 0 []]], .ptr 2 0 []] => match inv aT y with
    | some a => if (f1 = 1000039 ∧ f2 = 1000040 ∧ f3 = 1000041 ∧ f4 = 1000042 ∧ f5 = 1000043 ∧ f6 = 1000044 ∧ f7 = 1000045 ∧ f8 = 1000046) ∧ l.length ≤ 100 ∧ a.bts.length ≤ 1000000 ∧ a.ents.length ≤ 1000 ∧ a.nams.length ≤ 1000 then wA l a (kA a.op) else none
    | none => none
  | [.bx (.t (.st [.by b, .bool w])), .bx (.t y)], [.st [.clo f1 [.ptr 0 0 []], .clo f2 [.ptr 0 0 []], .clo f3 [.ptr 0 0 []], .clo f4 [.ptr 0 0 []], .clo f5 [.ptr 0 0 []], .clo f6 [.ptr 0 0 []], .clo f7 [.ptr 0 0 []], .clo f8 [.ptr 0 0 []]], .ptr 1 0 []] => match inv bareN y with
    | some op => if (f1 = 1000071 ∧ f2 = 1000072 ∧ f3 = 1000073 ∧ f4 = 1000074 ∧ f5 = 1000075 ∧ f6 = 1000076 ∧ f7 = 1000077 ∧ f8 = 1000078) ∧ w = false ∧ b.length ≤ 549755000000 then rA (rdAK op (kA op) ⟨b, 0⟩) (kA op) else none
    | none => none
  | _, _ => none

theorem ct35a : CT [(39, ⟨[true, true], G39a⟩), (40, ⟨[true, true], G40a⟩), (41, ⟨[true, true], G41a⟩), (42, ⟨[true, true], G42a⟩), (43, ⟨[true, true], G43a⟩), (44, ⟨[true, true], G44a⟩), (45, ⟨[true, true], G45a⟩), (46, ⟨[true, false, false], G46a⟩), (57, ⟨[false], treeG F57o⟩), (58, ⟨[true, true], G58a⟩), (59, ⟨[false], treeG F59o⟩), (71, ⟨[true, true], G71a⟩), (72, ⟨[true, true], G72a⟩), (73, ⟨[true, true], G73a⟩), (74, ⟨[true, true], G74a⟩), (75, ⟨[true, true], G75a⟩), (76, ⟨[true, true], G76a⟩), (77, ⟨[true, true], G77a⟩), (78, ⟨[true, false, false], G78a⟩)] [0, 1, 2, 4, 5, 6, 7, 8, 12, 13, 33, 43, 69, 83, 115, 116, 117, 128, 130, 131, 142, 150, 182, 183, 184] [(3, [⟨0, [2], [], []⟩, ⟨1, [15], [], []⟩, ⟨0, [1], [], []⟩, ⟨0, [17], [], []⟩, ⟨0, [18], [], []⟩, ⟨2, [16, 19], [1], []⟩]), (4, [⟨0, [2], [], []⟩, ⟨1, [21], [], []⟩, ⟨0, [1], [], []⟩, ⟨0, [23], [], []⟩, ⟨0, [24], [], []⟩, ⟨2, [22, 25], [1], []⟩]), (5, [⟨0, [2], [], []⟩, ⟨1, [27], [], []⟩, ⟨0, [1], [], []⟩, ⟨0, [29], [], []⟩, ⟨0, [30], [], []⟩, ⟨2, [28, 31], [1], []⟩]), (9, [⟨0, [2], [], []⟩, ⟨1, [37], [], []⟩, ⟨0, [1], [], []⟩, ⟨0, [39], [], []⟩, ⟨0, [40], [], []⟩, ⟨2, [38, 41], [1], []⟩]), (11, [⟨0, [2], [], []⟩, ⟨1, [45], [], []⟩, ⟨0, [1], [], []⟩, ⟨0, [47], [], []⟩, ⟨0, [48], [], []⟩, ⟨2, [46, 49], [1], []⟩]), (12, [⟨0, [2], [], []⟩, ⟨1, [51], [], []⟩, ⟨0, [1], [], []⟩, ⟨0, [53], [], []⟩, ⟨0, [54], [], []⟩, ⟨2, [52, 55], [1], []⟩]), (13, [⟨0, [2], [], []⟩, ⟨1, [57], [], []⟩, ⟨0, [1], [], []⟩, ⟨0, [59], [], []⟩, ⟨0, [60], [], []⟩, ⟨2, [58, 61], [1], []⟩]), (14, [⟨0, [2], [], []⟩, ⟨1, [63], [], []⟩, ⟨0, [1], [], []⟩, ⟨0, [65], [], []⟩, ⟨0, [66], [], []⟩, ⟨2, [64, 67], [1], []⟩]), (16, [⟨0, [2], [], []⟩, ⟨1, [71], [], []⟩, ⟨0, [1], [], []⟩, ⟨0, [73], [], []⟩, ⟨0, [74], [], []⟩, ⟨2, [72, 75], [1], []⟩]), (17, [⟨0, [2], [], []⟩, ⟨1, [77], [], []⟩, ⟨0, [1], [], []⟩, ⟨0, [79], [], []⟩, ⟨0, [80], [], []⟩, ⟨2, [78, 81], [1], []⟩]), (19, [⟨0, [2], [], []⟩, ⟨1, [85], [], []⟩, ⟨0, [1], [], []⟩, ⟨0, [87], [], []⟩, ⟨0, [88], [], []⟩, ⟨1, [89], [], []⟩, ⟨1, [90], [5], []⟩, ⟨2, [86, 91], [1, 5, 6], []⟩, ⟨0, [92], [1, 5, 6, 7], []⟩]), (20, [⟨0, [1], [], []⟩, ⟨0, [1], [], []⟩, ⟨0, [94], [], []⟩, ⟨0, [95], [], []⟩, ⟨1, [96], [], []⟩, ⟨1, [97], [4], []⟩, ⟨0, [4], [], []⟩, ⟨0, [4], [], []⟩, ⟨0, [1], [], []⟩, ⟨0, [101], [], []⟩, ⟨0, [102], [], []⟩, ⟨1, [103], [], []⟩, ⟨1, [104], [11], []⟩, ⟨1, [100, 105], [11, 12], []⟩, ⟨0, [99, 106], [11, 12, 13], []⟩, ⟨2, [98, 107], [4, 5, 11, 12, 13], []⟩, ⟨0, [93], [4, 5, 11, 12, 13, 15], []⟩, ⟨0, [109], [4, 5, 11, 12, 13, 15], []⟩, ⟨2, [108, 110], [4, 5, 11, 12, 13, 15], []⟩]), (24, [⟨1, [2], [], []⟩, ⟨0, [1], [], []⟩, ⟨0, [120], [], []⟩, ⟨0, [121], [], []⟩, ⟨1, [122], [], []⟩, ⟨0, [5], [], []⟩, ⟨1, [123, 124], [4], []⟩, ⟨2, [119, 125], [0, 4, 6], []⟩]), (30, [⟨0, [2], [], []⟩, ⟨1, [133], [], []⟩, ⟨0, [1], [], []⟩, ⟨0, [6], [], []⟩, ⟨0, [135], [], []⟩, ⟨0, [137], [], []⟩, ⟨1, [136, 138], [], []⟩, ⟨2, [134, 139], [1, 6], []⟩]), (33, [⟨0, [2], [], []⟩, ⟨1, [144], [], []⟩, ⟨0, [1], [], []⟩, ⟨0, [146], [], []⟩, ⟨0, [147], [], []⟩, ⟨2, [145, 148], [1], []⟩]), (35, [⟨0, [2], [], []⟩, ⟨1, [152], [], []⟩, ⟨0, [1], [], []⟩, ⟨0, [154], [], []⟩, ⟨0, [155], [], []⟩, ⟨1, [156], [], []⟩, ⟨1, [157], [5], []⟩, ⟨2, [153, 158], [1, 5, 6], []⟩, ⟨0, [159], [1, 5, 6, 7], []⟩]), (36, [⟨0, [1], [], []⟩, ⟨0, [1], [], []⟩, ⟨0, [161], [], []⟩, ⟨0, [162], [], []⟩, ⟨1, [163], [], []⟩, ⟨1, [164], [4], []⟩, ⟨0, [7], [], []⟩, ⟨0, [7], [], []⟩, ⟨0, [1], [], []⟩, ⟨0, [168], [], []⟩, ⟨0, [169], [], []⟩, ⟨1, [170], [], []⟩, ⟨1, [171], [11], []⟩, ⟨1, [167, 172], [11, 12], []⟩, ⟨0, [166, 173], [11, 12, 13], []⟩, ⟨2, [165, 174], [4, 5, 11, 12, 13], []⟩, ⟨0, [160], [4, 5, 11, 12, 13, 15], []⟩, ⟨0, [176], [4, 5, 11, 12, 13, 15], []⟩, ⟨2, [175, 177], [4, 5, 11, 12, 13, 15], []⟩]), (40, [⟨0, [2], [], []⟩, ⟨1, [186], [], []⟩, ⟨0, [1], [], []⟩, ⟨0, [188], [], []⟩, ⟨0, [189], [], []⟩, ⟨1, [190], [], []⟩, ⟨0, [8], [], []⟩, ⟨1, [191, 192], [5], []⟩, ⟨2, [187, 193], [1, 5, 7], []⟩])] := ⟨(.cons g39a (.cons g40a (.cons g41a (.cons g42a (.cons g43a (.cons g44a (.cons g45a (.cons g46a (.cons c57o.g (.cons g58a (.cons c59o.g (.cons g71a (.cons g72a (.cons g73a (.cons g74a (.cons g75a (.cons g76a (.cons g77a (.cons g78a (.nil _))))))))))))))))))))⟩

theorem ansS_aT (a : TA) : Blk.bx (.t (aT a)) = ansS a (.sq 69 (a.ents.map eT)) (.sq 32 (a.nams.map hT)) := rfl
theorem tBts_len9 (b : List UInt8) : (tBts b).2.1.length ≤ b.length := (lim_len b 40000).2
theorem t8_len9 (b : List UInt8) : (t8 b).2.1.length ≤ b.length := spB_len b 1
theorem tFl_len (b : List UInt8) : (tFl b).2.1.length ≤ b.length := by
  have := t8_len9 b
  unfold tFl; split <;> exact this
theorem tCnt_len9 (m : Nat) (b : List UInt8) : (tCnt m b).2.1.length ≤ b.length := bnd_len _ _
theorem rdCnt_le (m : Nat) (s : RSt) : (rd (tCnt m) 0 s).1 ≤ m := cnt_most true m s
theorem rdE_len {s : RSt} {n : Nat} (hs : s.b.length ≤ n) : (rdE s).2.b.length ≤ n := by
  unfold rdE
  dsimp only
  exact sW_len (d := zH) tH_len (sW_len (d := 0) t32_len (rdNum_len (rdNum_len (sW_len (d := 0) t64_len (sW_len (d := 0) t32_len (sW_len (d := zH) tH_len hs))))))
theorem rdE_sW (s : RSt) : (rdE (sW s.b (decide (s.e ≠ 0)))).1 = (rdE s).1 ∧ rX (rdE (sW s.b (decide (s.e ≠ 0)))).2 = rX (rdE s).2 := by
  obtain ⟨b, e⟩ := s
  by_cases he : e = 0
  · subst he; exact ⟨rfl, rfl⟩
  · have h : ∀ e : Int, e ≠ 0 → rdE ⟨b, e⟩ = (dE, ⟨b, e⟩) := fun e he => by
      have r1 : ∀ {α : Type} (t : List UInt8 → α × List UInt8 × Int) (d : α), rd t d ⟨b, e⟩ = (d, ⟨b, e⟩) := fun t d => if_pos he
      have r2 : rdNum ⟨b, e⟩ = (0, ⟨b, e⟩) := by
        unfold rdNum
        rw [r1]; rfl
      unfold rdE
      simp only [r1, r2]; rfl
    have h2 : decide (e ≠ 0) = true := decide_eq_true he
    dsimp only
    rw [h2, h e he]
    have h3 : rdE (sW b true) = (dE, sW b true) := h 1 (by decide)
    rw [h3]
    exact ⟨rfl, by show _ = Blk.bx (.t (.st [.by b, .bool (decide (e ≠ 0))])); rw [h2]; rfl⟩
theorem rep_set (l : List T) (z y : T) {i n : Nat} (hl : l.length = i) (hi : i < n) : (l ++ List.replicate (n - i) z).set i y = l ++ [y] ++ List.replicate (n - (i + 1)) z := by
  rw [List.set_append_right _ _ (by omega), show n - i = (n - (i + 1)) + 1 by omega, List.replicate_succ, hl, Nat.sub_self, List.set_cons_zero, List.append_assoc]; rfl
theorem rep_get (l : List T) (z : T) {i n : Nat} (hl : l.length = i) (hi : i < n) : (l ++ List.replicate (n - i) z).getD i default = z := by
  rw [List.getD_eq_getElem?_getD, List.getElem?_append_right (by omega), hl, Nat.sub_self, List.getElem?_replicate, if_pos (by omega)]; rfl
theorem set_same9 {l : List T} {i : Nat} {y : T} (hi : i < l.length) (h : l.getD i default = y) : l.set i y = l := by
  apply List.ext_getElem?
  intro k
  rw [List.getElem?_set]
  split
  · rename_i hk; subst hk; subst h; simp [hi]
  · rfl
theorem ent_getD (l : List TE) (k : Nat) (h : k < l.length) : (l.map eT).getD k default = eT (l.getD k dE) := by simp [h]
theorem nam_getD (l : List H32) (k : Nat) (h : k < l.length) : (l.map hT).getD k default = hT (l.getD k zH) := by simp [h]

set_option maxRecDepth 20000 in
set_option maxHeartbeats 16000000 in
theorem g35a : GCon Try.prog 35 G35a := by
  refine gconc E_ok (rs := []) Try.func35 rfl Try.ntmps35 (by kernel_rfl) rfl (by decide) G35a (np := 2) ?_ ?_
  · intro HB xs h; unfold G35a; split <;> first | rfl | (simp at h; done)
  intro HB xs H r hG hwf hex
  unfold G35a at hG
  split at hG <;> try (cases hG; done)
  
  · rename_i l y f1 f2 f3 f4 f5 f6 f7 f8
    split at hG <;> try (cases hG; done)
    rename_i a ha
    split at hG
    case isFalse => cases hG
    rename_i hc
    obtain ⟨⟨rfl, rfl, rfl, rfl, rfl, rfl, rfl, rfl⟩, hl, hx, hle, hln⟩ := hc
    obtain rfl := inv_inv ha
    have hn1 := a.name.2
    have hn2 := (wB a.work).2
    have hS := ansS_aT a
    have hop : ∃ c, a.op = c := ⟨_, rfl⟩
    obtain ⟨c, hop⟩ := hop
    rw [hop] at hG
    rw [hS]
    simp only [ansS_eq, hop]
    generalize hE : T.sq 69 (a.ents.map eT) = E
    generalize hN : T.sq 32 (a.nams.map hT) = N
    rcases kA_of c with ⟨a1, hk⟩ | ⟨a1, a2, hk⟩ | ⟨a1, a2, a5, hk⟩ | ⟨a1, a2, a5, a9, hk⟩ | ⟨a1, a2, a5, a9, a3, hk⟩ | ⟨a1, a2, a5, a9, a3, a4, hk⟩ | ⟨a1, a2, a5, a9, a3, a4, a6, hk⟩ | ⟨a1, a2, a5, a9, a3, a4, a6, a7, hk⟩ | ⟨a1, a2, a5, a9, a3, a4, a6, a7, a8, hk⟩ | ⟨a1, a2, a5, a9, a3, a4, a6, a7, a8, a10, hk⟩ | ⟨a1, a2, a5, a9, a3, a4, a6, a7, a8, a10, hk⟩
    · rw [hk] at hG
      simp only [wA] at hG
      cases hG
      have d1 : ((c.toNat : Int) == 1) = true := c8_eq 1 a1
      clear a1
      have w1 := wname_a (l := l) (ansS_name a E N).1 ⟨hn1, by omega⟩
      have w2 := wshort_a (l := l ++ a.name.1) (ansS_hgt a E N).1 (by simp; omega)
      have w3 := wwork_a (l := l ++ a.name.1 ++ le 4 (a.hgt.toNat : Int)) (ansS_work a E N).1 (by simp [le_len]; omega)
      simp only [wOld, wNew, ansS_eq, hop, wT_st] at w1 w2 w3
      simp only [wT_st]
      repeat refine St (And.intro (And.intro @gentry.eq_1 <| @gentry.eq_2) <| And.intro d1 <| And.intro w1 <| And.intro w2 <| And.intro w3 <| @Nat.zero_add) ct35a ?_
      exact Fin (And.intro @aT_st <| And.intro @bodyAK.eq_def <| And.intro @btsB.eq_def <| And.intro @n4B.eq_def <| And.intro @ansS_eq <| And.intro @wT_st <| And.intro hop <| And.intro hE <| And.intro hN <| @List.append_assoc.{0}) [] [0, 1, 2, 6]
    · rw [hk] at hG
      simp only [wA] at hG
      cases hG
      have d1 : ((c.toNat : Int) == 1) = false := c8_ne 1 a1
      have d2 : ((c.toNat : Int) == 2) = true := c8_eq 2 a2
      clear a1 a2
      have w1 := wtext_a (l := l) (ansS_bts a E N).1 (by omega)
      simp only [wOld, wNew, ansS_eq, hop, wT_st] at w1
      simp only [wT_st]
      repeat refine St (And.intro (And.intro @gentry.eq_1 <| @gentry.eq_2) <| And.intro d1 <| And.intro d2 <| And.intro w1 <| @Nat.zero_add) ct35a ?_
      exact Fin (And.intro @aT_st <| And.intro @bodyAK.eq_def <| And.intro @btsB.eq_def <| And.intro @n4B.eq_def <| And.intro @ansS_eq <| And.intro @wT_st <| And.intro hop <| And.intro hE <| And.intro hN <| @List.append_assoc.{0}) [] [0, 1, 2, 4]
    · rw [hk] at hG
      simp only [wA] at hG
      cases hG
      have d1 : ((c.toNat : Int) == 1) = false := c8_ne 1 a1
      have d2 : ((c.toNat : Int) == 2) = false := c8_ne 2 a2
      have d5 : ((c.toNat : Int) == 5) = true := c8_eq 5 a5
      clear a1 a2 a5
      have w1 := wtext_a (l := l) (ansS_bts a E N).1 (by omega)
      simp only [wOld, wNew, ansS_eq, hop, wT_st] at w1
      simp only [wT_st]
      repeat refine St (And.intro (And.intro @gentry.eq_1 <| @gentry.eq_2) <| And.intro d1 <| And.intro d2 <| And.intro d5 <| And.intro w1 <| @Nat.zero_add) ct35a ?_
      exact Fin (And.intro @aT_st <| And.intro @bodyAK.eq_def <| And.intro @btsB.eq_def <| And.intro @n4B.eq_def <| And.intro @ansS_eq <| And.intro @wT_st <| And.intro hop <| And.intro hE <| And.intro hN <| @List.append_assoc.{0}) [] [0, 1, 2, 4]
    · rw [hk] at hG
      simp only [wA] at hG
      cases hG
      have d1 : ((c.toNat : Int) == 1) = false := c8_ne 1 a1
      have d2 : ((c.toNat : Int) == 2) = false := c8_ne 2 a2
      have d5 : ((c.toNat : Int) == 5) = false := c8_ne 5 a5
      have d9 : ((c.toNat : Int) == 9) = true := c8_eq 9 a9
      clear a1 a2 a5 a9
      have w1 := wtext_a (l := l) (ansS_bts a E N).1 (by omega)
      simp only [wOld, wNew, ansS_eq, hop, wT_st] at w1
      simp only [wT_st]
      repeat refine St (And.intro (And.intro @gentry.eq_1 <| @gentry.eq_2) <| And.intro d1 <| And.intro d2 <| And.intro d5 <| And.intro d9 <| And.intro w1 <| @Nat.zero_add) ct35a ?_
      exact Fin (And.intro @aT_st <| And.intro @bodyAK.eq_def <| And.intro @btsB.eq_def <| And.intro @n4B.eq_def <| And.intro @ansS_eq <| And.intro @wT_st <| And.intro hop <| And.intro hE <| And.intro hN <| @List.append_assoc.{0}) [] [0, 1, 2, 4]
    · rw [hk] at hG
      simp only [wA] at hG
      cases hG
      have d1 : ((c.toNat : Int) == 1) = false := c8_ne 1 a1
      have d2 : ((c.toNat : Int) == 2) = false := c8_ne 2 a2
      have d5 : ((c.toNat : Int) == 5) = false := c8_ne 5 a5
      have d9 : ((c.toNat : Int) == 9) = false := c8_ne 9 a9
      have d3 : ((c.toNat : Int) == 3) = true := c8_eq 3 a3
      clear a1 a2 a5 a9 a3
      have w1 := wlong_a (l := l) (ansS_val a E N).1 (by omega)
      have w2 := wshort_a (l := l ++ le 8 (a.val.toNat : Int)) (ansS_hgt a E N).1 (by simp [le_len]; omega)
      have w3 := wflag_a (l := l ++ le 8 (a.val.toNat : Int) ++ le 4 (a.hgt.toNat : Int)) (ansS_fst a E N).1 (by simp [le_len]; omega)
      have w4 := wtext_a (l := l ++ le 8 (a.val.toNat : Int) ++ le 4 (a.hgt.toNat : Int) ++ flagB a.fst) (ansS_bts a E N).1 (by simp [le_len, flagB]; omega)
      simp only [wOld, wNew, ansS_eq, hop, wT_st] at w1 w2 w3 w4
      simp only [wT_st]
      repeat refine St (And.intro (And.intro @gentry.eq_1 <| @gentry.eq_2) <| And.intro d1 <| And.intro d2 <| And.intro d5 <| And.intro d9 <| And.intro d3 <| And.intro w1 <| And.intro w2 <| And.intro w3 <| And.intro w4 <| @Nat.zero_add) ct35a ?_
      exact Fin (And.intro @aT_st <| And.intro @bodyAK.eq_def <| And.intro @btsB.eq_def <| And.intro @n4B.eq_def <| And.intro @ansS_eq <| And.intro @wT_st <| And.intro hop <| And.intro hE <| And.intro hN <| @List.append_assoc.{0}) [] [0, 1, 2, 7]
    · rw [hk] at hG
      simp only [wA] at hG
      cases hG
      have d1 : ((c.toNat : Int) == 1) = false := c8_ne 1 a1
      have d2 : ((c.toNat : Int) == 2) = false := c8_ne 2 a2
      have d5 : ((c.toNat : Int) == 5) = false := c8_ne 5 a5
      have d9 : ((c.toNat : Int) == 9) = false := c8_ne 9 a9
      have d3 : ((c.toNat : Int) == 3) = false := c8_ne 3 a3
      have d4 : ((c.toNat : Int) == 4) = true := c8_eq 4 a4
      clear a1 a2 a5 a9 a3 a4
      have w1 := wlong_a (l := l) (ansS_val a E N).1 (by omega)
      have w2 := wtext_a (l := l ++ le 8 (a.val.toNat : Int)) (ansS_bts a E N).1 (by simp [le_len]; omega)
      simp only [wOld, wNew, ansS_eq, hop, wT_st] at w1 w2
      simp only [wT_st]
      repeat refine St (And.intro (And.intro @gentry.eq_1 <| @gentry.eq_2) <| And.intro d1 <| And.intro d2 <| And.intro d5 <| And.intro d9 <| And.intro d3 <| And.intro d4 <| And.intro w1 <| And.intro w2 <| @Nat.zero_add) ct35a ?_
      exact Fin (And.intro @aT_st <| And.intro @bodyAK.eq_def <| And.intro @btsB.eq_def <| And.intro @n4B.eq_def <| And.intro @ansS_eq <| And.intro @wT_st <| And.intro hop <| And.intro hE <| And.intro hN <| @List.append_assoc.{0}) [] [0, 1, 2, 5]
    · rw [hk] at hG
      simp only [wA] at hG
      cases hG
      have d1 : ((c.toNat : Int) == 1) = false := c8_ne 1 a1
      have d2 : ((c.toNat : Int) == 2) = false := c8_ne 2 a2
      have d5 : ((c.toNat : Int) == 5) = false := c8_ne 5 a5
      have d9 : ((c.toNat : Int) == 9) = false := c8_ne 9 a9
      have d3 : ((c.toNat : Int) == 3) = false := c8_ne 3 a3
      have d4 : ((c.toNat : Int) == 4) = false := c8_ne 4 a4
      have d6 : ((c.toNat : Int) == 6) = true := c8_eq 6 a6
      clear a1 a2 a5 a9 a3 a4 a6
      subst hE
      simp only [wT_st]
      have hsb := sizeB_len (a.ents.length : Int)
      have h0 : G46a [.bx (.st [.own 1]), .by l] [.ptr 0 0 [], .t (.int .i64 (a.ents.length : Int)), .t (.int .i64 200)] = some ([.bx (.st [.own 2]), .by l, .by (l ++ sizeB (a.ents.length : Nat))], .t (.int .i64 (a.ents.length : Int))) := if_pos ⟨by omega, by omega⟩
      have hml : (a.ents.map eT).length = a.ents.length := List.length_map ..
      have h3 : F57o [.sq 69 (a.ents.map eT)] = some ([.sq 69 (a.ents.map eT)], .own 0) := if_pos (by rw [hml]; omega)
      have hcl : ∀ i, (cat entB (a.ents.take i)).length ≤ 88000 := fun i => Nat.le_trans (cat_len entB 88 _ fun x _ => by rw [entB_len]; exact Nat.le_refl _) (by rw [List.length_take]; omega)
      have hmin : min (a.ents.length : Int) (a.ents.length : Int) = (a.ents.length : Int) := Int.min_self _
      have hsub : (a.ents.length : Int) - (a.ents.length : Int) = 0 := Int.sub_self _
      have hEs : True := trivial
      have hz69 : ∀ x : T, List.replicate 0 x = [] := fun _ => rfl
      repeat refine St (And.intro (And.intro @gentry.eq_1 <| @gentry.eq_2) <| And.intro d1 <| And.intro d2 <| And.intro d5 <| And.intro d9 <| And.intro d3 <| And.intro d4 <| And.intro d6 <| And.intro h0 <| And.intro h3 <| And.intro hmin <| And.intro hsub <| And.intro hml <| And.intro hml <| And.intro @aAppendZ.eq_def <| And.intro hz69 <| @List.append_nil.{0}) ct35a ?_
      refine AWP.loop (G := { i : Nat // i ≤ a.ents.length }) (fun i => ⟨[(1, .ptr 2 0 []), (2, .ptr 3 0 []), (115, .t (.int .i64 (a.ents.length : Int))), (116, .t (.int .i64 (i.1 : Int)))], [.bx (.st [.own 4]), .by l, .bx (.st [.t (.int .u8 (c.toNat : Int)), .t (.int .i64 a.e), .t (.ba 32 a.name.1), .t (.int .u32 (a.hgt.toNat : Int)), .t (.ar 4 1 [.int .u64 (a.work.a.toNat : Int), .int .u64 (a.work.b.toNat : Int), .int .u64 (a.work.c.toNat : Int), .int .u64 (a.work.d.toNat : Int)]), .t (.int .u64 (a.val.toNat : Int)), .t (.bool a.fst), .t (.by a.bts), .own 5, .t (.ar 5 1 (a.nums.1.map nT)), .t N]), .bx (.st [.clo 1000039 [.ptr 0 0 []], .clo 1000040 [.ptr 0 0 []], .clo 1000041 [.ptr 0 0 []], .clo 1000042 [.ptr 0 0 []], .clo 1000043 [.ptr 0 0 []], .clo 1000044 [.ptr 0 0 []], .clo 1000045 [.ptr 0 0 []], .clo 1000046 [.ptr 0 0 []]]), .by (l ++ sizeB (a.ents.length : Nat) ++ cat entB (a.ents.take i.1)), .sq 69 (a.ents.map eT)]⟩) (fun i => a.ents.length - i.1) ⟨0, by omega⟩ (Wt (And.intro @List.take_zero.{0} <| And.intro @cat_nil <| @List.append_nil.{0}) [1, 2, 115, 116] [0, 1, 2, 3, 4, 6]) ?_
      rintro ⟨i, hi⟩
      dsimp only
      by_cases hlt : i < a.ents.length
      · have hlt2 : (i : Int) < (a.ents.length : Int) := by omega
        have h1 : G58a [.bx (.st [.own 1]), .by (l ++ sizeB (a.ents.length : Nat) ++ cat entB (a.ents.take i)), .sq 69 (a.ents.map eT)] [.st [.clo 1000039 [.ptr 0 0 []], .clo 1000040 [.ptr 0 0 []], .clo 1000041 [.ptr 0 0 []], .clo 1000042 [.ptr 0 0 []], .clo 1000043 [.ptr 0 0 []], .clo 1000044 [.ptr 0 0 []], .clo 1000045 [.ptr 0 0 []], .clo 1000046 [.ptr 0 0 []]], .ptr 2 (i * 69) [i]] = some ([.bx (.st [.own 3]), .no, .sq 69 (a.ents.map eT), .by (l ++ sizeB (a.ents.length : Nat) ++ cat entB (a.ents.take i) ++ entB (a.ents.getD i dE))], .tup []) := by
          simp only [G58a, ent_getD a.ents i hlt, inv_of eT_inj]
          exact if_pos ⟨⟨trivial, trivial, trivial, trivial⟩, by simpa using hlt, trivial, by have := hcl i; simp; omega⟩
        have h2 := cat_take entB dE a.ents i hlt
        have hw : IntKind.i64.wrap ((i : Int) + 1) = ((i + 1 : Nat) : Int) := by rw [wrap_i64 (by omega) (by omega)]; omega
        repeat refine St (And.intro hlt2 <| And.intro hlt <| And.intro h1 <| And.intro hw <| And.intro hml <| hml) ct35a ?_
        exact ⟨⟨i + 1, by omega⟩, (Wt (And.intro h2 <| @List.append_assoc.{0}) [1, 2, 115, 116] [0, 1, 2, 3, 6, 5]), by simp only; omega⟩
      · obtain rfl : i = a.ents.length := by omega
        have hlt2 : ¬ (a.ents.length : Int) < (a.ents.length : Int) := by omega
        rw [List.take_length]
        repeat refine St hlt2 ct35a ?_
        exact Fin (And.intro @boxE.eq_def <| And.intro @bodyAK.eq_def <| And.intro @wT_st <| And.intro hop <| And.intro hN <| @List.append_assoc.{0}) [] [0, 1, 2, 4, 5]
    · rw [hk] at hG
      simp only [wA] at hG
      cases hG
      have d1 : ((c.toNat : Int) == 1) = false := c8_ne 1 a1
      have d2 : ((c.toNat : Int) == 2) = false := c8_ne 2 a2
      have d5 : ((c.toNat : Int) == 5) = false := c8_ne 5 a5
      have d9 : ((c.toNat : Int) == 9) = false := c8_ne 9 a9
      have d3 : ((c.toNat : Int) == 3) = false := c8_ne 3 a3
      have d4 : ((c.toNat : Int) == 4) = false := c8_ne 4 a4
      have d6 : ((c.toNat : Int) == 6) = false := c8_ne 6 a6
      have d7 : ((c.toNat : Int) == 7) = true := c8_eq 7 a7
      clear a1 a2 a5 a9 a3 a4 a6 a7
      simp only [wT_st]
      have hnl := a.nums.2
      generalize hnu : a.nums.1 = nu at *
      have hAn : ∀ (l : List UInt8) (i : Nat), i < 5 → l.length ≤ 1000000 → G40a [.bx (.st [.own 1]), .by l, ansL a nu E N] [.ptr 0 0 [], .ptr 2 (43 + i) [9, i]] = wNew (ansL a nu E N) l (n4B (nu.getD i 0)) := fun l i hi hl =>
        wshort_a (ansL_num a nu E N (by rw [← hE]; rfl) (by omega) rfl).1 (by omega)
      simp only [wNew, ansL, hop, wT_st] at hAn
      have hcl : ∀ i, i ≤ 5 → (cat n4B (nu.take i)).length ≤ 100 := fun i hi => Nat.le_trans (cat_len n4B 4 _ fun x _ => by simp [n4B, le_len]) (by rw [List.length_take]; omega)
      have hst : ∀ i, i < 5 → cat n4B (nu.take (i + 1)) = cat n4B (nu.take i) ++ n4B (nu.getD i 0) := fun i hi => cat_take n4B 0 nu i (by omega)
      repeat refine St (And.intro (And.intro @gentry.eq_1 <| @gentry.eq_2) <| And.intro d1 <| And.intro d2 <| And.intro d5 <| And.intro d9 <| And.intro d3 <| And.intro d4 <| And.intro d6 <| d7) ct35a ?_
      refine AWP.loop (G := { i : Nat // i ≤ 5 }) (fun i => match i.1 with
          | 0 => ⟨[(1, .ptr 2 0 []), (2, .ptr 3 0 []), (130, .t (.int .i64 0))], [.bx (.st [.own 1]), .by l, .bx (.t (.st [.int .u8 (c.toNat : Int), .int .i64 a.e, .ba 32 a.name.1, .int .u32 (a.hgt.toNat : Int), .ar 4 1 [.int .u64 (a.work.a.toNat : Int), .int .u64 (a.work.b.toNat : Int), .int .u64 (a.work.c.toNat : Int), .int .u64 (a.work.d.toNat : Int)], .int .u64 (a.val.toNat : Int), .bool a.fst, .by a.bts, E, .ar 5 1 (nu.map nT), N])), .bx (.st [.clo 1000039 [.ptr 0 0 []], .clo 1000040 [.ptr 0 0 []], .clo 1000041 [.ptr 0 0 []], .clo 1000042 [.ptr 0 0 []], .clo 1000043 [.ptr 0 0 []], .clo 1000044 [.ptr 0 0 []], .clo 1000045 [.ptr 0 0 []], .clo 1000046 [.ptr 0 0 []]])]⟩
          | i + 1 => ⟨[(1, .ptr 2 0 []), (2, .ptr 3 0 []), (130, .t (.int .i64 ((i + 1 : Nat) : Int)))], [.bx (.st [.own 4]), .by l, .bx (.t (.st [.int .u8 (c.toNat : Int), .int .i64 a.e, .ba 32 a.name.1, .int .u32 (a.hgt.toNat : Int), .ar 4 1 [.int .u64 (a.work.a.toNat : Int), .int .u64 (a.work.b.toNat : Int), .int .u64 (a.work.c.toNat : Int), .int .u64 (a.work.d.toNat : Int)], .int .u64 (a.val.toNat : Int), .bool a.fst, .by a.bts, E, .ar 5 1 (nu.map nT), N])), .bx (.st [.clo 1000039 [.ptr 0 0 []], .clo 1000040 [.ptr 0 0 []], .clo 1000041 [.ptr 0 0 []], .clo 1000042 [.ptr 0 0 []], .clo 1000043 [.ptr 0 0 []], .clo 1000044 [.ptr 0 0 []], .clo 1000045 [.ptr 0 0 []], .clo 1000046 [.ptr 0 0 []]]), .by (l ++ cat n4B (nu.take (i + 1)))]⟩) (fun i => 5 - i.1) ⟨0, by omega⟩ (Wt trivial [1, 2, 130] [0, 1, 2, 3]) ?_
      rintro ⟨i, hi⟩
      dsimp only
      cases i with
      | zero =>
        dsimp only
        have h1 := hAn l 0 (by omega) (by omega)
        have h2 := hst 0 (by omega)
        have h2' : cat n4B (nu.take 1) = n4B (nu.getD 0 0) := h2
        repeat refine St h1 ct35a ?_
        exact ⟨⟨1, by omega⟩, (Wt h2' [1, 2, 130] [0, 1, 2, 3, 4]), by simp only; omega⟩
      | succ i =>
        dsimp only
        by_cases hlt : i + 1 < 5
        · have hlt2 : ((i + 1 : Nat) : Int) < 5 := by omega
          have h1 := hAn (l ++ cat n4B (nu.take (i + 1))) (i + 1) hlt (by have := hcl (i + 1) (by omega); simp; omega)
          have h2 := hst (i + 1) hlt
          have hw : IntKind.i64.wrap (((i + 1 : Nat) : Int) + 1) = ((i + 1 + 1 : Nat) : Int) := by rw [wrap_i64 (by omega) (by omega)]; omega
          repeat refine St (And.intro hlt2 <| And.intro hlt <| And.intro h1 <| hw) ct35a ?_
          exact ⟨⟨i + 1 + 1, by omega⟩, (Wt (And.intro h2 <| @List.append_assoc.{0}) [1, 2, 130] [0, 1, 2, 3, 5]), by simp only; omega⟩
        · obtain rfl : i = 4 := by omega
          have hlt2 : ¬ ((4 + 1 : Nat) : Int) < 5 := by omega
          have hfin : nu.take (4 + 1) = nu := List.take_of_length_le (by omega)
          rw [hfin]
          repeat refine St hlt2 ct35a ?_
          exact Fin (And.intro @aT_st <| And.intro @bodyAK.eq_def <| And.intro @wT_st <| And.intro hop <| And.intro hE <| And.intro hN <| hnu) [] [0, 1, 2, 4]
    · rw [hk] at hG
      simp only [wA] at hG
      cases hG
      have d1 : ((c.toNat : Int) == 1) = false := c8_ne 1 a1
      have d2 : ((c.toNat : Int) == 2) = false := c8_ne 2 a2
      have d5 : ((c.toNat : Int) == 5) = false := c8_ne 5 a5
      have d9 : ((c.toNat : Int) == 9) = false := c8_ne 9 a9
      have d3 : ((c.toNat : Int) == 3) = false := c8_ne 3 a3
      have d4 : ((c.toNat : Int) == 4) = false := c8_ne 4 a4
      have d6 : ((c.toNat : Int) == 6) = false := c8_ne 6 a6
      have d7 : ((c.toNat : Int) == 7) = false := c8_ne 7 a7
      have d8 : ((c.toNat : Int) == 8) = true := c8_eq 8 a8
      clear a1 a2 a5 a9 a3 a4 a6 a7 a8
      have w1 := wname_a (l := l) (ansS_name a E N).1 ⟨hn1, by omega⟩
      simp only [wOld, wNew, ansS_eq, hop, wT_st] at w1
      simp only [wT_st]
      repeat refine St (And.intro (And.intro @gentry.eq_1 <| @gentry.eq_2) <| And.intro d1 <| And.intro d2 <| And.intro d5 <| And.intro d9 <| And.intro d3 <| And.intro d4 <| And.intro d6 <| And.intro d7 <| And.intro d8 <| And.intro w1 <| @Nat.zero_add) ct35a ?_
      exact Fin (And.intro @aT_st <| And.intro @bodyAK.eq_def <| And.intro @btsB.eq_def <| And.intro @n4B.eq_def <| And.intro @ansS_eq <| And.intro @wT_st <| And.intro hop <| And.intro hE <| And.intro hN <| @List.append_assoc.{0}) [] [0, 1, 2, 4]
    · rw [hk] at hG
      simp only [wA] at hG
      cases hG
      have d1 : ((c.toNat : Int) == 1) = false := c8_ne 1 a1
      have d2 : ((c.toNat : Int) == 2) = false := c8_ne 2 a2
      have d5 : ((c.toNat : Int) == 5) = false := c8_ne 5 a5
      have d9 : ((c.toNat : Int) == 9) = false := c8_ne 9 a9
      have d3 : ((c.toNat : Int) == 3) = false := c8_ne 3 a3
      have d4 : ((c.toNat : Int) == 4) = false := c8_ne 4 a4
      have d6 : ((c.toNat : Int) == 6) = false := c8_ne 6 a6
      have d7 : ((c.toNat : Int) == 7) = false := c8_ne 7 a7
      have d8 : ((c.toNat : Int) == 8) = false := c8_ne 8 a8
      have d10 : ((c.toNat : Int) == 10) = true := c8_eq 10 a10
      clear a1 a2 a5 a9 a3 a4 a6 a7 a8 a10
      subst hN
      simp only [wT_st]
      have hsb := sizeB_len (a.nams.length : Int)
      have h0 : G46a [.bx (.st [.own 1]), .by l] [.ptr 0 0 [], .t (.int .i64 (a.nams.length : Int)), .t (.int .i64 100)] = some ([.bx (.st [.own 2]), .by l, .by (l ++ sizeB (a.nams.length : Nat))], .t (.int .i64 (a.nams.length : Int))) := if_pos ⟨by omega, by omega⟩
      have hml : (a.nams.map hT).length = a.nams.length := List.length_map ..
      have h3 : F59o [.sq 32 (a.nams.map hT)] = some ([.sq 32 (a.nams.map hT)], .own 0) := if_pos (by rw [hml]; omega)
      have hcl : ∀ i, (cat hB (a.nams.take i)).length ≤ 88000 := fun i => Nat.le_trans (cat_len hB 88 _ fun x _ => by show x.1.length ≤ 88; have := x.2; omega) (by rw [List.length_take]; omega)
      have hmin : min (a.nams.length : Int) (a.nams.length : Int) = (a.nams.length : Int) := Int.min_self _
      have hsub : (a.nams.length : Int) - (a.nams.length : Int) = 0 := Int.sub_self _
      have hEs : E.size = 1 := by rw [← hE]; rfl
      have hz69 : ∀ x : T, List.replicate 0 x = [] := fun _ => rfl
      repeat refine St (And.intro (And.intro @gentry.eq_1 <| @gentry.eq_2) <| And.intro d1 <| And.intro d2 <| And.intro d5 <| And.intro d9 <| And.intro d3 <| And.intro d4 <| And.intro d6 <| And.intro d7 <| And.intro d8 <| And.intro d10 <| And.intro h0 <| And.intro h3 <| And.intro hmin <| And.intro hsub <| And.intro hEs <| And.intro hml <| And.intro @aAppendZ.eq_def <| And.intro hz69 <| @List.append_nil.{0}) ct35a ?_
      refine AWP.loop (G := { i : Nat // i ≤ a.nams.length }) (fun i => ⟨[(1, .ptr 2 0 []), (2, .ptr 3 0 []), (182, .t (.int .i64 (a.nams.length : Int))), (183, .t (.int .i64 (i.1 : Int)))], [.bx (.st [.own 4]), .by l, .bx (.st [.t (.int .u8 (c.toNat : Int)), .t (.int .i64 a.e), .t (.ba 32 a.name.1), .t (.int .u32 (a.hgt.toNat : Int)), .t (.ar 4 1 [.int .u64 (a.work.a.toNat : Int), .int .u64 (a.work.b.toNat : Int), .int .u64 (a.work.c.toNat : Int), .int .u64 (a.work.d.toNat : Int)]), .t (.int .u64 (a.val.toNat : Int)), .t (.bool a.fst), .t (.by a.bts), .t E, .t (.ar 5 1 (a.nums.1.map nT)), .own 5]), .bx (.st [.clo 1000039 [.ptr 0 0 []], .clo 1000040 [.ptr 0 0 []], .clo 1000041 [.ptr 0 0 []], .clo 1000042 [.ptr 0 0 []], .clo 1000043 [.ptr 0 0 []], .clo 1000044 [.ptr 0 0 []], .clo 1000045 [.ptr 0 0 []], .clo 1000046 [.ptr 0 0 []]]), .by (l ++ sizeB (a.nams.length : Nat) ++ cat hB (a.nams.take i.1)), .sq 32 (a.nams.map hT)]⟩) (fun i => a.nams.length - i.1) ⟨0, by omega⟩ (Wt (And.intro @List.take_zero.{0} <| And.intro @cat_nil <| @List.append_nil.{0}) [1, 2, 182, 183] [0, 1, 2, 3, 4, 6]) ?_
      rintro ⟨i, hi⟩
      dsimp only
      by_cases hlt : i < a.nams.length
      · have hlt2 : (i : Int) < (a.nams.length : Int) := by omega
        have h1 := wname_a (l := l ++ sizeB (a.nams.length : Nat) ++ cat hB (a.nams.take i)) (namS_at (l := a.nams.map hT) (i := i) (off := i * 32) (h := a.nams.getD i zH) (by simpa using hlt) (nam_getD a.nams i hlt) rfl) ⟨(a.nams.getD i zH).2, by have := hcl i; simp; omega⟩
        simp only [wOld] at h1
        rw [show (a.nams.getD i zH).1 = hB (a.nams.getD i zH) from rfl] at h1
        have h2 := cat_take hB zH a.nams i hlt
        have hw : IntKind.i64.wrap ((i : Int) + 1) = ((i + 1 : Nat) : Int) := by rw [wrap_i64 (by omega) (by omega)]; omega
        repeat refine St (And.intro hlt2 <| And.intro hlt <| And.intro h1 <| And.intro hw <| And.intro hml <| hEs) ct35a ?_
        exact ⟨⟨i + 1, by omega⟩, (Wt (And.intro h2 <| @List.append_assoc.{0}) [1, 2, 182, 183] [0, 1, 2, 3, 6, 5]), by simp only; omega⟩
      · obtain rfl : i = a.nams.length := by omega
        have hlt2 : ¬ (a.nams.length : Int) < (a.nams.length : Int) := by omega
        rw [List.take_length]
        repeat refine St hlt2 ct35a ?_
        exact Fin (And.intro @boxN.eq_def <| And.intro @bodyAK.eq_def <| And.intro @wT_st <| And.intro hop <| And.intro hE <| @List.append_assoc.{0}) [] [0, 1, 2, 4, 5]
    · rw [hk] at hG
      simp only [wA] at hG
      cases hG
      have d1 : ((c.toNat : Int) == 1) = false := c8_ne 1 a1
      have d2 : ((c.toNat : Int) == 2) = false := c8_ne 2 a2
      have d5 : ((c.toNat : Int) == 5) = false := c8_ne 5 a5
      have d9 : ((c.toNat : Int) == 9) = false := c8_ne 9 a9
      have d3 : ((c.toNat : Int) == 3) = false := c8_ne 3 a3
      have d4 : ((c.toNat : Int) == 4) = false := c8_ne 4 a4
      have d6 : ((c.toNat : Int) == 6) = false := c8_ne 6 a6
      have d7 : ((c.toNat : Int) == 7) = false := c8_ne 7 a7
      have d8 : ((c.toNat : Int) == 8) = false := c8_ne 8 a8
      have d10 : ((c.toNat : Int) == 10) = false := c8_ne 10 a10
      clear a1 a2 a5 a9 a3 a4 a6 a7 a8 a10
      simp only [wT_st]
      repeat refine St (And.intro (And.intro @gentry.eq_1 <| @gentry.eq_2) <| And.intro d1 <| And.intro d2 <| And.intro d5 <| And.intro d9 <| And.intro d3 <| And.intro d4 <| And.intro d6 <| And.intro d7 <| And.intro d8 <| d10) ct35a ?_
      exact Fin (And.intro @aT_st <| And.intro @ansS_eq <| And.intro @wT_st <| And.intro hop <| And.intro hE <| hN) [] [0, 1, 2]
  · rename_i b w y f1 f2 f3 f4 f5 f6 f7 f8
    split at hG <;> try (cases hG; done)
    rename_i c hc0
    split at hG
    case isFalse => cases hG
    rename_i hc
    obtain ⟨⟨rfl, rfl, rfl, rfl, rfl, rfl, rfl, rfl⟩, rfl, hb⟩ := hc
    obtain rfl := inv_inv hc0
    rw [bareN_S]
    have e0 : Blk.bx (.t (.st [.by b, .bool false])) = .bx (.t (.st [.by (sW b false).b, .bool (decide ((sW b false).e ≠ 0))])) := rfl
    rw [e0]
    have e1 : (⟨b, 0⟩ : RSt) = sW b false := rfl
    rw [e1] at hG
    have hs : (sW b false).b.length ≤ 549755000000 := hb
    generalize sW b false = s at *
    have hzH : zH.1.length = 32 := zH.2
    rcases kA_of c with ⟨a1, hk⟩ | ⟨a1, a2, hk⟩ | ⟨a1, a2, a5, hk⟩ | ⟨a1, a2, a5, a9, hk⟩ | ⟨a1, a2, a5, a9, a3, hk⟩ | ⟨a1, a2, a5, a9, a3, a4, hk⟩ | ⟨a1, a2, a5, a9, a3, a4, a6, hk⟩ | ⟨a1, a2, a5, a9, a3, a4, a6, a7, hk⟩ | ⟨a1, a2, a5, a9, a3, a4, a6, a7, a8, hk⟩ | ⟨a1, a2, a5, a9, a3, a4, a6, a7, a8, a10, hk⟩ | ⟨a1, a2, a5, a9, a3, a4, a6, a7, a8, a10, hk⟩
    · rw [hk] at hG
      simp only [rA, rdAK] at hG
      cases hG
      have d1 : ((c.toNat : Int) == 1) = true := c8_eq 1 a1
      clear a1
      simp only [bareA]
      have q1 := ansS_name ⟨c, 0, zH, 0, zW, 0, false, [], [], zN, []⟩ .nil .nil
      have r1 := rname_a (w := decide (s.e ≠ 0)) (Nat.le_trans hs (show 549755000000 ≤ 549755800000 by omega)) q1.1
      rw [rds (B := ansS ⟨c, 0, zH, 0, zW, 0, false, [], [], zN, []⟩ .nil .nil) tH zH s _ (fun m => ansS ⟨c, 0, m, 0, zW, 0, false, [], [], zN, []⟩ .nil .nil) rfl q1.2] at r1
      have l1 := sW_len (d := zH) tH_len (Nat.le_trans hs (show 549755000000 ≤ 549755800000 by omega))
      generalize rd tH zH s = R1 at *
      obtain ⟨v1, s1⟩ := R1
      dsimp only at r1 l1 ⊢
      have q2 := ansS_hgt ⟨c, 0, v1, 0, zW, 0, false, [], [], zN, []⟩ .nil .nil
      have r2 := rshort_a (w := decide (s1.e ≠ 0)) l1 q2.1
      rw [rds (B := ansS ⟨c, 0, v1, 0, zW, 0, false, [], [], zN, []⟩ .nil .nil) t32 0 s1 _ (fun m => ansS ⟨c, 0, v1, m, zW, 0, false, [], [], zN, []⟩ .nil .nil) rfl q2.2] at r2
      have l2 := sW_len (d := 0) t32_len l1
      generalize rd t32 0 s1 = R2 at *
      obtain ⟨v2, s2⟩ := R2
      dsimp only at r2 l2 ⊢
      have q3 := ansS_work ⟨c, 0, v1, v2, zW, 0, false, [], [], zN, []⟩ .nil .nil
      have r3 := rwork_a (w := decide (s2.e ≠ 0)) l2 q3.1
      rw [q3.2, (rd_sW tH zH s2).1, (rd_sW tH zH s2).2] at r3
      have l3 := sW_len (d := zH) tH_len l2
      generalize rd tH zH s2 = R3 at *
      obtain ⟨v3, s3⟩ := R3
      dsimp only at r3 l3 ⊢
      clear q1 q2 q3
      simp only [ansS_eq, wT_st, rX_st] at r1 r2 r3 ⊢
      repeat refine St (And.intro (And.intro @gentry.eq_1 <| @gentry.eq_2) <| And.intro d1 <| And.intro r1 <| And.intro r2 <| r3) ct35a ?_
      exact Fin trivial [] [0, 1]
    · rw [hk] at hG
      simp only [rA, rdAK] at hG
      cases hG
      have d1 : ((c.toNat : Int) == 1) = false := c8_ne 1 a1
      have d2 : ((c.toNat : Int) == 2) = true := c8_eq 2 a2
      clear a1 a2
      simp only [bareA]
      have q1 := ansS_bts ⟨c, 0, zH, 0, zW, 0, false, [], [], zN, []⟩ .nil .nil
      have r1 := rtext_a (w := decide (s.e ≠ 0)) (Nat.le_trans hs (show 549755000000 ≤ 549755800000 by omega)) q1.1
      rw [rds (B := ansS ⟨c, 0, zH, 0, zW, 0, false, [], [], zN, []⟩ .nil .nil) tBts [] s _ (fun m => ansS ⟨c, 0, zH, 0, zW, 0, false, m, [], zN, []⟩ .nil .nil) rfl q1.2] at r1
      have l1 := sW_len (d := []) tBts_len9 (Nat.le_trans hs (show 549755000000 ≤ 549755800000 by omega))
      generalize rd tBts [] s = R1 at *
      obtain ⟨v1, s1⟩ := R1
      dsimp only at r1 l1 ⊢
      clear q1
      simp only [ansS_eq, wT_st, rX_st] at r1 ⊢
      repeat refine St (And.intro (And.intro @gentry.eq_1 <| @gentry.eq_2) <| And.intro d1 <| And.intro d2 <| r1) ct35a ?_
      exact Fin trivial [] [0, 1]
    · rw [hk] at hG
      simp only [rA, rdAK] at hG
      cases hG
      have d1 : ((c.toNat : Int) == 1) = false := c8_ne 1 a1
      have d2 : ((c.toNat : Int) == 2) = false := c8_ne 2 a2
      have d5 : ((c.toNat : Int) == 5) = true := c8_eq 5 a5
      clear a1 a2 a5
      simp only [bareA]
      have q1 := ansS_bts ⟨c, 0, zH, 0, zW, 0, false, [], [], zN, []⟩ .nil .nil
      have r1 := rtext_a (w := decide (s.e ≠ 0)) (Nat.le_trans hs (show 549755000000 ≤ 549755800000 by omega)) q1.1
      rw [rds (B := ansS ⟨c, 0, zH, 0, zW, 0, false, [], [], zN, []⟩ .nil .nil) tBts [] s _ (fun m => ansS ⟨c, 0, zH, 0, zW, 0, false, m, [], zN, []⟩ .nil .nil) rfl q1.2] at r1
      have l1 := sW_len (d := []) tBts_len9 (Nat.le_trans hs (show 549755000000 ≤ 549755800000 by omega))
      generalize rd tBts [] s = R1 at *
      obtain ⟨v1, s1⟩ := R1
      dsimp only at r1 l1 ⊢
      clear q1
      simp only [ansS_eq, wT_st, rX_st] at r1 ⊢
      repeat refine St (And.intro (And.intro @gentry.eq_1 <| @gentry.eq_2) <| And.intro d1 <| And.intro d2 <| And.intro d5 <| r1) ct35a ?_
      exact Fin trivial [] [0, 1]
    · rw [hk] at hG
      simp only [rA, rdAK] at hG
      cases hG
      have d1 : ((c.toNat : Int) == 1) = false := c8_ne 1 a1
      have d2 : ((c.toNat : Int) == 2) = false := c8_ne 2 a2
      have d5 : ((c.toNat : Int) == 5) = false := c8_ne 5 a5
      have d9 : ((c.toNat : Int) == 9) = true := c8_eq 9 a9
      clear a1 a2 a5 a9
      simp only [bareA]
      have q1 := ansS_bts ⟨c, 0, zH, 0, zW, 0, false, [], [], zN, []⟩ .nil .nil
      have r1 := rtext_a (w := decide (s.e ≠ 0)) (Nat.le_trans hs (show 549755000000 ≤ 549755800000 by omega)) q1.1
      rw [rds (B := ansS ⟨c, 0, zH, 0, zW, 0, false, [], [], zN, []⟩ .nil .nil) tBts [] s _ (fun m => ansS ⟨c, 0, zH, 0, zW, 0, false, m, [], zN, []⟩ .nil .nil) rfl q1.2] at r1
      have l1 := sW_len (d := []) tBts_len9 (Nat.le_trans hs (show 549755000000 ≤ 549755800000 by omega))
      generalize rd tBts [] s = R1 at *
      obtain ⟨v1, s1⟩ := R1
      dsimp only at r1 l1 ⊢
      clear q1
      simp only [ansS_eq, wT_st, rX_st] at r1 ⊢
      repeat refine St (And.intro (And.intro @gentry.eq_1 <| @gentry.eq_2) <| And.intro d1 <| And.intro d2 <| And.intro d5 <| And.intro d9 <| r1) ct35a ?_
      exact Fin trivial [] [0, 1]
    · rw [hk] at hG
      simp only [rA, rdAK] at hG
      cases hG
      have d1 : ((c.toNat : Int) == 1) = false := c8_ne 1 a1
      have d2 : ((c.toNat : Int) == 2) = false := c8_ne 2 a2
      have d5 : ((c.toNat : Int) == 5) = false := c8_ne 5 a5
      have d9 : ((c.toNat : Int) == 9) = false := c8_ne 9 a9
      have d3 : ((c.toNat : Int) == 3) = true := c8_eq 3 a3
      clear a1 a2 a5 a9 a3
      simp only [bareA]
      have q1 := ansS_val ⟨c, 0, zH, 0, zW, 0, false, [], [], zN, []⟩ .nil .nil
      have r1 := rlong_a (w := decide (s.e ≠ 0)) (Nat.le_trans hs (show 549755000000 ≤ 549755800000 by omega)) q1.1
      rw [rds (B := ansS ⟨c, 0, zH, 0, zW, 0, false, [], [], zN, []⟩ .nil .nil) t64 0 s _ (fun m => ansS ⟨c, 0, zH, 0, zW, m, false, [], [], zN, []⟩ .nil .nil) rfl q1.2] at r1
      have l1 := sW_len (d := 0) t64_len (Nat.le_trans hs (show 549755000000 ≤ 549755800000 by omega))
      generalize rd t64 0 s = R1 at *
      obtain ⟨v1, s1⟩ := R1
      dsimp only at r1 l1 ⊢
      have q2 := ansS_hgt ⟨c, 0, zH, 0, zW, v1, false, [], [], zN, []⟩ .nil .nil
      have r2 := rshort_a (w := decide (s1.e ≠ 0)) l1 q2.1
      rw [rds (B := ansS ⟨c, 0, zH, 0, zW, v1, false, [], [], zN, []⟩ .nil .nil) t32 0 s1 _ (fun m => ansS ⟨c, 0, zH, m, zW, v1, false, [], [], zN, []⟩ .nil .nil) rfl q2.2] at r2
      have l2 := sW_len (d := 0) t32_len l1
      generalize rd t32 0 s1 = R2 at *
      obtain ⟨v2, s2⟩ := R2
      dsimp only at r2 l2 ⊢
      have q3 := ansS_fst ⟨c, 0, zH, v2, zW, v1, false, [], [], zN, []⟩ .nil .nil
      have r3 := rflag_a (w := decide (s2.e ≠ 0)) l2 q3.1
      rw [rds (B := ansS ⟨c, 0, zH, v2, zW, v1, false, [], [], zN, []⟩ .nil .nil) tFl false s2 _ (fun m => ansS ⟨c, 0, zH, v2, zW, v1, m, [], [], zN, []⟩ .nil .nil) rfl q3.2] at r3
      have l3 := sW_len (d := false) tFl_len l2
      generalize rd tFl false s2 = R3 at *
      obtain ⟨v3, s3⟩ := R3
      dsimp only at r3 l3 ⊢
      have q4 := ansS_bts ⟨c, 0, zH, v2, zW, v1, v3, [], [], zN, []⟩ .nil .nil
      have r4 := rtext_a (w := decide (s3.e ≠ 0)) l3 q4.1
      rw [rds (B := ansS ⟨c, 0, zH, v2, zW, v1, v3, [], [], zN, []⟩ .nil .nil) tBts [] s3 _ (fun m => ansS ⟨c, 0, zH, v2, zW, v1, v3, m, [], zN, []⟩ .nil .nil) rfl q4.2] at r4
      have l4 := sW_len (d := []) tBts_len9 l3
      generalize rd tBts [] s3 = R4 at *
      obtain ⟨v4, s4⟩ := R4
      dsimp only at r4 l4 ⊢
      clear q1 q2 q3 q4
      simp only [ansS_eq, wT_st, rX_st] at r1 r2 r3 r4 ⊢
      repeat refine St (And.intro (And.intro @gentry.eq_1 <| @gentry.eq_2) <| And.intro d1 <| And.intro d2 <| And.intro d5 <| And.intro d9 <| And.intro d3 <| And.intro r1 <| And.intro r2 <| And.intro r3 <| r4) ct35a ?_
      exact Fin trivial [] [0, 1]
    · rw [hk] at hG
      simp only [rA, rdAK] at hG
      cases hG
      have d1 : ((c.toNat : Int) == 1) = false := c8_ne 1 a1
      have d2 : ((c.toNat : Int) == 2) = false := c8_ne 2 a2
      have d5 : ((c.toNat : Int) == 5) = false := c8_ne 5 a5
      have d9 : ((c.toNat : Int) == 9) = false := c8_ne 9 a9
      have d3 : ((c.toNat : Int) == 3) = false := c8_ne 3 a3
      have d4 : ((c.toNat : Int) == 4) = true := c8_eq 4 a4
      clear a1 a2 a5 a9 a3 a4
      simp only [bareA]
      have q1 := ansS_val ⟨c, 0, zH, 0, zW, 0, false, [], [], zN, []⟩ .nil .nil
      have r1 := rlong_a (w := decide (s.e ≠ 0)) (Nat.le_trans hs (show 549755000000 ≤ 549755800000 by omega)) q1.1
      rw [rds (B := ansS ⟨c, 0, zH, 0, zW, 0, false, [], [], zN, []⟩ .nil .nil) t64 0 s _ (fun m => ansS ⟨c, 0, zH, 0, zW, m, false, [], [], zN, []⟩ .nil .nil) rfl q1.2] at r1
      have l1 := sW_len (d := 0) t64_len (Nat.le_trans hs (show 549755000000 ≤ 549755800000 by omega))
      generalize rd t64 0 s = R1 at *
      obtain ⟨v1, s1⟩ := R1
      dsimp only at r1 l1 ⊢
      have q2 := ansS_bts ⟨c, 0, zH, 0, zW, v1, false, [], [], zN, []⟩ .nil .nil
      have r2 := rtext_a (w := decide (s1.e ≠ 0)) l1 q2.1
      rw [rds (B := ansS ⟨c, 0, zH, 0, zW, v1, false, [], [], zN, []⟩ .nil .nil) tBts [] s1 _ (fun m => ansS ⟨c, 0, zH, 0, zW, v1, false, m, [], zN, []⟩ .nil .nil) rfl q2.2] at r2
      have l2 := sW_len (d := []) tBts_len9 l1
      generalize rd tBts [] s1 = R2 at *
      obtain ⟨v2, s2⟩ := R2
      dsimp only at r2 l2 ⊢
      clear q1 q2
      simp only [ansS_eq, wT_st, rX_st] at r1 r2 ⊢
      repeat refine St (And.intro (And.intro @gentry.eq_1 <| @gentry.eq_2) <| And.intro d1 <| And.intro d2 <| And.intro d5 <| And.intro d9 <| And.intro d3 <| And.intro d4 <| And.intro r1 <| r2) ct35a ?_
      exact Fin trivial [] [0, 1]
    · rw [hk] at hG
      simp only [rA, rdAK] at hG
      cases hG
      have d1 : ((c.toNat : Int) == 1) = false := c8_ne 1 a1
      have d2 : ((c.toNat : Int) == 2) = false := c8_ne 2 a2
      have d5 : ((c.toNat : Int) == 5) = false := c8_ne 5 a5
      have d9 : ((c.toNat : Int) == 9) = false := c8_ne 9 a9
      have d3 : ((c.toNat : Int) == 3) = false := c8_ne 3 a3
      have d4 : ((c.toNat : Int) == 4) = false := c8_ne 4 a4
      have d6 : ((c.toNat : Int) == 6) = true := c8_eq 6 a6
      clear a1 a2 a5 a9 a3 a4 a6
      simp only [bareA]
      have h0 : G78a [.bx (.t (.st [.by s.b, .bool (decide (s.e ≠ 0))]))] [.ptr 0 0 [], .t (.int .i64 0), .t (.int .i64 200)] = some ([rX (rd (tCnt 200) 0 s).2], .t (.int .i64 ((rd (tCnt 200) 0 s).1 : Nat))) := by
        have e := rd_sW (tCnt 200) 0 s
        have e2 : ((200 : Int)).toNat = 200 := rfl
        refine (if_pos ⟨Nat.le_trans hs (show 549755000000 ≤ 549755800000 by omega), by decide, by decide⟩).trans ?_
        rw [e2, e.1, e.2]
      have hn : (rd (tCnt 200) 0 s).1 ≤ 200 := rdCnt_le 200 s
      have ls1 := sW_len (d := 0) (tCnt_len9 200) (Nat.le_trans hs (show 549755000000 ≤ 549755800000 by omega))
      generalize rd (tCnt 200) 0 s = R0 at *
      obtain ⟨n, s1⟩ := R0
      dsimp only at h0 hn ls1 ⊢
      have hlb : ∀ i, (rdN rdE i s1).2.b.length ≤ 549755800000 := fun i => by
        induction i with
        | zero => exact ls1
        | succ i ih => rw [rdN_snoc]; exact rdE_len ih
      have hrd : ∀ i, i < n → G58a [.bx (.t (.st [.by (rdN rdE i s1).2.b, .bool (decide ((rdN rdE i s1).2.e ≠ 0))])), .sq 69 ((rdN rdE i s1).1.map eT ++ List.replicate (n - i) (eT dE))] [.st [.clo 1000071 [.ptr 0 0 []], .clo 1000072 [.ptr 0 0 []], .clo 1000073 [.ptr 0 0 []], .clo 1000074 [.ptr 0 0 []], .clo 1000075 [.ptr 0 0 []], .clo 1000076 [.ptr 0 0 []], .clo 1000077 [.ptr 0 0 []], .clo 1000078 [.ptr 0 0 []]], .ptr 1 (i * 69) [i]] =
          some ([.bx (.t (.st [.by (rdN rdE (i + 1) s1).2.b, .bool (decide ((rdN rdE (i + 1) s1).2.e ≠ 0))])), .sq 69 ((rdN rdE (i + 1) s1).1.map eT ++ List.replicate (n - (i + 1)) (eT dE))], .tup []) := by
        intro i hi
        have hb' := hlb i
        have hli := rdN_len rdE i s1
        rw [rdN_snoc]
        generalize rdN rdE i s1 = R at *
        have hset := rep_set (R.1.map eT) (eT dE) (eT (rdE R.2).1) (i := i) (n := n) (by simp [hli]) hi
        have hget := rep_get (R.1.map eT) (eT dE) (i := i) (n := n) (by simp [hli]) hi
        have hlen : i < (R.1.map eT ++ List.replicate (n - i) (eT dE)).length := by simp [hli]; omega
        have hg : G58a [.bx (.t (.st [.by R.2.b, .bool (decide (R.2.e ≠ 0))])), .sq 69 (R.1.map eT ++ List.replicate (n - i) (eT dE))] [.st [.clo 1000071 [.ptr 0 0 []], .clo 1000072 [.ptr 0 0 []], .clo 1000073 [.ptr 0 0 []], .clo 1000074 [.ptr 0 0 []], .clo 1000075 [.ptr 0 0 []], .clo 1000076 [.ptr 0 0 []], .clo 1000077 [.ptr 0 0 []], .clo 1000078 [.ptr 0 0 []]], .ptr 1 (i * 69) [i]] = some ([rX (rdE (sW R.2.b (decide (R.2.e ≠ 0)))).2, .sq 69 ((R.1.map eT ++ List.replicate (n - i) (eT dE)).set i (eT (rdE (sW R.2.b (decide (R.2.e ≠ 0)))).1))], .tup []) := by
          simp only [G58a]
          exact if_pos ⟨⟨rfl, rfl, rfl, rfl⟩, hlen, rfl, hb', hget⟩
        rw [(rdE_sW R.2).1, (rdE_sW R.2).2, hset] at hg
        rw [hg, List.map_append]; rfl
      have h3 : F57o [.sq 69 []] = some ([.sq 69 []], .own 0) := if_pos (e := none) (show ([] : List T).length ≤ 1000000 by decide)
      have hmin : (if (0 : Int) < (n : Int) then (0 : Int) else (n : Int)) = 0 := by split <;> omega
      have hmn2 : (n : Int) - 0 = (n : Int) := by omega
      have ht : ((n : Nat) : Int).toNat = n := Int.toNat_natCast n
      have hz : T.st [.st [.ba 32 (zby 32), .int .u32 0], .int .u64 0, .int .i64 0, .int .i64 0, .int .u32 0, .ba 32 (zby 32)] = eT dE := rfl
      have i0 : (rdN rdE 0 s1).1.map eT ++ List.replicate (n - 0) (eT dE) = List.replicate n (eT dE) := rfl
      have es1 : s1 = (rdN rdE 0 s1).2 := rfl
      generalize hS5 : (fun i => (rdN rdE i s1).2) = Sf
      have hSf : ∀ i, (rdN rdE i s1).2 = Sf i := fun i => by rw [← hS5]
      have hS0 : s1 = Sf 0 := by rw [← hSf]; rfl
      generalize hL5 : (fun i => (rdN rdE i s1).1.map eT ++ List.replicate (n - i) (eT dE)) = Lf
      have hLf : ∀ i, (rdN rdE i s1).1.map eT ++ List.replicate (n - i) (eT dE) = Lf i := fun i => by rw [← hL5]
      have hL0 : List.replicate n (eT dE) = Lf 0 := by rw [← hLf, i0]
      have hLn : (rdN rdE n s1).1.map eT = Lf n := by rw [← hLf]; simp
      have hLl : ∀ i, i ≤ n → (Lf i).length = n := fun i hi => by rw [← hLf]; simp [rdN_len]; omega
      simp only [hSf, hLf] at hrd
      have hfin : rX (rdN rdE n s1).2 = .bx (.t (.st [.by (Sf n).b, .bool (decide ((Sf n).e ≠ 0))])) := by rw [hSf]
      rw [hfin, hLn]
      rw [rX_st, hS0] at h0
      clear hfin hS5 hL5 hLf hSf es1 i0 hlb hLn e0 e1
      simp only [ansS_eq, wT_st]
      repeat refine St (And.intro (And.intro @gentry.eq_1 <| @gentry.eq_2) <| And.intro d1 <| And.intro d2 <| And.intro d5 <| And.intro d9 <| And.intro d3 <| And.intro d4 <| And.intro d6 <| And.intro h0 <| And.intro h3 <| And.intro hmin <| And.intro hmn2 <| And.intro ht <| And.intro @aAppendZ.eq_def <| And.intro hz <| And.intro hL0 <| @List.nil_append.{0}) ct35a ?_
      have hLl0 := hLl 0 (by omega)
      refine AWP.loop (G := { i : Nat // i ≤ n }) (fun i => ⟨[(1, .ptr 1 0 []), (2, .ptr 2 0 []), (115, .t (.int .i64 (n : Int))), (116, .t (.int .i64 (i.1 : Int)))], [.bx (.t (.st [.by (Sf i.1).b, .bool (decide ((Sf i.1).e ≠ 0))])), .bx (.st [.t (.int .u8 (c.toNat : Int)), .t (.int .i64 0), .t (.ba 32 zH.1), .t (.int .u32 (((0 : UInt32).toNat : Nat) : Int)), .t (.ar 4 1 [.int .u64 (zW.a.toNat : Int), .int .u64 (zW.b.toNat : Int), .int .u64 (zW.c.toNat : Int), .int .u64 (zW.d.toNat : Int)]), .t (.int .u64 (((0 : UInt64).toNat : Nat) : Int)), .t (.bool false), .t (.by []), .own 3, .t (.ar 5 1 (zN.1.map nT)), .t .nil]), .bx (.st [.clo 1000071 [.ptr 0 0 []], .clo 1000072 [.ptr 0 0 []], .clo 1000073 [.ptr 0 0 []], .clo 1000074 [.ptr 0 0 []], .clo 1000075 [.ptr 0 0 []], .clo 1000076 [.ptr 0 0 []], .clo 1000077 [.ptr 0 0 []], .clo 1000078 [.ptr 0 0 []]]), .sq 69 (Lf i.1)]⟩) (fun i => n - i.1) ⟨0, by omega⟩ (Wt (And.intro hLl0 <| hL0) [1, 2, 115, 116] [0, 1, 2, 4]) ?_
      rintro ⟨i, hi⟩
      dsimp only
      have hli := hLl i hi
      by_cases hlt : i < n
      · have hlt2 : (i : Int) < (n : Int) := by omega
        have h1 := hrd i hlt
        have hw : IntKind.i64.wrap ((i : Int) + 1) = ((i + 1 : Nat) : Int) := by rw [wrap_i64 (by omega) (by omega)]; omega
        repeat refine St (And.intro hlt2 <| And.intro hlt <| And.intro h1 <| And.intro hw <| hli) ct35a ?_
        exact ⟨⟨i + 1, by omega⟩, (Wt trivial [1, 2, 115, 116] [0, 1, 2, 3]), by simp only; omega⟩
      · obtain rfl : i = n := by omega
        have hlt2 : ¬ (i : Int) < (i : Int) := by omega
        repeat refine St hlt2 ct35a ?_
        exact Fin (And.intro @boxE.eq_def <| @wT_st) [] [0, 1, 3]
    · rw [hk] at hG
      simp only [rA, rdAK] at hG
      cases hG
      have d1 : ((c.toNat : Int) == 1) = false := c8_ne 1 a1
      have d2 : ((c.toNat : Int) == 2) = false := c8_ne 2 a2
      have d5 : ((c.toNat : Int) == 5) = false := c8_ne 5 a5
      have d9 : ((c.toNat : Int) == 9) = false := c8_ne 9 a9
      have d3 : ((c.toNat : Int) == 3) = false := c8_ne 3 a3
      have d4 : ((c.toNat : Int) == 4) = false := c8_ne 4 a4
      have d6 : ((c.toNat : Int) == 6) = false := c8_ne 6 a6
      have d7 : ((c.toNat : Int) == 7) = true := c8_eq 7 a7
      clear a1 a2 a5 a9 a3 a4 a6 a7
      simp only [bareA]
      have hn5 : ∀ l : List UInt32, l.length = 5 → ansS ⟨c, 0, zH, 0, zW, 0, false, [], [], n5Of l, []⟩ .nil .nil = ansL ⟨c, 0, zH, 0, zW, 0, false, [], [], zN, []⟩ l .nil .nil := fun l h => by rw [ansL_S]; dsimp only; rw [n5Of_val h]; rfl
      rw [hn5 _ (rdN_len _ _ _), ansL_S]
      have hlb : ∀ i, (rdN (rd t32 0) i s).2.b.length ≤ 549755800000 := fun i => by
        induction i with
        | zero => exact Nat.le_trans hs (by omega)
        | succ i ih => rw [rdN_snoc]; exact sW_len (d := 0) t32_len ih
      have hl5 : ∀ i, i ≤ 5 → ((rdN (rd t32 0) i s).1 ++ List.replicate (5 - i) (0 : UInt32)).length = 5 := fun i hi => by simp [rdN_len]; omega
      have hrd : ∀ i, i < 5 → G72a [.bx (.t (.st [.by (rdN (rd t32 0) i s).2.b, .bool (decide ((rdN (rd t32 0) i s).2.e ≠ 0))])), ansL ⟨c, 0, zH, 0, zW, 0, false, [], [], zN, []⟩ ((rdN (rd t32 0) i s).1 ++ List.replicate (5 - i) (0 : UInt32)) .nil .nil] [.ptr 0 0 [], .ptr 1 (43 + i) [9, i]] =
          some ([.bx (.t (.st [.by (rdN (rd t32 0) (i + 1) s).2.b, .bool (decide ((rdN (rd t32 0) (i + 1) s).2.e ≠ 0))])), ansL ⟨c, 0, zH, 0, zW, 0, false, [], [], zN, []⟩ ((rdN (rd t32 0) (i + 1) s).1 ++ List.replicate (5 - (i + 1)) (0 : UInt32)) .nil .nil], .tup []) := by
        intro i hi
        have hll := hl5 i (by omega)
        have hli := rdN_len (rd t32 0) i s
        rw [rdN_snoc]
        generalize hr : rdN (rd t32 0) i s = R at *
        have hb' := hlb i
        rw [hr] at hb'
        have q := ansL_num ⟨c, 0, zH, 0, zW, 0, false, [], [], zN, []⟩ (R.1 ++ List.replicate (5 - i) (0 : UInt32)) .nil .nil rfl (i := i) (off := 43 + i) (by omega) rfl
        have r := rshort_a (w := decide (R.2.e ≠ 0)) hb' q.1
        have hset : ∀ m : UInt32, (R.1 ++ List.replicate (5 - i) (0 : UInt32)).set i m = R.1 ++ [m] ++ List.replicate (5 - (i + 1)) 0 := fun m => by
          rw [List.set_append_right _ _ (by omega), show 5 - i = (5 - (i + 1)) + 1 by omega, List.replicate_succ, hli, Nat.sub_self, List.set_cons_zero, List.append_assoc]; rfl
        rw [rds (B := ansL ⟨c, 0, zH, 0, zW, 0, false, [], [], zN, []⟩ (R.1 ++ List.replicate (5 - i) (0 : UInt32)) .nil .nil) t32 0 R.2 _ (fun m => ansL ⟨c, 0, zH, 0, zW, 0, false, [], [], zN, []⟩ (R.1 ++ [m] ++ List.replicate (5 - (i + 1)) 0) .nil .nil) (by (try dsimp only); rw [← hset 0]; congr 1; rw [show 5 - i = (5 - (i + 1)) + 1 by omega, List.replicate_succ, List.set_append_right _ _ (by omega), hli, Nat.sub_self, List.set_cons_zero]) (fun m => by rw [q.2 m, hset m])] at r
        exact r
      have z5 : ansL ⟨c, 0, zH, 0, zW, 0, false, [], [], zN, []⟩ zN.1 .nil .nil = ansL ⟨c, 0, zH, 0, zW, 0, false, [], [], zN, []⟩ ((rdN (rd t32 0) 0 s).1 ++ List.replicate (5 - 0) (0 : UInt32)) .nil .nil := rfl
      rw [z5]
      have f5 : (rdN (rd t32 0) 5 s).1 = (rdN (rd t32 0) 5 s).1 ++ List.replicate (5 - 5) (0 : UInt32) := by simp
      rw [f5]
      have es : s = (rdN (rd t32 0) 0 s).2 := rfl
      generalize hL : (fun i => (rdN (rd t32 0) i s).1 ++ List.replicate (5 - i) (0 : UInt32)) = Lf
      have hLf : ∀ i, (rdN (rd t32 0) i s).1 ++ List.replicate (5 - i) (0 : UInt32) = Lf i := fun i => by rw [← hL]
      generalize hS5 : (fun i => (rdN (rd t32 0) i s).2) = Sf
      have hSf : ∀ i, (rdN (rd t32 0) i s).2 = Sf i := fun i => by rw [← hS5]
      have es0 : s = Sf 0 := by rw [← hSf]; rfl
      simp only [hLf, hSf] at hrd ⊢
      rw [es0]
      simp only [ansL, wT_st, rX_st] at hrd ⊢
      clear hL hS5 hLf hSf es0 es f5 z5 hl5 hlb hn5 e0 e1
      repeat refine St (And.intro (And.intro @gentry.eq_1 <| @gentry.eq_2) <| And.intro d1 <| And.intro d2 <| And.intro d5 <| And.intro d9 <| And.intro d3 <| And.intro d4 <| And.intro d6 <| d7) ct35a ?_
      refine AWP.loop (G := { i : Nat // i ≤ 5 }) (fun i => ⟨[(1, .ptr 1 0 []), (2, .ptr 2 0 []), (130, .t (.int .i64 (i.1 : Int)))], [.bx (.t (.st [.by (Sf i.1).b, .bool (decide ((Sf i.1).e ≠ 0))])), .bx (.t (.st [.int .u8 (c.toNat : Int), .int .i64 0, .ba 32 zH.1, .int .u32 (((0 : UInt32).toNat : Nat) : Int), .ar 4 1 [.int .u64 (zW.a.toNat : Int), .int .u64 (zW.b.toNat : Int), .int .u64 (zW.c.toNat : Int), .int .u64 (zW.d.toNat : Int)], .int .u64 (((0 : UInt64).toNat : Nat) : Int), .bool false, .by [], .nil, .ar 5 1 ((Lf i.1).map nT), .nil])), .bx (.st [.clo 1000071 [.ptr 0 0 []], .clo 1000072 [.ptr 0 0 []], .clo 1000073 [.ptr 0 0 []], .clo 1000074 [.ptr 0 0 []], .clo 1000075 [.ptr 0 0 []], .clo 1000076 [.ptr 0 0 []], .clo 1000077 [.ptr 0 0 []], .clo 1000078 [.ptr 0 0 []]])]⟩) (fun i => 5 - i.1) ⟨0, by omega⟩ (Wt trivial [1, 2, 130] [0, 1, 2]) ?_
      rintro ⟨i, hi⟩
      dsimp only
      by_cases hlt : i < 5
      · have hlt2 : (i : Int) < 5 := by omega
        have h1 := hrd i hlt
        have hw : IntKind.i64.wrap ((i : Int) + 1) = ((i + 1 : Nat) : Int) := by rw [wrap_i64 (by omega) (by omega)]; omega
        repeat refine St (And.intro hlt2 <| And.intro hlt <| And.intro h1 <| hw) ct35a ?_
        exact ⟨⟨i + 1, by omega⟩, (Wt trivial [1, 2, 130] [0, 1, 2]), by simp only; omega⟩
      · obtain rfl : i = 5 := by omega
        have hlt2 : ¬ ((5 : Nat) : Int) < 5 := by omega
        repeat refine St hlt2 ct35a ?_
        exact Fin trivial [] [0, 1]
    · rw [hk] at hG
      simp only [rA, rdAK] at hG
      cases hG
      have d1 : ((c.toNat : Int) == 1) = false := c8_ne 1 a1
      have d2 : ((c.toNat : Int) == 2) = false := c8_ne 2 a2
      have d5 : ((c.toNat : Int) == 5) = false := c8_ne 5 a5
      have d9 : ((c.toNat : Int) == 9) = false := c8_ne 9 a9
      have d3 : ((c.toNat : Int) == 3) = false := c8_ne 3 a3
      have d4 : ((c.toNat : Int) == 4) = false := c8_ne 4 a4
      have d6 : ((c.toNat : Int) == 6) = false := c8_ne 6 a6
      have d7 : ((c.toNat : Int) == 7) = false := c8_ne 7 a7
      have d8 : ((c.toNat : Int) == 8) = true := c8_eq 8 a8
      clear a1 a2 a5 a9 a3 a4 a6 a7 a8
      simp only [bareA]
      have q1 := ansS_name ⟨c, 0, zH, 0, zW, 0, false, [], [], zN, []⟩ .nil .nil
      have r1 := rname_a (w := decide (s.e ≠ 0)) (Nat.le_trans hs (show 549755000000 ≤ 549755800000 by omega)) q1.1
      rw [rds (B := ansS ⟨c, 0, zH, 0, zW, 0, false, [], [], zN, []⟩ .nil .nil) tH zH s _ (fun m => ansS ⟨c, 0, m, 0, zW, 0, false, [], [], zN, []⟩ .nil .nil) rfl q1.2] at r1
      have l1 := sW_len (d := zH) tH_len (Nat.le_trans hs (show 549755000000 ≤ 549755800000 by omega))
      generalize rd tH zH s = R1 at *
      obtain ⟨v1, s1⟩ := R1
      dsimp only at r1 l1 ⊢
      clear q1
      simp only [ansS_eq, wT_st, rX_st] at r1 ⊢
      repeat refine St (And.intro (And.intro @gentry.eq_1 <| @gentry.eq_2) <| And.intro d1 <| And.intro d2 <| And.intro d5 <| And.intro d9 <| And.intro d3 <| And.intro d4 <| And.intro d6 <| And.intro d7 <| And.intro d8 <| r1) ct35a ?_
      exact Fin trivial [] [0, 1]
    · rw [hk] at hG
      simp only [rA, rdAK] at hG
      cases hG
      have d1 : ((c.toNat : Int) == 1) = false := c8_ne 1 a1
      have d2 : ((c.toNat : Int) == 2) = false := c8_ne 2 a2
      have d5 : ((c.toNat : Int) == 5) = false := c8_ne 5 a5
      have d9 : ((c.toNat : Int) == 9) = false := c8_ne 9 a9
      have d3 : ((c.toNat : Int) == 3) = false := c8_ne 3 a3
      have d4 : ((c.toNat : Int) == 4) = false := c8_ne 4 a4
      have d6 : ((c.toNat : Int) == 6) = false := c8_ne 6 a6
      have d7 : ((c.toNat : Int) == 7) = false := c8_ne 7 a7
      have d8 : ((c.toNat : Int) == 8) = false := c8_ne 8 a8
      have d10 : ((c.toNat : Int) == 10) = true := c8_eq 10 a10
      clear a1 a2 a5 a9 a3 a4 a6 a7 a8 a10
      simp only [bareA]
      have h0 : G78a [.bx (.t (.st [.by s.b, .bool (decide (s.e ≠ 0))]))] [.ptr 0 0 [], .t (.int .i64 0), .t (.int .i64 100)] = some ([rX (rd (tCnt 100) 0 s).2], .t (.int .i64 ((rd (tCnt 100) 0 s).1 : Nat))) := by
        have e := rd_sW (tCnt 100) 0 s
        have e2 : ((100 : Int)).toNat = 100 := rfl
        refine (if_pos ⟨Nat.le_trans hs (show 549755000000 ≤ 549755800000 by omega), by decide, by decide⟩).trans ?_
        rw [e2, e.1, e.2]
      have hn : (rd (tCnt 100) 0 s).1 ≤ 100 := rdCnt_le 100 s
      have ls1 := sW_len (d := 0) (tCnt_len9 100) (Nat.le_trans hs (show 549755000000 ≤ 549755800000 by omega))
      generalize rd (tCnt 100) 0 s = R0 at *
      obtain ⟨n, s1⟩ := R0
      dsimp only at h0 hn ls1 ⊢
      have hlb : ∀ i, (rdN (rd tH zH) i s1).2.b.length ≤ 549755800000 := fun i => by
        induction i with
        | zero => exact ls1
        | succ i ih => rw [rdN_snoc]; exact sW_len (d := zH) tH_len ih
      have hrd : ∀ i, i < n → G71a [.bx (.t (.st [.by (rdN (rd tH zH) i s1).2.b, .bool (decide ((rdN (rd tH zH) i s1).2.e ≠ 0))])), .sq 32 ((rdN (rd tH zH) i s1).1.map hT ++ List.replicate (n - i) (hT zH))] [.ptr 0 0 [], .ptr 1 (i * 32) [i]] =
          some ([.bx (.t (.st [.by (rdN (rd tH zH) (i + 1) s1).2.b, .bool (decide ((rdN (rd tH zH) (i + 1) s1).2.e ≠ 0))])), .sq 32 ((rdN (rd tH zH) (i + 1) s1).1.map hT ++ List.replicate (n - (i + 1)) (hT zH))], .tup []) := by
        intro i hi
        have hb' := hlb i
        have hli := rdN_len (rd tH zH) i s1
        rw [rdN_snoc]
        generalize rdN (rd tH zH) i s1 = R at *
        have hset := fun m => rep_set (R.1.map hT) (hT zH) (hT m) (i := i) (n := n) (by simp [hli]) hi
        have hget := rep_get (R.1.map hT) (hT zH) (i := i) (n := n) (by simp [hli]) hi
        have hlen : i < (R.1.map hT ++ List.replicate (n - i) (hT zH)).length := by simp [hli]; omega
        have r := rname_a (w := decide (R.2.e ≠ 0)) (v := zH) hb' (namS_at (off := i * 32) hlen hget rfl)
        rw [rds (B := .sq 32 (R.1.map hT ++ List.replicate (n - i) (hT zH))) tH zH R.2 _ (fun m => .sq 32 (R.1.map hT ++ [hT m] ++ List.replicate (n - (i + 1)) (hT zH))) (by (try dsimp only); rw [← hset zH, set_same9 hlen hget]) (fun m => by rw [namS_set, hset m])] at r
        rw [r, List.map_append]; rfl
      have h3 : F59o [.sq 32 []] = some ([.sq 32 []], .own 0) := if_pos (e := none) (show ([] : List T).length ≤ 1000000 by decide)
      have hmin : (if (0 : Int) < (n : Int) then (0 : Int) else (n : Int)) = 0 := by split <;> omega
      have hmn2 : (n : Int) - 0 = (n : Int) := by omega
      have ht : ((n : Nat) : Int).toNat = n := Int.toNat_natCast n
      have hz : T.ba 32 (zby 32) = hT zH := rfl
      have i0 : (rdN (rd tH zH) 0 s1).1.map hT ++ List.replicate (n - 0) (hT zH) = List.replicate n (hT zH) := rfl
      have es1 : s1 = (rdN (rd tH zH) 0 s1).2 := rfl
      generalize hS5 : (fun i => (rdN (rd tH zH) i s1).2) = Sf
      have hSf : ∀ i, (rdN (rd tH zH) i s1).2 = Sf i := fun i => by rw [← hS5]
      have hS0 : s1 = Sf 0 := by rw [← hSf]; rfl
      generalize hL5 : (fun i => (rdN (rd tH zH) i s1).1.map hT ++ List.replicate (n - i) (hT zH)) = Lf
      have hLf : ∀ i, (rdN (rd tH zH) i s1).1.map hT ++ List.replicate (n - i) (hT zH) = Lf i := fun i => by rw [← hL5]
      have hL0 : List.replicate n (hT zH) = Lf 0 := by rw [← hLf, i0]
      have hLn : (rdN (rd tH zH) n s1).1.map hT = Lf n := by rw [← hLf]; simp
      have hLl : ∀ i, i ≤ n → (Lf i).length = n := fun i hi => by rw [← hLf]; simp [rdN_len]; omega
      simp only [hSf, hLf] at hrd
      have hfin : rX (rdN (rd tH zH) n s1).2 = .bx (.t (.st [.by (Sf n).b, .bool (decide ((Sf n).e ≠ 0))])) := by rw [hSf]
      rw [hfin, hLn]
      rw [rX_st, hS0] at h0
      clear hfin hS5 hL5 hLf hSf es1 i0 hlb hLn e0 e1
      simp only [ansS_eq, wT_st]
      repeat refine St (And.intro (And.intro @gentry.eq_1 <| @gentry.eq_2) <| And.intro d1 <| And.intro d2 <| And.intro d5 <| And.intro d9 <| And.intro d3 <| And.intro d4 <| And.intro d6 <| And.intro d7 <| And.intro d8 <| And.intro d10 <| And.intro h0 <| And.intro h3 <| And.intro hmin <| And.intro hmn2 <| And.intro ht <| And.intro @aAppendZ.eq_def <| And.intro hz <| And.intro hL0 <| @List.nil_append.{0}) ct35a ?_
      have hLl0 := hLl 0 (by omega)
      refine AWP.loop (G := { i : Nat // i ≤ n }) (fun i => ⟨[(1, .ptr 1 0 []), (2, .ptr 2 0 []), (182, .t (.int .i64 (n : Int))), (183, .t (.int .i64 (i.1 : Int)))], [.bx (.t (.st [.by (Sf i.1).b, .bool (decide ((Sf i.1).e ≠ 0))])), .bx (.st [.t (.int .u8 (c.toNat : Int)), .t (.int .i64 0), .t (.ba 32 zH.1), .t (.int .u32 (((0 : UInt32).toNat : Nat) : Int)), .t (.ar 4 1 [.int .u64 (zW.a.toNat : Int), .int .u64 (zW.b.toNat : Int), .int .u64 (zW.c.toNat : Int), .int .u64 (zW.d.toNat : Int)]), .t (.int .u64 (((0 : UInt64).toNat : Nat) : Int)), .t (.bool false), .t (.by []), .t .nil, .t (.ar 5 1 (zN.1.map nT)), .own 3]), .bx (.st [.clo 1000071 [.ptr 0 0 []], .clo 1000072 [.ptr 0 0 []], .clo 1000073 [.ptr 0 0 []], .clo 1000074 [.ptr 0 0 []], .clo 1000075 [.ptr 0 0 []], .clo 1000076 [.ptr 0 0 []], .clo 1000077 [.ptr 0 0 []], .clo 1000078 [.ptr 0 0 []]]), .sq 32 (Lf i.1)]⟩) (fun i => n - i.1) ⟨0, by omega⟩ (Wt (And.intro hLl0 <| hL0) [1, 2, 182, 183] [0, 1, 2, 4]) ?_
      rintro ⟨i, hi⟩
      dsimp only
      have hli := hLl i hi
      by_cases hlt : i < n
      · have hlt2 : (i : Int) < (n : Int) := by omega
        have h1 := hrd i hlt
        have hw : IntKind.i64.wrap ((i : Int) + 1) = ((i + 1 : Nat) : Int) := by rw [wrap_i64 (by omega) (by omega)]; omega
        repeat refine St (And.intro hlt2 <| And.intro hlt <| And.intro h1 <| And.intro hw <| hli) ct35a ?_
        exact ⟨⟨i + 1, by omega⟩, (Wt trivial [1, 2, 182, 183] [0, 1, 2, 3]), by simp only; omega⟩
      · obtain rfl : i = n := by omega
        have hlt2 : ¬ (i : Int) < (i : Int) := by omega
        repeat refine St hlt2 ct35a ?_
        exact Fin (And.intro @boxN.eq_def <| @wT_st) [] [0, 1, 3]
    · rw [hk] at hG
      simp only [rA, rdAK] at hG
      cases hG
      have d1 : ((c.toNat : Int) == 1) = false := c8_ne 1 a1
      have d2 : ((c.toNat : Int) == 2) = false := c8_ne 2 a2
      have d5 : ((c.toNat : Int) == 5) = false := c8_ne 5 a5
      have d9 : ((c.toNat : Int) == 9) = false := c8_ne 9 a9
      have d3 : ((c.toNat : Int) == 3) = false := c8_ne 3 a3
      have d4 : ((c.toNat : Int) == 4) = false := c8_ne 4 a4
      have d6 : ((c.toNat : Int) == 6) = false := c8_ne 6 a6
      have d7 : ((c.toNat : Int) == 7) = false := c8_ne 7 a7
      have d8 : ((c.toNat : Int) == 8) = false := c8_ne 8 a8
      have d10 : ((c.toNat : Int) == 10) = false := c8_ne 10 a10
      clear a1 a2 a5 a9 a3 a4 a6 a7 a8 a10
      simp only [bareA]
      simp only [ansS_eq, wT_st, rX_st]
      repeat refine St (And.intro (And.intro @gentry.eq_1 <| @gentry.eq_2) <| And.intro d1 <| And.intro d2 <| And.intro d5 <| And.intro d9 <| And.intro d3 <| And.intro d4 <| And.intro d6 <| And.intro d7 <| And.intro d8 <| d10) ct35a ?_
      exact Fin @bareA.eq_def [] [0, 1]

end Go.Fw

end

section
/- rpc: rows compared, answers compared. -/
namespace Go.Fw
open Go Go.Proofs
set_option linter.unusedVariables false
set_option linter.unusedSimpArgs false

def entsT (l : List TE) : T := .sq 69 (l.map eT)
def namsT (l : List H32) : T := .sq 32 (l.map hT)
theorem entsT_inj (a b : List TE) (h : entsT a = entsT b) : a = b := by unfold entsT at h; simp only [T.sq.injEq, true_and] at h; exact map_inj eT_inj _ _ h
theorem namsT_inj (a b : List H32) (h : namsT a = namsT b) : a = b := by unfold namsT at h; simp only [T.sq.injEq, true_and] at h; exact map_inj hT_inj _ _ h
theorem entE_getD (l : List TE) (k : Nat) (h : k < l.length) : (l.map eT).getD k default = eT (l.getD k dE) := by simp [h]
theorem namE_getD (l : List H32) (k : Nat) (h : k < l.length) : (l.map hT).getD k default = hT (l.getD k zH) := by simp [h]
theorem n32_beq (a b : UInt32) : ((a.toNat : Int) == (b.toNat : Int)) = decide (a = b) := by
  by_cases h : a = b
  · subst h; rw [decide_eq_true rfl]; exact beq_self_eq_true _
  · rw [decide_eq_false h, beq_eq_false_iff_ne]; exact fun hh => h (n32_inj hh)
theorem n64_beq (a b : UInt64) : ((a.toNat : Int) == (b.toNat : Int)) = decide (a = b) := by
  by_cases h : a = b
  · subst h; rw [decide_eq_true rfl]; exact beq_self_eq_true _
  · rw [decide_eq_false h, beq_eq_false_iff_ne]; exact fun hh => h (n64_inj hh)
theorem h32_beq (a b : H32) : (a.1 == b.1) = decide (a = b) := by
  by_cases h : a = b
  · subst h; rw [decide_eq_true rfl]; exact beq_self_eq_true _
  · rw [decide_eq_false h, beq_eq_false_iff_ne]; exact fun hh => h (Subtype.ext hh)
theorem int_beq (a b : Int) : (a == b) = decide (a = b) := by
  by_cases h : a = b
  · subst h; rw [decide_eq_true rfl]; exact beq_self_eq_true _
  · rw [decide_eq_false h, beq_eq_false_iff_ne]; exact h
theorem ent_beq (x y : TE) : (((x.tx.1 == y.tx.1) && ((x.idx.toNat : Int) == (y.idx.toNat : Int))) && (((x.val.toNat : Int) == (y.val.toNat : Int)) && ((x.plan == y.plan) && ((x.state == y.state) && (((x.hgt.toNat : Int) == (y.hgt.toNat : Int)) && (x.tpl.1 == y.tpl.1)))))) = decide (x = y) := by
  rw [h32_beq, n32_beq, n64_beq, int_beq, int_beq, n32_beq, h32_beq]
  obtain ⟨a1, a2, a3, a4, a5, a6, a7⟩ := x
  obtain ⟨b1, b2, b3, b4, b5, b6, b7⟩ := y
  simp only [Bool.and_true, TE.mk.injEq]
  rw [Bool.eq_iff_iff]
  simp only [Bool.and_eq_true, decide_eq_true_eq, and_assoc]

noncomputable def F60 : Fun
  | [x, y] => match inv entsT x, inv entsT y with
    | some l, some m => some ([], .t (.bool (decide (l = m))))
    | _, _ => none
  | _ => none

theorem ct60 : CT [] [0, 1, 4, 5, 10, 12, 13, 14, 24] [(6, [⟨0, [0], [], []⟩, ⟨0, [5], [], []⟩, ⟨1, [16, 17], [], []⟩, ⟨1, [18], [2], []⟩, ⟨0, [1], [], []⟩, ⟨0, [5], [], []⟩, ⟨1, [20, 21], [], []⟩, ⟨1, [22], [6], []⟩, ⟨0, [19, 23], [2, 3, 6, 7], []⟩])] := ⟨GClOk.nil _⟩

set_option maxHeartbeats 2000000 in
theorem c60 : ACon Try.prog 60 F60 := by
  refine aconc E_ok (rs := [.tmp 4 4]) Try.func60 rfl Try.ntmps60 (by kernel_rfl) rfl (by decide) F60 (np := 2) ?_ ?_
  · intro ts h; unfold F60; split <;> first | rfl | (simp at h; done)
  intro ts H r hF hwf
  unfold F60 at hF
  split at hF <;> try (cases hF; done)
  split at hF <;> try (cases hF; done)
  rename_i l m hl hm
  cases hF
  have hwl := hwf _ (List.mem_cons_self ..)
  obtain rfl := inv_inv hl
  obtain rfl := inv_inv hm
  dsimp only [entsT]
  have ml : (l.map eT).length = l.length := List.length_map ..
  have mm : (m.map eT).length = m.length := List.length_map ..
  have hlm : l.length ≤ 9223372036854775807 := by
    have := hwl
    simp only [entsT, T.wf, List.length_map] at this
    have h2 := this.2.1
    unfold maxLen at h2
    omega
  by_cases hne : l.length = m.length
  case neg =>
    have hd : decide (l = m) = false := decide_eq_false fun h => hne (by rw [h])
    rw [hd]
    have hb : ((l.length : Int) != (m.length : Int)) = true := by rw [bne_iff_ne]; omega
    repeat refine St (And.intro ml <| And.intro mm <| hb) ct60 ?_
    exact AWP.ret (Fin trivial [] [])
  have hb : ((l.length : Int) != (m.length : Int)) = false := by rw [bne_eq_false_iff_eq]; omega
  repeat refine St (And.intro ml <| And.intro mm <| hb) ct60 ?_
  refine AWP.loop (G := { i : Nat // i ≤ l.length ∧ l.take i = m.take i }) (fun i => ⟨[(0, .t (.sq 69 (l.map eT))), (1, .t (.sq 69 (m.map eT))), (12, .t (.int .i64 (l.length : Int))), (13, .t (.int .i64 (i.1 : Int)))], []⟩) (fun i => l.length - i.1) ⟨0, by omega, rfl⟩ (Wt ml [0, 1, 12, 13] []) ?_
  rintro ⟨i, hi, hti⟩
  dsimp only
  by_cases hlt : i < l.length
  · have hlt2 : (i : Int) < (l.length : Int) := by omega
    have hltm : i < m.length := by omega
    have g1 := entE_getD l i hlt
    have g2 := entE_getD m i hltm
    have hw : IntKind.i64.wrap ((i : Int) + 1) = ((i + 1 : Nat) : Int) := by rw [wrap_i64 (by omega) (by omega)]; omega
    have hx1 : ∀ x : TE, x = x := fun _ => rfl
    obtain ⟨x, hx⟩ : ∃ x, l.getD i dE = x := ⟨_, rfl⟩
    obtain ⟨y, hy⟩ : ∃ y, m.getD i dE = y := ⟨_, rfl⟩
    rw [hx] at g1
    rw [hy] at g2
    have hcmp := ent_beq x y
    have hs1 := x.tx.2
    have hs2 := x.tpl.2
    have hs3 := y.tx.2
    have hs4 := y.tpl.2
    rw [eT_st] at g1 g2
    by_cases hxy : x = y
    · rw [decide_eq_true hxy] at hcmp
      repeat refine St (And.intro hlt2 <| And.intro hlt <| And.intro hltm <| And.intro ml <| And.intro mm <| And.intro g1 <| And.intro g2 <| And.intro hcmp <| And.intro hw <| And.intro hs1 <| And.intro hs2 <| And.intro hs3 <| hs4) ct60 ?_
      exact ⟨⟨i + 1, by omega, take_eq_succ dE hlt hltm hti (by rw [hx, hy]; exact hxy)⟩, (Wt trivial [0, 1, 12, 13] []), by simp only; omega⟩
    · rw [decide_eq_false hxy] at hcmp
      have hd : decide (l = m) = false := decide_eq_false fun h => hxy (by rw [← hx, ← hy, h])
      rw [hd]
      repeat refine St (And.intro hlt2 <| And.intro hlt <| And.intro hltm <| And.intro ml <| And.intro mm <| And.intro g1 <| And.intro g2 <| And.intro hcmp <| And.intro hs1 <| And.intro hs2 <| And.intro hs3 <| hs4) ct60 ?_
      exact AWP.ret (Fin trivial [] [])
  · obtain rfl : i = l.length := by omega
    have hlt2 : ¬ (l.length : Int) < (l.length : Int) := by omega
    have hd : decide (l = m) = true := decide_eq_true (take_eq_all hne hti)
    rw [hd]
    repeat refine St hlt2 ct60 ?_
    exact AWP.ret (Fin trivial [] [])

noncomputable def F61 : Fun
  | [x, y] => match inv namsT x, inv namsT y with
    | some l, some m => some ([], .t (.bool (decide (l = m))))
    | _, _ => none
  | _ => none

theorem ct61 : CT [] [0, 1, 4, 5, 10, 12, 13, 14, 24] [(6, [⟨0, [0], [], []⟩, ⟨0, [5], [], []⟩, ⟨1, [16, 17], [], []⟩, ⟨1, [18], [2], []⟩, ⟨0, [1], [], []⟩, ⟨0, [5], [], []⟩, ⟨1, [20, 21], [], []⟩, ⟨1, [22], [6], []⟩, ⟨0, [19, 23], [2, 3, 6, 7], []⟩])] := ⟨GClOk.nil _⟩

set_option maxHeartbeats 2000000 in
theorem c61 : ACon Try.prog 61 F61 := by
  refine aconc E_ok (rs := [.tmp 4 4]) Try.func61 rfl Try.ntmps61 (by kernel_rfl) rfl (by decide) F61 (np := 2) ?_ ?_
  · intro ts h; unfold F61; split <;> first | rfl | (simp at h; done)
  intro ts H r hF hwf
  unfold F61 at hF
  split at hF <;> try (cases hF; done)
  split at hF <;> try (cases hF; done)
  rename_i l m hl hm
  cases hF
  have hwl := hwf _ (List.mem_cons_self ..)
  obtain rfl := inv_inv hl
  obtain rfl := inv_inv hm
  dsimp only [namsT]
  have ml : (l.map hT).length = l.length := List.length_map ..
  have mm : (m.map hT).length = m.length := List.length_map ..
  have hlm : l.length ≤ 9223372036854775807 := by
    have := hwl
    simp only [namsT, T.wf, List.length_map] at this
    have h2 := this.2.1
    unfold maxLen at h2
    omega
  by_cases hne : l.length = m.length
  case neg =>
    have hd : decide (l = m) = false := decide_eq_false fun h => hne (by rw [h])
    rw [hd]
    have hb : ((l.length : Int) != (m.length : Int)) = true := by rw [bne_iff_ne]; omega
    repeat refine St (And.intro ml <| And.intro mm <| hb) ct61 ?_
    exact AWP.ret (Fin trivial [] [])
  have hb : ((l.length : Int) != (m.length : Int)) = false := by rw [bne_eq_false_iff_eq]; omega
  repeat refine St (And.intro ml <| And.intro mm <| hb) ct61 ?_
  refine AWP.loop (G := { i : Nat // i ≤ l.length ∧ l.take i = m.take i }) (fun i => ⟨[(0, .t (.sq 32 (l.map hT))), (1, .t (.sq 32 (m.map hT))), (12, .t (.int .i64 (l.length : Int))), (13, .t (.int .i64 (i.1 : Int)))], []⟩) (fun i => l.length - i.1) ⟨0, by omega, rfl⟩ (Wt ml [0, 1, 12, 13] []) ?_
  rintro ⟨i, hi, hti⟩
  dsimp only
  by_cases hlt : i < l.length
  · have hlt2 : (i : Int) < (l.length : Int) := by omega
    have hltm : i < m.length := by omega
    have g1 := namE_getD l i hlt
    have g2 := namE_getD m i hltm
    have hw : IntKind.i64.wrap ((i : Int) + 1) = ((i + 1 : Nat) : Int) := by rw [wrap_i64 (by omega) (by omega)]; omega
    have hx1 : ∀ x : H32, x = x := fun _ => rfl
    obtain ⟨x, hx⟩ : ∃ x, l.getD i zH = x := ⟨_, rfl⟩
    obtain ⟨y, hy⟩ : ∃ y, m.getD i zH = y := ⟨_, rfl⟩
    rw [hx] at g1
    rw [hy] at g2
    have hcmp := h32_beq x y
    have hs1 := x.2
    have hs2 := y.2
    rw [show ∀ h : H32, hT h = .ba 32 h.1 from fun _ => rfl] at g1 g2
    by_cases hxy : x = y
    · rw [decide_eq_true hxy] at hcmp
      repeat refine St (And.intro hlt2 <| And.intro hlt <| And.intro hltm <| And.intro ml <| And.intro mm <| And.intro g1 <| And.intro g2 <| And.intro hcmp <| And.intro hw <| And.intro hs1 <| hs2) ct61 ?_
      exact ⟨⟨i + 1, by omega, take_eq_succ zH hlt hltm hti (by rw [hx, hy]; exact hxy)⟩, (Wt trivial [0, 1, 12, 13] []), by simp only; omega⟩
    · rw [decide_eq_false hxy] at hcmp
      have hd : decide (l = m) = false := decide_eq_false fun h => hxy (by rw [← hx, ← hy, h])
      rw [hd]
      repeat refine St (And.intro hlt2 <| And.intro hlt <| And.intro hltm <| And.intro ml <| And.intro mm <| And.intro g1 <| And.intro g2 <| And.intro hcmp <| And.intro hs1 <| hs2) ct61 ?_
      exact AWP.ret (Fin trivial [] [])
  · obtain rfl : i = l.length := by omega
    have hlt2 : ¬ (l.length : Int) < (l.length : Int) := by omega
    have hd : decide (l = m) = true := decide_eq_true (take_eq_all hne hti)
    rw [hd]
    repeat refine St hlt2 ct61 ?_
    exact AWP.ret (Fin trivial [] [])

theorem eqe_c (l m : List TE) : F60 [.sq 69 (l.map eT), .sq 69 (m.map eT)] = some ([], .t (.bool (decide (l = m)))) := by
  have e1 : ∀ l, T.sq 69 (l.map eT) = entsT l := fun _ => rfl
  rw [e1, e1]
  simp only [F60, inv_of entsT_inj]
theorem eqn_c (l m : List H32) : F61 [.sq 32 (l.map hT), .sq 32 (m.map hT)] = some ([], .t (.bool (decide (l = m)))) := by
  have e1 : ∀ l, T.sq 32 (l.map hT) = namsT l := fun _ => rfl
  rw [e1, e1]
  simp only [F61, inv_of namsT_inj]

end Go.Fw

end

section
/- rpc: answers compared. -/
namespace Go.Fw
open Go Go.Proofs
set_option linter.unusedVariables false
set_option linter.unusedSimpArgs false

theorem w4_beq (x y : W4) : (((x.a.toNat : Int) == (y.a.toNat : Int)) && (((x.b.toNat : Int) == (y.b.toNat : Int)) && (((x.c.toNat : Int) == (y.c.toNat : Int)) && ((x.d.toNat : Int) == (y.d.toNat : Int))))) = decide (x = y) := by
  rw [n64_beq, n64_beq, n64_beq, n64_beq]
  obtain ⟨a1, a2, a3, a4⟩ := x
  obtain ⟨b1, b2, b3, b4⟩ := y
  simp only [W4.mk.injEq]
  rw [Bool.eq_iff_iff]
  simp only [Bool.and_eq_true, decide_eq_true_eq, and_assoc]
theorem n5_ex (u : N5) : ∃ a b c d e, u = ⟨[a, b, c, d, e], rfl⟩ := by
  obtain ⟨l, hl⟩ := u
  match l, hl with
  | [a, b, c, d, e], _ => exact ⟨a, b, c, d, e, rfl⟩
theorem n5_beq (a b c d e a' b' c' d' e' : UInt32) : (((a.toNat : Int) == (a'.toNat : Int)) && (((b.toNat : Int) == (b'.toNat : Int)) && (((c.toNat : Int) == (c'.toNat : Int)) && (((d.toNat : Int) == (d'.toNat : Int)) && ((e.toNat : Int) == (e'.toNat : Int)))))) = decide ((⟨[a, b, c, d, e], rfl⟩ : N5) = ⟨[a', b', c', d', e'], rfl⟩) := by
  rw [n32_beq, n32_beq, n32_beq, n32_beq, n32_beq, Bool.eq_iff_iff]
  simp only [Bool.and_eq_true, decide_eq_true_eq, Subtype.mk.injEq, List.cons.injEq, and_true]
theorem n8_beq (a b : UInt8) : ((a.toNat : Int) == (b.toNat : Int)) = decide (a = b) := by
  by_cases h : a = b
  · subst h; rw [decide_eq_true rfl]; exact beq_self_eq_true _
  · rw [decide_eq_false h, beq_eq_false_iff_ne]; exact fun hh => h (n8_inj hh)
theorem bool_beq (a b : Bool) : (a == b) = decide (a = b) := by cases a <;> cases b <;> rfl
theorem by_beq (a b : List UInt8) : (a == b) = decide (a = b) := by
  by_cases h : a = b
  · subst h; rw [decide_eq_true rfl]; exact beq_self_eq_true _
  · rw [decide_eq_false h, beq_eq_false_iff_ne]; exact h

theorem lapp1 (l : List Oper) : List.append [] l = l := rfl
theorem lapp2 (x : Oper) (l m : List Oper) : List.append (x :: l) m = x :: List.append l m := rfl

noncomputable def F36 : Fun
  | [x, y] => match inv aT x, inv aT y with
    | some a, some b => some ([], .t (.bool (decide (a = b))))
    | _, _ => none
  | _ => none

theorem ct36 : CT [(49, ⟨[false, false], treeG F49⟩), (60, ⟨[false, false], treeG F60⟩), (61, ⟨[false, false], treeG F61⟩)] [0, 1, 2, 3, 4] [] := ⟨(.cons c49.g (.cons c60.g (.cons c61.g (.nil _))))⟩

set_option maxRecDepth 20000 in
set_option maxHeartbeats 8000000 in
theorem c36 : ACon Try.prog 36 F36 := by
  refine aconc E_ok (rs := [.tmp 4 4]) Try.func36 rfl Try.ntmps36 (by kernel_rfl) rfl (by decide) F36 (np := 2) ?_ ?_
  · intro ts h; unfold F36; split <;> first | rfl | (simp at h; done)
  intro ts H r hF hwf
  unfold F36 at hF
  split at hF <;> try (cases hF; done)
  split at hF <;> try (cases hF; done)
  rename_i a b ha hb
  cases hF
  obtain rfl := inv_inv ha
  obtain rfl := inv_inv hb
  clear ha hb hwf
  obtain ⟨o, e, n, g, w, v, f, x, E, u, N⟩ := a
  obtain ⟨o', e', n', g', w', v', f', x', E', u', N'⟩ := b
  rw [aT_st, aT_st]
  dsimp only
  have hn1 := n.2
  have hn2 := n'.2
  obtain ⟨u0, u1, u2, u3, u4, hu⟩ := n5_ex u
  obtain ⟨y0, y1, y2, y3, y4, hu'⟩ := n5_ex u'
  subst hu
  subst hu'
  simp only [wT, List.map, nT]
  have hbe : F49 [.by x, .by x'] = some ([], .t (.bool (x == x'))) := rfl
  have hee := eqe_c E E'
  have hne := eqn_c N N'
  have b1 := n8_beq o o'
  have b2 := int_beq e e'
  have b3 := h32_beq n n'
  have b4 := n32_beq g g'
  have b5 := w4_beq w w'
  have b6 := n64_beq v v'
  have b7 := bool_beq f f'
  have b8 := n5_beq u0 u1 u2 u3 u4 y0 y1 y2 y3 y4
  have b9 := by_beq x x'
  generalize hA : (⟨[u0, u1, u2, u3, u4], rfl⟩ : N5) = u at *
  generalize hB : (⟨[y0, y1, y2, y3, y4], rfl⟩ : N5) = u' at *
  rw [b9] at hbe
  clear hA hB b9
  by_cases k0 : o = o'
  case neg =>
    rw [decide_eq_false k0] at b1
    have hd : decide ((⟨o, e, n, g, w, v, f, x, E, u, N⟩ : TA) = ⟨o', e', n', g', w', v', f', x', E', u', N'⟩) = false := decide_eq_false fun hh => k0 (TA.mk.inj hh).1
    rw [hd]
    repeat refine St (And.intro @lapp1 <| And.intro @lapp2 <| And.intro hn1 <| And.intro hn2 <| b1) ct36 ?_
    exact AWP.ret (Fin trivial [] [])
  rw [decide_eq_true k0] at b1
  by_cases k1 : e = e'
  case neg =>
    rw [decide_eq_false k1] at b2
    have hd : decide ((⟨o, e, n, g, w, v, f, x, E, u, N⟩ : TA) = ⟨o', e', n', g', w', v', f', x', E', u', N'⟩) = false := decide_eq_false fun hh => k1 (TA.mk.inj hh).2.1
    rw [hd]
    repeat refine St (And.intro @lapp1 <| And.intro @lapp2 <| And.intro hn1 <| And.intro hn2 <| And.intro b1 <| b2) ct36 ?_
    exact AWP.ret (Fin trivial [] [])
  rw [decide_eq_true k1] at b2
  by_cases k2 : n = n'
  case neg =>
    rw [decide_eq_false k2] at b3
    have hd : decide ((⟨o, e, n, g, w, v, f, x, E, u, N⟩ : TA) = ⟨o', e', n', g', w', v', f', x', E', u', N'⟩) = false := decide_eq_false fun hh => k2 (TA.mk.inj hh).2.2.1
    rw [hd]
    repeat refine St (And.intro @lapp1 <| And.intro @lapp2 <| And.intro hn1 <| And.intro hn2 <| And.intro b1 <| And.intro b2 <| b3) ct36 ?_
    exact AWP.ret (Fin trivial [] [])
  rw [decide_eq_true k2] at b3
  by_cases k3 : g = g'
  case neg =>
    rw [decide_eq_false k3] at b4
    have hd : decide ((⟨o, e, n, g, w, v, f, x, E, u, N⟩ : TA) = ⟨o', e', n', g', w', v', f', x', E', u', N'⟩) = false := decide_eq_false fun hh => k3 (TA.mk.inj hh).2.2.2.1
    rw [hd]
    repeat refine St (And.intro @lapp1 <| And.intro @lapp2 <| And.intro hn1 <| And.intro hn2 <| And.intro b1 <| And.intro b2 <| And.intro b3 <| b4) ct36 ?_
    exact AWP.ret (Fin trivial [] [])
  rw [decide_eq_true k3] at b4
  by_cases k4 : w = w'
  case neg =>
    rw [decide_eq_false k4] at b5
    have hd : decide ((⟨o, e, n, g, w, v, f, x, E, u, N⟩ : TA) = ⟨o', e', n', g', w', v', f', x', E', u', N'⟩) = false := decide_eq_false fun hh => k4 (TA.mk.inj hh).2.2.2.2.1
    rw [hd]
    repeat refine St (And.intro @lapp1 <| And.intro @lapp2 <| And.intro hn1 <| And.intro hn2 <| And.intro b1 <| And.intro b2 <| And.intro b3 <| And.intro b4 <| b5) ct36 ?_
    exact AWP.ret (Fin trivial [] [])
  rw [decide_eq_true k4] at b5
  by_cases k5 : v = v'
  case neg =>
    rw [decide_eq_false k5] at b6
    have hd : decide ((⟨o, e, n, g, w, v, f, x, E, u, N⟩ : TA) = ⟨o', e', n', g', w', v', f', x', E', u', N'⟩) = false := decide_eq_false fun hh => k5 (TA.mk.inj hh).2.2.2.2.2.1
    rw [hd]
    repeat refine St (And.intro @lapp1 <| And.intro @lapp2 <| And.intro hn1 <| And.intro hn2 <| And.intro b1 <| And.intro b2 <| And.intro b3 <| And.intro b4 <| And.intro b5 <| b6) ct36 ?_
    exact AWP.ret (Fin trivial [] [])
  rw [decide_eq_true k5] at b6
  by_cases k6 : f = f'
  case neg =>
    rw [decide_eq_false k6] at b7
    have hd : decide ((⟨o, e, n, g, w, v, f, x, E, u, N⟩ : TA) = ⟨o', e', n', g', w', v', f', x', E', u', N'⟩) = false := decide_eq_false fun hh => k6 (TA.mk.inj hh).2.2.2.2.2.2.1
    rw [hd]
    repeat refine St (And.intro @lapp1 <| And.intro @lapp2 <| And.intro hn1 <| And.intro hn2 <| And.intro b1 <| And.intro b2 <| And.intro b3 <| And.intro b4 <| And.intro b5 <| And.intro b6 <| b7) ct36 ?_
    exact AWP.ret (Fin trivial [] [])
  rw [decide_eq_true k6] at b7
  by_cases k7 : u = u'
  case neg =>
    rw [decide_eq_false k7] at b8
    have hd : decide ((⟨o, e, n, g, w, v, f, x, E, u, N⟩ : TA) = ⟨o', e', n', g', w', v', f', x', E', u', N'⟩) = false := decide_eq_false fun hh => k7 (TA.mk.inj hh).2.2.2.2.2.2.2.2.2.1
    rw [hd]
    repeat refine St (And.intro @lapp1 <| And.intro @lapp2 <| And.intro hn1 <| And.intro hn2 <| And.intro b1 <| And.intro b2 <| And.intro b3 <| And.intro b4 <| And.intro b5 <| And.intro b6 <| And.intro b7 <| b8) ct36 ?_
    exact AWP.ret (Fin trivial [] [])
  rw [decide_eq_true k7] at b8
  by_cases k8 : x = x'
  case neg =>
    rw [decide_eq_false k8] at hbe
    have hd : decide ((⟨o, e, n, g, w, v, f, x, E, u, N⟩ : TA) = ⟨o', e', n', g', w', v', f', x', E', u', N'⟩) = false := decide_eq_false fun hh => k8 (TA.mk.inj hh).2.2.2.2.2.2.2.1
    rw [hd]
    repeat refine St (And.intro @lapp1 <| And.intro @lapp2 <| And.intro hn1 <| And.intro hn2 <| And.intro b1 <| And.intro b2 <| And.intro b3 <| And.intro b4 <| And.intro b5 <| And.intro b6 <| And.intro b7 <| And.intro b8 <| hbe) ct36 ?_
    exact AWP.ret (Fin trivial [] [])
  rw [decide_eq_true k8] at hbe
  by_cases k9 : E = E'
  case neg =>
    rw [decide_eq_false k9] at hee
    have hd : decide ((⟨o, e, n, g, w, v, f, x, E, u, N⟩ : TA) = ⟨o', e', n', g', w', v', f', x', E', u', N'⟩) = false := decide_eq_false fun hh => k9 (TA.mk.inj hh).2.2.2.2.2.2.2.2.1
    rw [hd]
    repeat refine St (And.intro @lapp1 <| And.intro @lapp2 <| And.intro hn1 <| And.intro hn2 <| And.intro b1 <| And.intro b2 <| And.intro b3 <| And.intro b4 <| And.intro b5 <| And.intro b6 <| And.intro b7 <| And.intro b8 <| And.intro hbe <| hee) ct36 ?_
    exact AWP.ret (Fin trivial [] [])
  rw [decide_eq_true k9] at hee
  by_cases k10 : N = N'
  case neg =>
    rw [decide_eq_false k10] at hne
    have hd : decide ((⟨o, e, n, g, w, v, f, x, E, u, N⟩ : TA) = ⟨o', e', n', g', w', v', f', x', E', u', N'⟩) = false := decide_eq_false fun hh => k10 (TA.mk.inj hh).2.2.2.2.2.2.2.2.2.2
    rw [hd]
    repeat refine St (And.intro @lapp1 <| And.intro @lapp2 <| And.intro hn1 <| And.intro hn2 <| And.intro b1 <| And.intro b2 <| And.intro b3 <| And.intro b4 <| And.intro b5 <| And.intro b6 <| And.intro b7 <| And.intro b8 <| And.intro hbe <| And.intro hee <| hne) ct36 ?_
    exact AWP.ret (Fin trivial [] [])
  rw [decide_eq_true k10] at hne
  have hd : decide ((⟨o, e, n, g, w, v, f, x, E, u, N⟩ : TA) = ⟨o', e', n', g', w', v', f', x', E', u', N'⟩) = true := decide_eq_true (by rw [k0, k1, k2, k3, k4, k5, k6, k7, k8, k9, k10])
  rw [hd]
  repeat refine St (And.intro @lapp1 <| And.intro @lapp2 <| And.intro hn1 <| And.intro hn2 <| And.intro b1 <| And.intro b2 <| And.intro b3 <| And.intro b4 <| And.intro b5 <| And.intro b6 <| And.intro b7 <| And.intro b8 <| And.intro hbe <| And.intro hee <| hne) ct36 ?_
  exact AWP.ret (Fin trivial [] [])

theorem samea_c (a b : TA) : F36 [aT a, aT b] = some ([], .t (.bool (decide (a = b)))) := by
  simp only [F36, inv_of aT_inj]

end Go.Fw

end

section
/- rpc: answers read, put, taken. -/
namespace Go.Fw
open Go Go.Proofs
set_option linter.unusedVariables false
set_option linter.unusedSimpArgs false

theorem noA_T : aT noA = .st [.int .u8 0, .int .i64 0, .ba 32 (zby 32), .int .u32 0, .ar 4 1 [.int .u64 0, .int .u64 0, .int .u64 0, .int .u64 0], .int .u64 0, .bool false, .by [], .sq 69 [], .ar 5 1 [.int .u32 0, .int .u32 0, .int .u32 0, .int .u32 0, .int .u32 0], .sq 32 []] := rfl
theorem bareA_T (c : UInt8) (e : Int) : aT (bareA c e) = .st [.int .u8 (c.toNat : Int), .int .i64 e, .ba 32 (zby 32), .int .u32 0, .ar 4 1 [.int .u64 0, .int .u64 0, .int .u64 0, .int .u64 0], .int .u64 0, .bool false, .by [], .sq 69 [], .ar 5 1 [.int .u32 0, .int .u32 0, .int .u32 0, .int .u32 0, .int .u32 0], .sq 32 []] := rfl
theorem rA_else (r : TA × RSt) {k : Nat} (h5 : k ≠ 5) (h8 : k ≠ 8) : rA r k = some ([rX r.2, ansS r.1 .nil .nil], .tup []) := by
  unfold rA; split
  · exact (h5 rfl).elim
  · exact (h8 rfl).elim
  · rfl
theorem rdAK_ents (op : UInt8) {k : Nat} (s : RSt) (h : k ≠ 5) : (rdAK op k s).1.ents = [] := by
  unfold rdAK; split <;> first | rfl | exact (h rfl).elim
theorem rdAK_nams (op : UInt8) {k : Nat} (s : RSt) (h : k ≠ 8) : (rdAK op k s).1.nams = [] := by
  unfold rdAK; split <;> first | rfl | exact (h rfl).elim

noncomputable def F33 : Fun
  | [.by b] => if b.length ≤ 549755000000 then some ([], .tup [.t (aT (readA b).1), .t (.bool (readA b).2)]) else none
  | _ => none

theorem ct33 : CT [(35, ⟨[true, true], G35a⟩), (47, ⟨[false], treeG F47⟩), (48, ⟨[true], G48⟩)] [0, 2, 3, 4, 5, 21, 37] [(4, [⟨0, [0], [], []⟩, ⟨1, [27], [], []⟩, ⟨1, [28], [1], []⟩, ⟨0, [0], [], []⟩, ⟨1, [30], [], []⟩, ⟨1, [31], [4], []⟩, ⟨1, [32], [4, 5], []⟩, ⟨1, [29, 33], [1, 2, 4, 5, 6], []⟩, ⟨1, [], [], []⟩, ⟨2, [5, 34], [1, 2, 4, 5, 6, 7, 8], []⟩]), (7, [⟨1, [5], [], []⟩, ⟨0, [4], [], []⟩, ⟨0, [42], [], []⟩, ⟨0, [43], [], []⟩, ⟨0, [44], [], [1]⟩, ⟨0, [45], [], []⟩, ⟨0, [46], [], []⟩, ⟨0, [4], [], []⟩, ⟨0, [48], [], []⟩, ⟨0, [49], [], []⟩, ⟨0, [50], [], [1]⟩, ⟨0, [51], [], [1]⟩, ⟨0, [52], [], []⟩, ⟨0, [47, 53], [], []⟩, ⟨2, [2, 41], [0], [1]⟩, ⟨0, [54], [0, 14], []⟩])] := ⟨(.cons g35a (.cons c47.g (.cons g48 (.nil _))))⟩

set_option maxRecDepth 20000 in
set_option maxHeartbeats 8000000 in
theorem c33 : ACon Try.prog 33 F33 := by
  refine aconc E_ok (rs := [.cell 2 47, .tmp 3 4]) Try.func33 rfl Try.ntmps33 (by kernel_rfl) rfl (by decide) F33 (np := 1) ?_ ?_
  · intro ts h; unfold F33; split <;> first | rfl | (simp at h; done)
  intro ts H r hF hwf
  unfold F33 at hF
  split at hF <;> try (cases hF; done)
  rename_i b
  split at hF
  case isFalse => cases hF
  rename_i hb
  cases hF
  have hshort : ∀ b : List UInt8, (b.length : Int) < 2 → readA b = (noA, false) := by
    intro b h
    match b, h with
    | [], _ => rfl
    | [_], _ => rfl
    | _ :: _ :: _, h => simp at h; omega
  by_cases h2 : (b.length : Int) < 2
  · rw [hshort b h2, noA_T]
    repeat refine St h2 ct33 ?_
    exact AWP.ret (Fin trivial [] [])
  obtain ⟨c, e, r, hB⟩ : ∃ c e r, b = c :: e :: r := by
    match b, h2 with
    | [], h2 => simp at h2
    | [_], h2 => simp at h2
    | c :: e :: r, _ => exact ⟨c, e, r, rfl⟩
  have hB0 : b.getD 0 0 = c := by rw [hB]; rfl
  have hB1 : b.getD 1 0 = e := by rw [hB]; rfl
  have hBd : b.drop 2 = r := by rw [hB]; rfl
  have hBl : b.length = r.length + 2 := by rw [hB]; rfl
  have k0 : ¬ (b.length : Int) < 2 := h2
  have k1 : 0 < b.length := by omega
  have k2 : 1 < b.length := by omega
  have k3 : 2 ≤ b.length := by omega
  have k4 : (0 : Int) < (b.length : Int) := by omega
  have k5 : (1 : Int) < (b.length : Int) := by omega
  have h1 := isop_c c
  have hel := e.toNat_lt
  have hwe : IntKind.i64.wrap (e.toNat : Int) = (e.toNat : Int) := wrap_i64 (by omega) (by omega)
  cases hc : isOp c with
  | false =>
    rw [hB, readA_no (by rw [hc]; simp), ← hB, noA_T]
    rw [hc] at h1
    repeat refine St (And.intro k0 <| And.intro k1 <| And.intro k2 <| And.intro k3 <| And.intro k4 <| And.intro k5 <| And.intro hB0 <| And.intro hB1 <| h1) ct33 ?_
    exact AWP.ret (Fin trivial [] [])
  | true =>
  rw [hc] at h1
  by_cases h99 : 99 < (e.toNat : Int)
  · rw [hB, readA_no (by rintro ⟨_, h⟩; omega), ← hB, noA_T]
    repeat refine St (And.intro k0 <| And.intro k1 <| And.intro k2 <| And.intro k3 <| And.intro k4 <| And.intro k5 <| And.intro hB0 <| And.intro hB1 <| And.intro h1 <| h99) ct33 ?_
    exact AWP.ret (Fin trivial [] [])
  by_cases he : e = 0
  case neg =>
    rw [hB, readA_err hc (by omega) he, ← hB, bareA_T]
    have he0 : ((e.toNat : Int) == 0) = false := by rw [beq_eq_false_iff_ne]; intro hh; exact he (UInt8.toNat_inj.1 (by show e.toNat = 0; omega))
    by_cases hr : r = []
    · have hrd : decide (r = []) = true := decide_eq_true hr
      have hrl : ((r.length : Int) == 0) = true := by rw [hr]; rfl
      dsimp only
      rw [hrd]
      repeat refine St (And.intro k0 <| And.intro k1 <| And.intro k2 <| And.intro k3 <| And.intro k4 <| And.intro k5 <| And.intro hB0 <| And.intro hB1 <| And.intro hBd <| And.intro h1 <| And.intro h99 <| And.intro hwe <| And.intro he0 <| hrl) ct33 ?_
      exact AWP.ret (Fin trivial [] [])
    · have hrd : decide (r = []) = false := decide_eq_false hr
      have hrl : ((r.length : Int) == 0) = false := by
        have : 0 < r.length := List.length_pos_iff.2 hr
        rw [beq_eq_false_iff_ne]; omega
      dsimp only
      rw [hrd]
      repeat refine St (And.intro k0 <| And.intro k1 <| And.intro k2 <| And.intro k3 <| And.intro k4 <| And.intro k5 <| And.intro hB0 <| And.intro hB1 <| And.intro hBd <| And.intro h1 <| And.intro h99 <| And.intro hwe <| And.intro he0 <| hrl) ct33 ?_
      exact AWP.ret (Fin trivial [] [])
  subst he
  rw [hB, readA_yes hc, ← hB]
  have z8 : (((0 : UInt8).toNat : Nat) : Int) = 0 := rfl
  have hq : G35a [.bx (.t (.st [.by r, .bool false])), .bx (.t (bareN c))] [.st [.clo 1000071 [.ptr 0 0 []], .clo 1000072 [.ptr 0 0 []], .clo 1000073 [.ptr 0 0 []], .clo 1000074 [.ptr 0 0 []], .clo 1000075 [.ptr 0 0 []], .clo 1000076 [.ptr 0 0 []], .clo 1000077 [.ptr 0 0 []], .clo 1000078 [.ptr 0 0 []]], .ptr 1 0 []] = rA (rdAK c (kA c) ⟨r, 0⟩) (kA c) := by
    simp only [G35a, inv_of bareN_inj]
    rw [if_pos ⟨⟨trivial, trivial, trivial, trivial, trivial, trivial, trivial, trivial⟩, trivial, by omega⟩]
  have ht : G48 [.bx (.t (.st [.by r, .bool false]))] [.ptr 0 0 []] = some ([.bx (.t (.st [.by r, .bool false]))], .st [.clo 1000071 [.ptr 0 0 []], .clo 1000072 [.ptr 0 0 []], .clo 1000073 [.ptr 0 0 []], .clo 1000074 [.ptr 0 0 []], .clo 1000075 [.ptr 0 0 []], .clo 1000076 [.ptr 0 0 []], .clo 1000077 [.ptr 0 0 []], .clo 1000078 [.ptr 0 0 []]]) := rfl
  repeat refine St (And.intro k0 <| And.intro k1 <| And.intro k2 <| And.intro k3 <| And.intro k4 <| And.intro k5 <| And.intro hB0 <| And.intro hB1 <| And.intro hBd <| And.intro h1 <| And.intro h99 <| And.intro hwe <| z8) ct33 ?_
  refine AWP.weak (Wn 2 [7] 41 (.by [])) ?_
  have fin : ∀ (s : List UInt8) (q : Int), (q = 0 ∧ s = [] ∧ (decide (q = 0) && decide (s = [])) = true ∧ decide (q ≠ 0) = false ∧ ((s.length : Int) == 0) = true) ∨ (q = 0 ∧ (decide (q = 0) && decide (s = [])) = false ∧ decide (q ≠ 0) = false ∧ ((s.length : Int) == 0) = false) ∨ (q ≠ 0 ∧ (decide (q = 0) && decide (s = [])) = false ∧ decide (q ≠ 0) = true) := by
    intro s q
    by_cases hq : q = 0
    · by_cases hs : s = []
      · subst hq; subst hs; exact .inl ⟨rfl, rfl, rfl, rfl, rfl⟩
      · subst hq
        have : 0 < s.length := List.length_pos_iff.2 hs
        exact .inr (.inl ⟨rfl, by rw [decide_eq_false hs]; rfl, rfl, by rw [beq_eq_false_iff_ne]; omega⟩)
    · exact .inr (.inr ⟨hq, by rw [decide_eq_false hq]; rfl, decide_eq_true hq⟩)
  have hkl := kA_le c
  generalize hkk : kA c = k at *
  by_cases h5 : k = 5
  · subst h5
    simp only [rA] at hq
    have hna := rdAK_nams c (k := 5) ⟨r, 0⟩ (by decide)
    generalize rdAK c 5 ⟨r, 0⟩ = R at *
    obtain ⟨a, ⟨s, q⟩⟩ := R
    dsimp only at hq hna ⊢
    have hn := a.name.2
    simp only [boxE, rX_st, bareN, wT_st] at hq
    rw [aT_st, wT_st, hna]
    rcases fin s q with ⟨f1, f2, f3, f4, f5⟩ | ⟨f1, f3, f4, f5⟩ | ⟨f1, f3, f4⟩
    · rw [f3]
      rw [f4] at hq
      repeat refine St (And.intro ht <| And.intro hq <| And.intro hn <| And.intro z8 <| f5) ct33 ?_
      exact AWP.ret (Fin (@List.map_nil.{0, 0}) [3] [])
    · rw [f3]
      rw [f4] at hq
      repeat refine St (And.intro ht <| And.intro hq <| And.intro hn <| And.intro z8 <| f5) ct33 ?_
      exact AWP.ret (Fin (@List.map_nil.{0, 0}) [3] [])
    · rw [f3]
      rw [f4] at hq
      repeat refine St (And.intro ht <| And.intro hq <| And.intro hn <| And.intro z8 <| f3) ct33 ?_
      exact AWP.ret (Fin (@List.map_nil.{0, 0}) [3] [])
  by_cases h8 : k = 8
  · subst h8
    simp only [rA] at hq
    have hea := rdAK_ents c (k := 8) ⟨r, 0⟩ (by decide)
    generalize rdAK c 8 ⟨r, 0⟩ = R at *
    obtain ⟨a, ⟨s, q⟩⟩ := R
    dsimp only at hq hea ⊢
    have hn := a.name.2
    simp only [boxN, rX_st, bareN, wT_st] at hq
    rw [aT_st, wT_st, hea]
    rcases fin s q with ⟨f1, f2, f3, f4, f5⟩ | ⟨f1, f3, f4, f5⟩ | ⟨f1, f3, f4⟩
    · rw [f3]
      rw [f4] at hq
      repeat refine St (And.intro ht <| And.intro hq <| And.intro hn <| And.intro z8 <| f5) ct33 ?_
      exact AWP.ret (Fin (@List.map_nil.{0, 0}) [3] [])
    · rw [f3]
      rw [f4] at hq
      repeat refine St (And.intro ht <| And.intro hq <| And.intro hn <| And.intro z8 <| f5) ct33 ?_
      exact AWP.ret (Fin (@List.map_nil.{0, 0}) [3] [])
    · rw [f3]
      rw [f4] at hq
      repeat refine St (And.intro ht <| And.intro hq <| And.intro hn <| And.intro z8 <| f3) ct33 ?_
      exact AWP.ret (Fin (@List.map_nil.{0, 0}) [3] [])
  rw [rA_else _ h5 h8] at hq
  have hea := rdAK_ents c (k := k) ⟨r, 0⟩ h5
  have hna := rdAK_nams c (k := k) ⟨r, 0⟩ h8
  generalize rdAK c k ⟨r, 0⟩ = R at *
  obtain ⟨a, ⟨s, q⟩⟩ := R
  dsimp only at hq hea hna ⊢
  have hn := a.name.2
  simp only [ansS_eq, rX_st, bareN, wT_st] at hq
  rw [aT_st, wT_st, hea, hna]
  rcases fin s q with ⟨f1, f2, f3, f4, f5⟩ | ⟨f1, f3, f4, f5⟩ | ⟨f1, f3, f4⟩
  · rw [f3]
    rw [f4] at hq
    repeat refine St (And.intro ht <| And.intro hq <| And.intro hn <| And.intro z8 <| f5) ct33 ?_
    exact AWP.ret (Fin (@List.map_nil.{0, 0}) [] [])
  · rw [f3]
    rw [f4] at hq
    repeat refine St (And.intro ht <| And.intro hq <| And.intro hn <| And.intro z8 <| f5) ct33 ?_
    exact AWP.ret (Fin (@List.map_nil.{0, 0}) [] [])
  · rw [f3]
    rw [f4] at hq
    repeat refine St (And.intro ht <| And.intro hq <| And.intro hn <| And.intro z8 <| f3) ct33 ?_
    exact AWP.ret (Fin (@List.map_nil.{0, 0}) [] [])

theorem reada_c {b : List UInt8} (h : b.length ≤ 549755000000) : F33 [.by b] = some ([], .tup [.t (aT (readA b).1), .t (.bool (readA b).2)]) := if_pos h

noncomputable def F16 : Fun
  | [.by b] => if b.length ≤ 549755000000 then some ([], .tup [.t (aT (tkA b)), .t (.int .i64 (tkAe b))]) else none
  | _ => none

theorem ct16 : CT [(33, ⟨[false], treeG F33⟩)] [0, 2, 3, 4, 5, 12] [] := ⟨(.cons c33.g (.nil _))⟩

set_option maxHeartbeats 2000000 in
theorem c16 : ACon Try.prog 16 F16 := by
  refine aconc E_ok (rs := [.cell 2 47, .tmp 3 28]) Try.func16 rfl Try.ntmps16 (by kernel_rfl) rfl (by decide) F16 (np := 1) ?_ ?_
  · intro ts h; unfold F16; split <;> first | rfl | (simp at h; done)
  intro ts H r hF hwf
  unfold F16 at hF
  split at hF <;> try (cases hF; done)
  rename_i b
  split at hF
  case isFalse => cases hF
  rename_i hb
  cases hF
  have h1 := reada_c hb
  cases hr : (readA b).2 with
  | true =>
    rw [show tkA b = (readA b).1 from if_pos hr, show tkAe b = 0 from if_pos hr]
    rw [hr] at h1
    generalize (readA b).1 = q at *
    have hn := q.name.2
    rw [aT_st, wT_st] at h1 ⊢
    repeat refine St (And.intro h1 <| hn) ct16 ?_
    exact AWP.ret (Fin trivial [] [])
  | false =>
    rw [show tkA b = noA from if_neg (by rw [hr]; simp), show tkAe b = 3 from if_neg (by rw [hr]; simp), noA_T]
    rw [hr] at h1
    generalize (readA b).1 = q at *
    have hn := q.name.2
    rw [aT_st, wT_st] at h1
    repeat refine St (And.intro h1 <| hn) ct16 ?_
    exact AWP.ret (Fin trivial [] [])

theorem taa_c {b : List UInt8} (h : b.length ≤ 549755000000) : F16 [.by b] = some ([], .tup [.t (aT (tkA b)), .t (.int .i64 (tkAe b))]) := if_pos h

end Go.Fw

end

section
/- rpc: answers put. -/
namespace Go.Fw
open Go Go.Proofs
set_option linter.unusedVariables false
set_option linter.unusedSimpArgs false

noncomputable def F21 : Fun
  | [y] => match inv aT y with
    | some a => if a.bts.length ≤ 1000000 ∧ a.ents.length ≤ 1000 ∧ a.nams.length ≤ 1000 then some ([], .tup [.t (.by (putA a)), .t (.int .i64 (putAe a))]) else none
    | none => none
  | _ => none

theorem ct21 : CT [(23, ⟨[true], G23⟩), (33, ⟨[false], treeG F33⟩), (35, ⟨[true, true], G35a⟩), (36, ⟨[false, false], treeG F36⟩)] [0, 1, 2, 3, 4, 5, 6, 7, 15, 27, 46] [] := ⟨(.cons g23 (.cons c33.g (.cons g35a (.cons c36.g (.nil _)))))⟩

theorem putA_no {a : TA} (h : mayA a = false) : putA a = [] ∧ putAe a = 1 := ⟨if_neg (by rw [h]; simp), if_neg (by rw [h]; simp)⟩
theorem putA_yes {a : TA} (h : mayA a = true) : putA a = bytA a ∧ putAe a = 0 := ⟨if_pos h, if_pos h⟩
theorem mayA_e {a : TA} (h : ¬ (0 ≤ a.e ∧ a.e ≤ 99)) : mayA a = false := by
  cases hm : mayA a with
  | false => rfl
  | true => exact (h (mayA_ok hm).2.1).elim
theorem bodyAK_len (a : TA) (h1 : a.bts.length ≤ 1000000) (h2 : a.ents.length ≤ 1000) (h3 : a.nams.length ≤ 1000) : ∀ k, k ≤ 8 → (bodyAK k a).length ≤ 2000000 := by
  have hn := a.name.2
  have hw := (wB a.work).2
  have hs := sizeB_len (a.bts.length : Int)
  have hs2 := sizeB_len (a.ents.length : Int)
  have hs3 := sizeB_len (a.nams.length : Int)
  have e1 := cat_len entB 88 a.ents fun x _ => by rw [entB_len]; exact Nat.le_refl _
  have e2 := cat_len n4B 4 a.nums.1 fun x _ => by simp [n4B, le_len]
  have e3 := cat_len hB 32 a.nams fun x _ => by show x.1.length ≤ 32; exact Nat.le_of_eq x.2
  have e4 := a.nums.2
  exact k8_all (by simp [bodyAK]) (by simp [bodyAK, hn, n4B, le_len, hw]) (by simp [bodyAK, btsB]; omega) (by simp [bodyAK, le_len, n4B, flagB, btsB]; omega) (by simp [bodyAK, le_len, btsB]; omega) (by simp [bodyAK]; omega) (by simp [bodyAK]; omega) (by simp [bodyAK, hn]) (by simp [bodyAK]; omega)

set_option maxRecDepth 20000 in
set_option maxHeartbeats 8000000 in
theorem c21 : ACon Try.prog 21 F21 := by
  refine aconc E_ok (rs := [.tmp 2 24, .tmp 3 28]) Try.func21 rfl Try.ntmps21 (by kernel_rfl) rfl (by decide) F21 (np := 1) ?_ ?_
  · intro ts h; unfold F21; split <;> first | rfl | (simp at h; done)
  intro ts H r hF hwf
  unfold F21 at hF
  split at hF <;> try (cases hF; done)
  split at hF <;> try (cases hF; done)
  rename_i a ha
  split at hF
  case isFalse => cases hF
  rename_i hc
  cases hF
  obtain ⟨hx, hle, hln⟩ := hc
  obtain rfl := inv_inv ha
  have hn := a.name.2
  by_cases hA : a.e < 0
  · have hno : mayA a = false := mayA_e (by omega)
    rw [(putA_no hno).1, (putA_no hno).2, aT_st, wT_st]
    repeat refine St (And.intro hA <| hn) ct21 ?_
    exact AWP.ret (Fin trivial [] [])
  by_cases hBg : 99 < a.e
  · have hno : mayA a = false := mayA_e (by omega)
    rw [(putA_no hno).1, (putA_no hno).2, aT_st, wT_st]
    repeat refine St (And.intro hA <| And.intro hBg <| hn) ct21 ?_
    exact AWP.ret (Fin trivial [] [])
  have hsame := readA_same (a := a)
  have hput : putA a = if mayA a = true then bytA a else [] := rfl
  have hpe : putAe a = if mayA a = true then 0 else 1 := rfl
  have hbl := bodyAK_len a hx hle hln (kA a.op) (kA_le _)
  have hof : UInt8.ofNat a.op.toNat = a.op := UInt8.ofNat_toNat ..
  have hwe : IntKind.u8.wrap a.e = a.e := wrap_u8 (by omega) (by omega)
  have hbyt : bytA a = a.op :: UInt8.ofNat a.e.toNat :: bodyA a := rfl
  have hla : G23 [.bx (.st [.own 1]), .by [a.op, UInt8.ofNat a.e.toNat]] [.ptr 0 0 []] = some ([.bx (.st [.own 1]), .by [a.op, UInt8.ofNat a.e.toNat]], .st [.clo 1000039 [.ptr 0 0 []], .clo 1000040 [.ptr 0 0 []], .clo 1000041 [.ptr 0 0 []], .clo 1000042 [.ptr 0 0 []], .clo 1000043 [.ptr 0 0 []], .clo 1000044 [.ptr 0 0 []], .clo 1000045 [.ptr 0 0 []], .clo 1000046 [.ptr 0 0 []]]) := rfl
  have hqu : G35a [.bx (.st [.own 1]), .by [a.op, UInt8.ofNat a.e.toNat], .bx (.t (aT a))] [.st [.clo 1000039 [.ptr 0 0 []], .clo 1000040 [.ptr 0 0 []], .clo 1000041 [.ptr 0 0 []], .clo 1000042 [.ptr 0 0 []], .clo 1000043 [.ptr 0 0 []], .clo 1000044 [.ptr 0 0 []], .clo 1000045 [.ptr 0 0 []], .clo 1000046 [.ptr 0 0 []]], .ptr 2 0 []] = wA [a.op, UInt8.ofNat a.e.toNat] a (kA a.op) := by
    simp only [G35a, inv_of aT_inj]
    rw [if_pos ⟨⟨trivial, trivial, trivial, trivial, trivial, trivial, trivial, trivial⟩, by simp, by omega, by omega, by omega⟩]
  have h2 := reada_c (b := bytA a) (by rw [hbyt]; unfold bodyA; split <;> simp <;> omega)
  have h3 := samea_c (readA (bytA a)).1 a
  generalize readA (bytA a) = R at *
  obtain ⟨p, w⟩ := R
  dsimp only at h2 h3 hsame
  have hpn := p.name.2
  generalize putA a = PQ at *
  generalize putAe a = PE at *
  generalize mayA a = M at *
  have hcase : (w = false ∧ M = false) ∨ (w = true ∧ decide (p = a) = false ∧ M = false) ∨ (w = true ∧ decide (p = a) = true ∧ M = true) := by
    cases w with
    | false => exact .inl ⟨rfl, hsame.symm⟩
    | true =>
      rw [Bool.true_and] at hsame
      cases hd : decide (p = a) with
      | false => rw [hd] at hsame; exact .inr (.inl ⟨rfl, rfl, hsame.symm⟩)
      | true => rw [hd] at hsame; exact .inr (.inr ⟨rfl, rfl, hsame.symm⟩)
  generalize decide (p = a) = D at *
  by_cases hz : a.e = 0
  case neg =>
    have hb0 : bytA a = [a.op, UInt8.ofNat a.e.toNat] := by rw [hbyt]; unfold bodyA; rw [if_neg hz]
    rw [hb0] at h2 hput
    have hzz : (a.e == 0) = false := by rw [beq_eq_false_iff_ne]; exact hz
    rw [aT_st, wT_st] at h2 h3
    rw [aT_st a, wT_st a.work] at h3
    rw [aT_st, wT_st]
    rcases hcase with ⟨rfl, rfl⟩ | ⟨rfl, rfl, rfl⟩ | ⟨rfl, rfl, rfl⟩
    · obtain rfl : PQ = [] := hput
      obtain rfl : PE = 1 := hpe
      repeat refine St (And.intro hA <| And.intro hBg <| And.intro hn <| And.intro hof <| And.intro hwe <| And.intro hzz <| And.intro h2 <| hpn) ct21 ?_
      exact AWP.ret (Fin trivial [] [])
    · obtain rfl : PQ = [] := hput
      obtain rfl : PE = 1 := hpe
      repeat refine St (And.intro hA <| And.intro hBg <| And.intro hn <| And.intro hof <| And.intro hwe <| And.intro hzz <| And.intro h2 <| And.intro h3 <| hpn) ct21 ?_
      exact AWP.ret (Fin trivial [] [])
    · obtain rfl : PQ = _ := hput
      obtain rfl : PE = 0 := hpe
      repeat refine St (And.intro hA <| And.intro hBg <| And.intro hn <| And.intro hof <| And.intro hwe <| And.intro hzz <| And.intro h2 <| And.intro h3 <| hpn) ct21 ?_
      exact AWP.ret (Fin hof [1] [])
  have hbb : bytA a = a.op :: UInt8.ofNat a.e.toNat :: bodyAK (kA a.op) a := by rw [hbyt]; unfold bodyA; rw [if_pos hz]
  rw [hbb] at h2 hput
  have hzz : (a.e == 0) = true := by rw [hz]; rfl
  have hkl := kA_le a.op
  generalize kA a.op = k at *
  rw [aT_st, wT_st] at h2 h3
  rw [aT_st a, wT_st a.work] at h3
  rcases (by omega : k = 0 ∨ k = 1 ∨ k = 2 ∨ k = 3 ∨ k = 4 ∨ k = 5 ∨ k = 6 ∨ k = 7 ∨ k = 8) with rfl | rfl | rfl | rfl | rfl | rfl | rfl | rfl | rfl
  · simp only [wA, aT_st, wT_st] at hqu
    rw [aT_st, wT_st]
    have hab : [a.op, UInt8.ofNat a.e.toNat] ++ bodyAK 0 a = a.op :: UInt8.ofNat a.e.toNat :: bodyAK 0 a := rfl
    have h00 : bodyAK 0 a = [] := rfl
    rw [h00] at h2 hput
    rcases hcase with ⟨rfl, rfl⟩ | ⟨rfl, rfl, rfl⟩ | ⟨rfl, rfl, rfl⟩
    · obtain rfl : PQ = [] := hput
      obtain rfl : PE = 1 := hpe
      repeat refine St (And.intro hA <| And.intro hBg <| And.intro hla <| And.intro hqu <| And.intro hof <| And.intro hwe <| And.intro hzz <| And.intro hn <| And.intro h2 <| hpn) ct21 ?_
      exact AWP.ret (Fin trivial [] [])
    · obtain rfl : PQ = [] := hput
      obtain rfl : PE = 1 := hpe
      repeat refine St (And.intro hA <| And.intro hBg <| And.intro hla <| And.intro hqu <| And.intro hof <| And.intro hwe <| And.intro hzz <| And.intro hn <| And.intro h2 <| And.intro h3 <| hpn) ct21 ?_
      exact AWP.ret (Fin trivial [] [])
    · obtain rfl : PQ = a.op :: UInt8.ofNat a.e.toNat :: bodyAK 0 a := hput
      obtain rfl : PE = 0 := hpe
      repeat refine St (And.intro hA <| And.intro hBg <| And.intro hla <| And.intro hqu <| And.intro hof <| And.intro hwe <| And.intro hzz <| And.intro hn <| And.intro h2 <| And.intro h3 <| hpn) ct21 ?_
      exact AWP.ret (Fin (And.intro h00 <| hof) [1] [])
  · simp only [wA, aT_st, wT_st] at hqu
    rw [aT_st, wT_st]
    have hab : [a.op, UInt8.ofNat a.e.toNat] ++ bodyAK 1 a = a.op :: UInt8.ofNat a.e.toNat :: bodyAK 1 a := rfl
    rw [hab] at hqu
    rcases hcase with ⟨rfl, rfl⟩ | ⟨rfl, rfl, rfl⟩ | ⟨rfl, rfl, rfl⟩
    · obtain rfl : PQ = [] := hput
      obtain rfl : PE = 1 := hpe
      repeat refine St (And.intro hA <| And.intro hBg <| And.intro hla <| And.intro hqu <| And.intro hof <| And.intro hwe <| And.intro hzz <| And.intro hn <| And.intro h2 <| hpn) ct21 ?_
      exact AWP.ret (Fin trivial [] [])
    · obtain rfl : PQ = [] := hput
      obtain rfl : PE = 1 := hpe
      repeat refine St (And.intro hA <| And.intro hBg <| And.intro hla <| And.intro hqu <| And.intro hof <| And.intro hwe <| And.intro hzz <| And.intro hn <| And.intro h2 <| And.intro h3 <| hpn) ct21 ?_
      exact AWP.ret (Fin trivial [] [])
    · obtain rfl : PQ = a.op :: UInt8.ofNat a.e.toNat :: bodyAK 1 a := hput
      obtain rfl : PE = 0 := hpe
      repeat refine St (And.intro hA <| And.intro hBg <| And.intro hla <| And.intro hqu <| And.intro hof <| And.intro hwe <| And.intro hzz <| And.intro hn <| And.intro h2 <| And.intro h3 <| hpn) ct21 ?_
      exact AWP.ret (Fin hof [4] [])
  · simp only [wA, aT_st, wT_st] at hqu
    rw [aT_st, wT_st]
    have hab : [a.op, UInt8.ofNat a.e.toNat] ++ bodyAK 2 a = a.op :: UInt8.ofNat a.e.toNat :: bodyAK 2 a := rfl
    rw [hab] at hqu
    rcases hcase with ⟨rfl, rfl⟩ | ⟨rfl, rfl, rfl⟩ | ⟨rfl, rfl, rfl⟩
    · obtain rfl : PQ = [] := hput
      obtain rfl : PE = 1 := hpe
      repeat refine St (And.intro hA <| And.intro hBg <| And.intro hla <| And.intro hqu <| And.intro hof <| And.intro hwe <| And.intro hzz <| And.intro hn <| And.intro h2 <| hpn) ct21 ?_
      exact AWP.ret (Fin trivial [] [])
    · obtain rfl : PQ = [] := hput
      obtain rfl : PE = 1 := hpe
      repeat refine St (And.intro hA <| And.intro hBg <| And.intro hla <| And.intro hqu <| And.intro hof <| And.intro hwe <| And.intro hzz <| And.intro hn <| And.intro h2 <| And.intro h3 <| hpn) ct21 ?_
      exact AWP.ret (Fin trivial [] [])
    · obtain rfl : PQ = a.op :: UInt8.ofNat a.e.toNat :: bodyAK 2 a := hput
      obtain rfl : PE = 0 := hpe
      repeat refine St (And.intro hA <| And.intro hBg <| And.intro hla <| And.intro hqu <| And.intro hof <| And.intro hwe <| And.intro hzz <| And.intro hn <| And.intro h2 <| And.intro h3 <| hpn) ct21 ?_
      exact AWP.ret (Fin hof [4] [])
  · simp only [wA, aT_st, wT_st] at hqu
    rw [aT_st, wT_st]
    have hab : [a.op, UInt8.ofNat a.e.toNat] ++ bodyAK 3 a = a.op :: UInt8.ofNat a.e.toNat :: bodyAK 3 a := rfl
    rw [hab] at hqu
    rcases hcase with ⟨rfl, rfl⟩ | ⟨rfl, rfl, rfl⟩ | ⟨rfl, rfl, rfl⟩
    · obtain rfl : PQ = [] := hput
      obtain rfl : PE = 1 := hpe
      repeat refine St (And.intro hA <| And.intro hBg <| And.intro hla <| And.intro hqu <| And.intro hof <| And.intro hwe <| And.intro hzz <| And.intro hn <| And.intro h2 <| hpn) ct21 ?_
      exact AWP.ret (Fin trivial [] [])
    · obtain rfl : PQ = [] := hput
      obtain rfl : PE = 1 := hpe
      repeat refine St (And.intro hA <| And.intro hBg <| And.intro hla <| And.intro hqu <| And.intro hof <| And.intro hwe <| And.intro hzz <| And.intro hn <| And.intro h2 <| And.intro h3 <| hpn) ct21 ?_
      exact AWP.ret (Fin trivial [] [])
    · obtain rfl : PQ = a.op :: UInt8.ofNat a.e.toNat :: bodyAK 3 a := hput
      obtain rfl : PE = 0 := hpe
      repeat refine St (And.intro hA <| And.intro hBg <| And.intro hla <| And.intro hqu <| And.intro hof <| And.intro hwe <| And.intro hzz <| And.intro hn <| And.intro h2 <| And.intro h3 <| hpn) ct21 ?_
      exact AWP.ret (Fin hof [4] [])
  · simp only [wA, aT_st, wT_st] at hqu
    rw [aT_st, wT_st]
    have hab : [a.op, UInt8.ofNat a.e.toNat] ++ bodyAK 4 a = a.op :: UInt8.ofNat a.e.toNat :: bodyAK 4 a := rfl
    rw [hab] at hqu
    rcases hcase with ⟨rfl, rfl⟩ | ⟨rfl, rfl, rfl⟩ | ⟨rfl, rfl, rfl⟩
    · obtain rfl : PQ = [] := hput
      obtain rfl : PE = 1 := hpe
      repeat refine St (And.intro hA <| And.intro hBg <| And.intro hla <| And.intro hqu <| And.intro hof <| And.intro hwe <| And.intro hzz <| And.intro hn <| And.intro h2 <| hpn) ct21 ?_
      exact AWP.ret (Fin trivial [] [])
    · obtain rfl : PQ = [] := hput
      obtain rfl : PE = 1 := hpe
      repeat refine St (And.intro hA <| And.intro hBg <| And.intro hla <| And.intro hqu <| And.intro hof <| And.intro hwe <| And.intro hzz <| And.intro hn <| And.intro h2 <| And.intro h3 <| hpn) ct21 ?_
      exact AWP.ret (Fin trivial [] [])
    · obtain rfl : PQ = a.op :: UInt8.ofNat a.e.toNat :: bodyAK 4 a := hput
      obtain rfl : PE = 0 := hpe
      repeat refine St (And.intro hA <| And.intro hBg <| And.intro hla <| And.intro hqu <| And.intro hof <| And.intro hwe <| And.intro hzz <| And.intro hn <| And.intro h2 <| And.intro h3 <| hpn) ct21 ?_
      exact AWP.ret (Fin hof [4] [])
  · simp only [wA, boxE, aT_st, wT_st] at hqu
    rw [aT_st, wT_st]
    have hab : [a.op, UInt8.ofNat a.e.toNat] ++ bodyAK 5 a = a.op :: UInt8.ofNat a.e.toNat :: bodyAK 5 a := rfl
    rw [hab] at hqu
    rcases hcase with ⟨rfl, rfl⟩ | ⟨rfl, rfl, rfl⟩ | ⟨rfl, rfl, rfl⟩
    · obtain rfl : PQ = [] := hput
      obtain rfl : PE = 1 := hpe
      repeat refine St (And.intro hA <| And.intro hBg <| And.intro hla <| And.intro hqu <| And.intro hof <| And.intro hwe <| And.intro hzz <| And.intro hn <| And.intro h2 <| hpn) ct21 ?_
      exact AWP.ret (Fin trivial [] [])
    · obtain rfl : PQ = [] := hput
      obtain rfl : PE = 1 := hpe
      repeat refine St (And.intro hA <| And.intro hBg <| And.intro hla <| And.intro hqu <| And.intro hof <| And.intro hwe <| And.intro hzz <| And.intro hn <| And.intro h2 <| And.intro h3 <| hpn) ct21 ?_
      exact AWP.ret (Fin trivial [] [])
    · obtain rfl : PQ = a.op :: UInt8.ofNat a.e.toNat :: bodyAK 5 a := hput
      obtain rfl : PE = 0 := hpe
      repeat refine St (And.intro hA <| And.intro hBg <| And.intro hla <| And.intro hqu <| And.intro hof <| And.intro hwe <| And.intro hzz <| And.intro hn <| And.intro h2 <| And.intro h3 <| hpn) ct21 ?_
      exact AWP.ret (Fin hof [4] [])
  · simp only [wA, aT_st, wT_st] at hqu
    rw [aT_st, wT_st]
    have hab : [a.op, UInt8.ofNat a.e.toNat] ++ bodyAK 6 a = a.op :: UInt8.ofNat a.e.toNat :: bodyAK 6 a := rfl
    rw [hab] at hqu
    rcases hcase with ⟨rfl, rfl⟩ | ⟨rfl, rfl, rfl⟩ | ⟨rfl, rfl, rfl⟩
    · obtain rfl : PQ = [] := hput
      obtain rfl : PE = 1 := hpe
      repeat refine St (And.intro hA <| And.intro hBg <| And.intro hla <| And.intro hqu <| And.intro hof <| And.intro hwe <| And.intro hzz <| And.intro hn <| And.intro h2 <| hpn) ct21 ?_
      exact AWP.ret (Fin trivial [] [])
    · obtain rfl : PQ = [] := hput
      obtain rfl : PE = 1 := hpe
      repeat refine St (And.intro hA <| And.intro hBg <| And.intro hla <| And.intro hqu <| And.intro hof <| And.intro hwe <| And.intro hzz <| And.intro hn <| And.intro h2 <| And.intro h3 <| hpn) ct21 ?_
      exact AWP.ret (Fin trivial [] [])
    · obtain rfl : PQ = a.op :: UInt8.ofNat a.e.toNat :: bodyAK 6 a := hput
      obtain rfl : PE = 0 := hpe
      repeat refine St (And.intro hA <| And.intro hBg <| And.intro hla <| And.intro hqu <| And.intro hof <| And.intro hwe <| And.intro hzz <| And.intro hn <| And.intro h2 <| And.intro h3 <| hpn) ct21 ?_
      exact AWP.ret (Fin hof [4] [])
  · simp only [wA, aT_st, wT_st] at hqu
    rw [aT_st, wT_st]
    have hab : [a.op, UInt8.ofNat a.e.toNat] ++ bodyAK 7 a = a.op :: UInt8.ofNat a.e.toNat :: bodyAK 7 a := rfl
    rw [hab] at hqu
    rcases hcase with ⟨rfl, rfl⟩ | ⟨rfl, rfl, rfl⟩ | ⟨rfl, rfl, rfl⟩
    · obtain rfl : PQ = [] := hput
      obtain rfl : PE = 1 := hpe
      repeat refine St (And.intro hA <| And.intro hBg <| And.intro hla <| And.intro hqu <| And.intro hof <| And.intro hwe <| And.intro hzz <| And.intro hn <| And.intro h2 <| hpn) ct21 ?_
      exact AWP.ret (Fin trivial [] [])
    · obtain rfl : PQ = [] := hput
      obtain rfl : PE = 1 := hpe
      repeat refine St (And.intro hA <| And.intro hBg <| And.intro hla <| And.intro hqu <| And.intro hof <| And.intro hwe <| And.intro hzz <| And.intro hn <| And.intro h2 <| And.intro h3 <| hpn) ct21 ?_
      exact AWP.ret (Fin trivial [] [])
    · obtain rfl : PQ = a.op :: UInt8.ofNat a.e.toNat :: bodyAK 7 a := hput
      obtain rfl : PE = 0 := hpe
      repeat refine St (And.intro hA <| And.intro hBg <| And.intro hla <| And.intro hqu <| And.intro hof <| And.intro hwe <| And.intro hzz <| And.intro hn <| And.intro h2 <| And.intro h3 <| hpn) ct21 ?_
      exact AWP.ret (Fin hof [4] [])
  · simp only [wA, boxN, aT_st, wT_st] at hqu
    rw [aT_st, wT_st]
    have hab : [a.op, UInt8.ofNat a.e.toNat] ++ bodyAK 8 a = a.op :: UInt8.ofNat a.e.toNat :: bodyAK 8 a := rfl
    rw [hab] at hqu
    rcases hcase with ⟨rfl, rfl⟩ | ⟨rfl, rfl, rfl⟩ | ⟨rfl, rfl, rfl⟩
    · obtain rfl : PQ = [] := hput
      obtain rfl : PE = 1 := hpe
      repeat refine St (And.intro hA <| And.intro hBg <| And.intro hla <| And.intro hqu <| And.intro hof <| And.intro hwe <| And.intro hzz <| And.intro hn <| And.intro h2 <| hpn) ct21 ?_
      exact AWP.ret (Fin trivial [] [])
    · obtain rfl : PQ = [] := hput
      obtain rfl : PE = 1 := hpe
      repeat refine St (And.intro hA <| And.intro hBg <| And.intro hla <| And.intro hqu <| And.intro hof <| And.intro hwe <| And.intro hzz <| And.intro hn <| And.intro h2 <| And.intro h3 <| hpn) ct21 ?_
      exact AWP.ret (Fin trivial [] [])
    · obtain rfl : PQ = a.op :: UInt8.ofNat a.e.toNat :: bodyAK 8 a := hput
      obtain rfl : PE = 0 := hpe
      repeat refine St (And.intro hA <| And.intro hBg <| And.intro hla <| And.intro hqu <| And.intro hof <| And.intro hwe <| And.intro hzz <| And.intro hn <| And.intro h2 <| And.intro h3 <| hpn) ct21 ?_
      exact AWP.ret (Fin hof [4] [])

theorem pua_c {a : TA} (h : a.bts.length ≤ 1000000 ∧ a.ents.length ≤ 1000 ∧ a.nams.length ≤ 1000) : F21 [aT a] = some ([], .tup [.t (.by (putA a)), .t (.int .i64 (putAe a))]) := by
  simp only [F21, inv_of aT_inj]; exact if_pos h

end Go.Fw

end

section
/- Chapter 33: RpcEntries, RpcOnly, RpcBack: their code walked. -/
namespace Go.Fw
open Go Go.Proofs
set_option linter.unusedVariables false
set_option linter.unusedSimpArgs false

def smallA (a : TA) : Bool := decide (a.bts.length ≤ 600) && decide (a.ents.length ≤ 220) && decide (a.nams.length ≤ 120)
noncomputable def F20 : Fun
  | [y] => match inv aT y with
    | some a => some ([], .t (.bool (smallA a)))
    | none => none
  | _ => none

theorem ct20 : CT [] [0, 1, 2] [] := ⟨GClOk.nil _⟩

set_option maxHeartbeats 1000000 in
theorem c20 : ACon Try.prog 20 F20 := by
  refine aconc E_ok (rs := [.tmp 2 4]) Try.func20 rfl Try.ntmps20 (by kernel_rfl) rfl (by decide) F20 (np := 1) ?_ ?_
  · intro ts h; unfold F20; split <;> first | rfl | (simp at h; done)
  intro ts H r hF hwf
  unfold F20 at hF
  split at hF <;> try (cases hF; done)
  split at hF <;> try (cases hF; done)
  rename_i a ha
  cases hF
  obtain rfl := inv_inv ha
  have hn := a.name.2
  have mE : (a.ents.map eT).length = a.ents.length := List.length_map ..
  have mN : (a.nams.map hT).length = a.nams.length := List.length_map ..
  unfold smallA
  rw [aT_st, wT_st]
  by_cases h1 : (a.bts.length : Int) ≤ 600
  case neg =>
    rw [decide_eq_false (show ¬ a.bts.length ≤ 600 by omega)]
    repeat refine St (And.intro h1 <| hn) ct20 ?_
    exact AWP.ret (Fin @Bool.false_and [] [])
  rw [decide_eq_true (show a.bts.length ≤ 600 by omega)]
  by_cases h2 : (a.ents.length : Int) ≤ 220
  case neg =>
    rw [decide_eq_false (show ¬ a.ents.length ≤ 220 by omega)]
    repeat refine St (And.intro h1 <| And.intro h2 <| And.intro hn <| mE) ct20 ?_
    exact AWP.ret (Fin (And.intro @Bool.false_and <| @Bool.and_false) [] [])
  rw [decide_eq_true (show a.ents.length ≤ 220 by omega)]
  by_cases h3 : (a.nams.length : Int) ≤ 120
  case neg =>
    rw [decide_eq_false (show ¬ a.nams.length ≤ 120 by omega)]
    repeat refine St (And.intro h1 <| And.intro h2 <| And.intro h3 <| And.intro hn <| And.intro mE <| mN) ct20 ?_
    exact AWP.ret (Fin @Bool.and_false [] [])
  rw [decide_eq_true (show a.nams.length ≤ 120 by omega)]
  repeat refine St (And.intro h1 <| And.intro h2 <| And.intro h3 <| And.intro hn <| And.intro mE <| mN) ct20 ?_
  exact AWP.ret (Fin @Bool.and_true [] [])
theorem sma_c (a : TA) : F20 [aT a] = some ([], .t (.bool (smallA a))) := by simp only [F20, inv_of aT_inj]
theorem smallA_ok {a : TA} (h : smallA a = true) : a.bts.length ≤ 600 ∧ a.ents.length ≤ 220 ∧ a.nams.length ≤ 120 := by
  simpa [smallA, and_assoc] using h

noncomputable def F19 : Fun
  | [y] => match inv aT y with
    | some a => if a.ents.length ≤ 1000000 then some ([], .t (aT a)) else none
    | none => none
  | _ => none

theorem ct19 : CT [] [0, 1, 2, 3, 4, 5, 31] [] := ⟨GClOk.nil _⟩

set_option maxRecDepth 20000 in
set_option maxHeartbeats 4000000 in
theorem c19 : ACon Try.prog 19 F19 := by
  refine aconc E_ok (rs := [.cell 2 52]) Try.func19 rfl Try.ntmps19 (by kernel_rfl) rfl (by decide) F19 (np := 1) ?_ ?_
  · intro ts h; unfold F19; split <;> first | rfl | (simp at h; done)
  intro ts H r hF hwf
  unfold F19 at hF
  split at hF <;> try (cases hF; done)
  split at hF <;> try (cases hF; done)
  rename_i a ha
  split at hF
  case isFalse => cases hF
  rename_i hl
  cases hF
  obtain rfl := inv_inv ha
  have hn := a.name.2
  have mE : (a.ents.map eT).length = a.ents.length := List.length_map ..
  rw [aT_st, wT_st]
  repeat refine St hn ct19 ?_
  refine AWP.loop (G := { i : Nat // i ≤ a.ents.length }) (fun i => match i.1 with
      | 0 => ⟨[(1, .ptr 0 0 []), (2, .ptr 1 0 []), (3, .ptr 2 0 []), (4, .t (.int .i64 0))], [.bx (.t (.st [.int .u8 (a.op.toNat : Int), .int .i64 a.e, .ba 32 a.name.1, .int .u32 (a.hgt.toNat : Int), .ar 4 1 [.int .u64 (a.work.a.toNat : Int), .int .u64 (a.work.b.toNat : Int), .int .u64 (a.work.c.toNat : Int), .int .u64 (a.work.d.toNat : Int)], .int .u64 (a.val.toNat : Int), .bool a.fst, .by a.bts, .sq 69 (a.ents.map eT), .ar 5 1 (a.nums.1.map nT), .sq 32 (a.nams.map hT)])), .bx (.t (.st [.int .u8 0, .int .i64 0, .ba 32 (zby 32), .int .u32 0, .ar 4 1 [.int .u64 0, .int .u64 0, .int .u64 0, .int .u64 0], .int .u64 0, .bool false, .nil, .nil, .ar 5 1 [.int .u32 0, .int .u32 0, .int .u32 0, .int .u32 0, .int .u32 0], .nil])), .bx (.t (.st [.int .u8 (a.op.toNat : Int), .int .i64 a.e, .ba 32 a.name.1, .int .u32 (a.hgt.toNat : Int), .ar 4 1 [.int .u64 (a.work.a.toNat : Int), .int .u64 (a.work.b.toNat : Int), .int .u64 (a.work.c.toNat : Int), .int .u64 (a.work.d.toNat : Int)], .int .u64 (a.val.toNat : Int), .bool a.fst, .by a.bts, .nil, .ar 5 1 (a.nums.1.map nT), .sq 32 (a.nams.map hT)]))]⟩
      | i + 1 => ⟨[(1, .ptr 0 0 []), (2, .ptr 1 0 []), (3, .ptr 2 0 []), (4, .t (.int .i64 ((i + 1 : Nat) : Int)))], [.bx (.t (.st [.int .u8 (a.op.toNat : Int), .int .i64 a.e, .ba 32 a.name.1, .int .u32 (a.hgt.toNat : Int), .ar 4 1 [.int .u64 (a.work.a.toNat : Int), .int .u64 (a.work.b.toNat : Int), .int .u64 (a.work.c.toNat : Int), .int .u64 (a.work.d.toNat : Int)], .int .u64 (a.val.toNat : Int), .bool a.fst, .by a.bts, .sq 69 (a.ents.map eT), .ar 5 1 (a.nums.1.map nT), .sq 32 (a.nams.map hT)])), .bx (.t (.st [.int .u8 0, .int .i64 0, .ba 32 (zby 32), .int .u32 0, .ar 4 1 [.int .u64 0, .int .u64 0, .int .u64 0, .int .u64 0], .int .u64 0, .bool false, .nil, .nil, .ar 5 1 [.int .u32 0, .int .u32 0, .int .u32 0, .int .u32 0, .int .u32 0], .nil])), .bx (.st [.t (.int .u8 (a.op.toNat : Int)), .t (.int .i64 a.e), .t (.ba 32 a.name.1), .t (.int .u32 (a.hgt.toNat : Int)), .t (.ar 4 1 [.int .u64 (a.work.a.toNat : Int), .int .u64 (a.work.b.toNat : Int), .int .u64 (a.work.c.toNat : Int), .int .u64 (a.work.d.toNat : Int)]), .t (.int .u64 (a.val.toNat : Int)), .t (.bool a.fst), .t (.by a.bts), .own 3, .t (.ar 5 1 (a.nums.1.map nT)), .t (.sq 32 (a.nams.map hT))]), .sq 69 ((a.ents.take (i + 1)).map eT)]⟩) (fun i => a.ents.length - i.1) ⟨0, Nat.zero_le _⟩ (Wt trivial [1, 2, 3, 4] [0, 1, 2]) ?_
  rintro ⟨i, hi⟩
  dsimp only
  have hst : ∀ i, i < a.ents.length → (a.ents.take i).map eT ++ [eT (a.ents.getD i dE)] = (a.ents.take (i + 1)).map eT := fun i h => by rw [take_getDx dE _ _ h, List.map_append]; rfl
  have hget : ∀ i, i < a.ents.length → (a.ents.map eT).getD i default = eT (a.ents.getD i dE) := fun i h => entE_getD _ i h
  have hsz : ∀ e : TE, (eT e).size = 69 := fun e => rfl
  cases i with
  | zero =>
    dsimp only
    by_cases h0 : 0 < a.ents.length
    · have h0' : (0 : Int) < (a.ents.length : Int) := by omega
      have g := hget 0 h0
      have s1 := hst 0 h0
      rw [List.take_zero, List.map_nil, List.nil_append] at s1
      have hs1 := (a.ents.getD 0 dE).tx.2
      have hs2 := (a.ents.getD 0 dE).tpl.2
      generalize a.ents.getD 0 dE = x at *
      rw [eT_st] at g s1
      repeat refine St (And.intro h0 <| And.intro h0' <| And.intro mE <| And.intro g <| And.intro hs1 <| And.intro hs2 <| hn) ct19 ?_
      exact ⟨⟨1, by omega⟩, (Wt s1 [1, 2, 3, 4] [0, 1, 2, 5]), by simp only; omega⟩
    · have h0' : ¬ (0 : Int) < (a.ents.length : Int) := by omega
      have he : a.ents = [] := List.length_eq_zero_iff.1 (by omega)
      repeat refine St (And.intro h0' <| And.intro mE <| hn) ct19 ?_
      exact AWP.ret (Fin (And.intro he <| @List.map_nil.{0, 0}) [] [])
  | succ i =>
    dsimp only
    have hw : IntKind.i64.wrap (((i + 1 : Nat) : Int) + 1) = ((i + 1 + 1 : Nat) : Int) := by rw [wrap_i64 (by omega) (by omega)]; omega
    have ml : ((a.ents.take (i + 1)).map eT).length = i + 1 := by rw [List.length_map, List.length_take]; omega
    by_cases h0 : i + 1 < a.ents.length
    · have h0' : ((i + 1 : Nat) : Int) < (a.ents.length : Int) := by omega
      have g := hget (i + 1) h0
      have s1 := hst (i + 1) h0
      have hs1 := (a.ents.getD (i + 1) dE).tx.2
      have hs2 := (a.ents.getD (i + 1) dE).tpl.2
      generalize a.ents.getD (i + 1) dE = x at *
      rw [eT_st] at g s1
      repeat refine St (And.intro h0 <| And.intro h0' <| And.intro mE <| And.intro g <| And.intro hs1 <| And.intro hs2 <| And.intro hn <| And.intro hw <| ml) ct19 ?_
      exact ⟨⟨i + 1 + 1, by omega⟩, (Wt s1 [1, 2, 3, 4] [0, 1, 2, 6]), by simp only; omega⟩
    · have h0' : ¬ ((i + 1 : Nat) : Int) < (a.ents.length : Int) := by omega
      have he : a.ents.take (i + 1) = a.ents := List.take_of_length_le (by omega)
      repeat refine St (And.intro h0' <| And.intro mE <| hn) ct19 ?_
      exact AWP.ret (Fin he [3] [])

theorem anst_c {a : TA} (h : a.ents.length ≤ 1000000) : F19 [aT a] = some ([], .t (aT a)) := by simp only [F19, inv_of aT_inj]; exact if_pos h

end Go.Fw

end
