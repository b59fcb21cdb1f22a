/- pontoon/pontoonlaw28.AuditChains: whatever the input (the listed variables as the program's text lays them), the call returns true and each argument reads afterwards as it read before: the tied card. -/
import Derived.Test.YtafeolgdggncnaaDoorC2u
import Derived.Test.YtafeolgdggncnaaDoorA22
import Derived.Test.YtafeolgdggncnaaDoorP71
import Derived.SevenTiedAt
namespace Go.Proofs.YtafeolgdggncnaaDoor
open Go Go.RowKit Go.Proofs Go.ChangeShapes Go.WideShapes Go.ChangeAt Go.WideMaps Go.WideElems
set_option maxRecDepth 100000
theorem cO22 : Tryd.prog.cellsOf 22 = 1 := by kernel_rfl
theorem cO23 : Tryd.prog.cellsOf 23 = 1 := by kernel_rfl
theorem cO9 : Tryd.prog.cellsOf 9 = 1 := by kernel_rfl
theorem cO5 : Tryd.prog.cellsOf 5 = 1 := by kernel_rfl
theorem cO33 : Tryd.prog.cellsOf 33 = 32 := by kernel_rfl
theorem cO118 : Tryd.prog.cellsOf 118 = 35 := by kernel_rfl
theorem S_api_Account.opens : Opens Tryd.prog 118 S_api_Account.ck := by
  intro H enc w base sp held fuel cs r h
  obtain ⟨hl, hf⟩ := opens_fields Tryd.underlying118 h
  obtain ⟨x0, h0⟩ : ∃ x, Lrel (allPub w) ((cs.drop 0).take (Tryd.prog.cellsOf 9)) (strC x) := hf 0 _ rfl (opens_str Tryd.underlying9)
  obtain ⟨x1, h1⟩ : ∃ x, Lrel (allPub w) ((cs.drop 1).take (Tryd.prog.cellsOf 33)) ((dC 32) x) := hf 1 _ rfl (opens_bytes Tryd.underlying33 Tryd.underlying5 cO5 cO33)
  obtain ⟨x2, h2⟩ : ∃ x, Lrel (allPub w) ((cs.drop 33).take (Tryd.prog.cellsOf 23)) ((iC .u64) x) := hf 2 _ rfl (opens_int Tryd.underlying23)
  obtain ⟨x3, h3⟩ : ∃ x, Lrel (allPub w) ((cs.drop 34).take (Tryd.prog.cellsOf 23)) ((iC .u64) x) := hf 3 _ rfl (opens_int Tryd.underlying23)
  rw [cO9] at h0
  rw [cO33] at h1
  rw [cO23] at h2
  rw [cO23] at h3
  exact ⟨⟨x0, x1, x2, x3⟩, cut1 0 _ h0 (cut1 _ _ h1 (cut1 _ _ h2 (cut1 _ _ h3 (cut0 (hl.trans cO118)))))⟩
def S_api_Account.W (x : S_api_Account) : Prop := (x.f_Name.length ≤ mxl) ∧ (x.f_Key.length = 32) ∧ (InR .u64 x.f_Nonce) ∧ (InR .u64 x.f_Coins)
theorem S_api_Account.wf {Φ : Pub} {cs : List Value} {x : S_api_Account} (h : Lrel Φ cs (S_api_Account.ck x)) : S_api_Account.W x := by
  obtain ⟨⟨_, g0⟩, _, k0⟩ := wf_cut h
  obtain ⟨⟨_, g1⟩, _, k1⟩ := wf_cut k0
  obtain ⟨⟨_, g2⟩, _, k2⟩ := wf_cut k1
  obtain ⟨⟨_, g3⟩, _, k3⟩ := wf_cut k2
  exact ⟨wf_str _ _ _ g0, wf_bytes _ _ _ g1, wf_int _ _ _ g2, wf_int _ _ _ g3⟩
theorem S_api_Account.wf' : ∀ (Φ : Pub) (cs : List Value) (x : S_api_Account), Lrel Φ cs (S_api_Account.ck x) → S_api_Account.W x := fun _ _ _ h => S_api_Account.wf h
theorem cO24 : Tryd.prog.cellsOf 24 = 1 := by kernel_rfl
theorem cO3 : Tryd.prog.cellsOf 3 = 1 := by kernel_rfl
theorem cO96 : Tryd.prog.cellsOf 96 = 35 := by kernel_rfl
theorem S_api_Event.opens : Opens Tryd.prog 96 S_api_Event.ck := by
  intro H enc w base sp held fuel cs r h
  obtain ⟨hl, hf⟩ := opens_fields Tryd.underlying96 h
  obtain ⟨x0, h0⟩ : ∃ x, Lrel (allPub w) ((cs.drop 0).take (Tryd.prog.cellsOf 3)) ((iC .i64) x) := hf 0 _ rfl (opens_int Tryd.underlying3)
  obtain ⟨x1, h1⟩ : ∃ x, Lrel (allPub w) ((cs.drop 1).take (Tryd.prog.cellsOf 9)) (strC x) := hf 1 _ rfl (opens_str Tryd.underlying9)
  obtain ⟨x2, h2⟩ : ∃ x, Lrel (allPub w) ((cs.drop 2).take (Tryd.prog.cellsOf 23)) ((iC .u64) x) := hf 2 _ rfl (opens_int Tryd.underlying23)
  obtain ⟨x3, h3⟩ : ∃ x, Lrel (allPub w) ((cs.drop 3).take (Tryd.prog.cellsOf 33)) ((dC 32) x) := hf 3 _ rfl (opens_bytes Tryd.underlying33 Tryd.underlying5 cO5 cO33)
  rw [cO3] at h0
  rw [cO9] at h1
  rw [cO23] at h2
  rw [cO33] at h3
  exact ⟨⟨x0, x1, x2, x3⟩, cut1 0 _ h0 (cut1 _ _ h1 (cut1 _ _ h2 (cut1 _ _ h3 (cut0 (hl.trans cO96)))))⟩
def S_api_Event.W (x : S_api_Event) : Prop := (InR .i64 x.f_Kind) ∧ (x.f_Name.length ≤ mxl) ∧ (InR .u64 x.f_Number) ∧ (x.f_Digest.length = 32)
theorem S_api_Event.wf {Φ : Pub} {cs : List Value} {x : S_api_Event} (h : Lrel Φ cs (S_api_Event.ck x)) : S_api_Event.W x := by
  obtain ⟨⟨_, g0⟩, _, k0⟩ := wf_cut h
  obtain ⟨⟨_, g1⟩, _, k1⟩ := wf_cut k0
  obtain ⟨⟨_, g2⟩, _, k2⟩ := wf_cut k1
  obtain ⟨⟨_, g3⟩, _, k3⟩ := wf_cut k2
  exact ⟨wf_int _ _ _ g0, wf_str _ _ _ g1, wf_int _ _ _ g2, wf_bytes _ _ _ g3⟩
theorem S_api_Event.wf' : ∀ (Φ : Pub) (cs : List Value) (x : S_api_Event), Lrel Φ cs (S_api_Event.ck x) → S_api_Event.W x := fun _ _ _ h => S_api_Event.wf h
theorem cO25 : Tryd.prog.cellsOf 25 = 1 := by kernel_rfl
theorem cO27 : Tryd.prog.cellsOf 27 = 5 := by kernel_rfl
theorem S_api_Ledger.opens : Opens Tryd.prog 27 S_api_Ledger.ck := by
  intro H enc w base sp held fuel cs r h
  obtain ⟨hl, hf⟩ := opens_fields Tryd.underlying27 h
  obtain ⟨x0, h0⟩ : ∃ x, Lrel (allPub w) ((cs.drop 0).take (Tryd.prog.cellsOf 23)) ((iC .u64) x) := hf 0 _ rfl (opens_int Tryd.underlying23)
  obtain ⟨x1, h1⟩ : ∃ x, Lrel (allPub w) ((cs.drop 1).take (Tryd.prog.cellsOf 23)) ((iC .u64) x) := hf 1 _ rfl (opens_int Tryd.underlying23)
  obtain ⟨x2, h2⟩ : ∃ x, Lrel (allPub w) ((cs.drop 2).take (Tryd.prog.cellsOf 23)) ((iC .u64) x) := hf 2 _ rfl (opens_int Tryd.underlying23)
  obtain ⟨x3, h3⟩ : ∃ x, Lrel (allPub w) ((cs.drop 3).take (Tryd.prog.cellsOf 24)) ((slC S_api_Account.ck) x) := hf 3 _ rfl (opens_slice Tryd.underlying24 S_api_Account.opens cO118 S_api_Account.lens (by decide))
  obtain ⟨x4, h4⟩ : ∃ x, Lrel (allPub w) ((cs.drop 4).take (Tryd.prog.cellsOf 25)) ((slC S_api_Event.ck) x) := hf 4 _ rfl (opens_slice Tryd.underlying25 S_api_Event.opens cO96 S_api_Event.lens (by decide))
  rw [cO23] at h0
  rw [cO23] at h1
  rw [cO23] at h2
  rw [cO24] at h3
  rw [cO25] at h4
  exact ⟨⟨x0, x1, x2, x3, x4⟩, cut1 0 _ h0 (cut1 _ _ h1 (cut1 _ _ h2 (cut1 _ _ h3 (cut1 _ _ h4 (cut0 (hl.trans cO27))))))⟩
def S_api_Ledger.W (x : S_api_Ledger) : Prop := (InR .u64 x.f_Height) ∧ (InR .u64 x.f_Time) ∧ (InR .u64 x.f_Gas) ∧ (x.f_Accounts.length ≤ mxl ∧ ∀ y ∈ x.f_Accounts, S_api_Account.W y) ∧ (x.f_Events.length ≤ mxl ∧ ∀ y ∈ x.f_Events, S_api_Event.W y)
theorem S_api_Ledger.wf {Φ : Pub} {cs : List Value} {x : S_api_Ledger} (h : Lrel Φ cs (S_api_Ledger.ck x)) : S_api_Ledger.W x := by
  obtain ⟨⟨_, g0⟩, _, k0⟩ := wf_cut h
  obtain ⟨⟨_, g1⟩, _, k1⟩ := wf_cut k0
  obtain ⟨⟨_, g2⟩, _, k2⟩ := wf_cut k1
  obtain ⟨⟨_, g3⟩, _, k3⟩ := wf_cut k2
  obtain ⟨⟨_, g4⟩, _, k4⟩ := wf_cut k3
  exact ⟨wf_int _ _ _ g0, wf_int _ _ _ g1, wf_int _ _ _ g2, (wf_slice S_api_Account.wf') _ _ _ g3, (wf_slice S_api_Event.wf') _ _ _ g4⟩
theorem S_api_Ledger.wf' : ∀ (Φ : Pub) (cs : List Value) (x : S_api_Ledger), Lrel Φ cs (S_api_Ledger.ck x) → S_api_Ledger.W x := fun _ _ _ h => S_api_Ledger.wf h
theorem cO82 : Tryd.prog.cellsOf 82 = 7 := by kernel_rfl
theorem S_api_Token.opens : Opens Tryd.prog 82 S_api_Token.ck := by
  intro H enc w base sp held fuel cs r h
  obtain ⟨hl, hf⟩ := opens_fields Tryd.underlying82 h
  obtain ⟨x0, h0⟩ : ∃ x, Lrel (allPub w) ((cs.drop 0).take (Tryd.prog.cellsOf 22)) ((iC .u32) x) := hf 0 _ rfl (opens_int Tryd.underlying22)
  obtain ⟨x1, h1⟩ : ∃ x, Lrel (allPub w) ((cs.drop 1).take (Tryd.prog.cellsOf 9)) (strC x) := hf 1 _ rfl (opens_str Tryd.underlying9)
  obtain ⟨x2, h2⟩ : ∃ x, Lrel (allPub w) ((cs.drop 2).take (Tryd.prog.cellsOf 23)) ((iC .u64) x) := hf 2 _ rfl (opens_int Tryd.underlying23)
  obtain ⟨x3, h3⟩ : ∃ x, Lrel (allPub w) ((cs.drop 3).take (Tryd.prog.cellsOf 23)) ((iC .u64) x) := hf 3 _ rfl (opens_int Tryd.underlying23)
  obtain ⟨x4, h4⟩ : ∃ x, Lrel (allPub w) ((cs.drop 4).take (Tryd.prog.cellsOf 23)) ((iC .u64) x) := hf 4 _ rfl (opens_int Tryd.underlying23)
  obtain ⟨x5, h5⟩ : ∃ x, Lrel (allPub w) ((cs.drop 5).take (Tryd.prog.cellsOf 23)) ((iC .u64) x) := hf 5 _ rfl (opens_int Tryd.underlying23)
  obtain ⟨x6, h6⟩ : ∃ x, Lrel (allPub w) ((cs.drop 6).take (Tryd.prog.cellsOf 23)) ((iC .u64) x) := hf 6 _ rfl (opens_int Tryd.underlying23)
  rw [cO22] at h0
  rw [cO9] at h1
  rw [cO23] at h2
  rw [cO23] at h3
  rw [cO23] at h4
  rw [cO23] at h5
  rw [cO23] at h6
  exact ⟨⟨x0, x1, x2, x3, x4, x5, x6⟩, cut1 0 _ h0 (cut1 _ _ h1 (cut1 _ _ h2 (cut1 _ _ h3 (cut1 _ _ h4 (cut1 _ _ h5 (cut1 _ _ h6 (cut0 (hl.trans cO82))))))))⟩
def S_api_Token.W (x : S_api_Token) : Prop := (InR .u32 x.f_Origin) ∧ (x.f_Name.length ≤ mxl) ∧ (InR .u64 x.f_Cap) ∧ (InR .u64 x.f_Locked) ∧ (InR .u64 x.f_Unlocked) ∧ (InR .u64 x.f_Minted) ∧ (InR .u64 x.f_Burned)
theorem S_api_Token.wf {Φ : Pub} {cs : List Value} {x : S_api_Token} (h : Lrel Φ cs (S_api_Token.ck x)) : S_api_Token.W x := by
  obtain ⟨⟨_, g0⟩, _, k0⟩ := wf_cut h
  obtain ⟨⟨_, g1⟩, _, k1⟩ := wf_cut k0
  obtain ⟨⟨_, g2⟩, _, k2⟩ := wf_cut k1
  obtain ⟨⟨_, g3⟩, _, k3⟩ := wf_cut k2
  obtain ⟨⟨_, g4⟩, _, k4⟩ := wf_cut k3
  obtain ⟨⟨_, g5⟩, _, k5⟩ := wf_cut k4
  obtain ⟨⟨_, g6⟩, _, k6⟩ := wf_cut k5
  exact ⟨wf_int _ _ _ g0, wf_str _ _ _ g1, wf_int _ _ _ g2, wf_int _ _ _ g3, wf_int _ _ _ g4, wf_int _ _ _ g5, wf_int _ _ _ g6⟩
theorem S_api_Token.wf' : ∀ (Φ : Pub) (cs : List Value) (x : S_api_Token), Lrel Φ cs (S_api_Token.ck x) → S_api_Token.W x := fun _ _ _ h => S_api_Token.wf h
theorem cO28 : Tryd.prog.cellsOf 28 = 1 := by kernel_rfl
theorem cO120 : Tryd.prog.cellsOf 120 = 4 := by kernel_rfl
theorem S_api_Holding.opens : Opens Tryd.prog 120 S_api_Holding.ck := by
  intro H enc w base sp held fuel cs r h
  obtain ⟨hl, hf⟩ := opens_fields Tryd.underlying120 h
  obtain ⟨x0, h0⟩ : ∃ x, Lrel (allPub w) ((cs.drop 0).take (Tryd.prog.cellsOf 22)) ((iC .u32) x) := hf 0 _ rfl (opens_int Tryd.underlying22)
  obtain ⟨x1, h1⟩ : ∃ x, Lrel (allPub w) ((cs.drop 1).take (Tryd.prog.cellsOf 9)) (strC x) := hf 1 _ rfl (opens_str Tryd.underlying9)
  obtain ⟨x2, h2⟩ : ∃ x, Lrel (allPub w) ((cs.drop 2).take (Tryd.prog.cellsOf 9)) (strC x) := hf 2 _ rfl (opens_str Tryd.underlying9)
  obtain ⟨x3, h3⟩ : ∃ x, Lrel (allPub w) ((cs.drop 3).take (Tryd.prog.cellsOf 23)) ((iC .u64) x) := hf 3 _ rfl (opens_int Tryd.underlying23)
  rw [cO22] at h0
  rw [cO9] at h1
  rw [cO9] at h2
  rw [cO23] at h3
  exact ⟨⟨x0, x1, x2, x3⟩, cut1 0 _ h0 (cut1 _ _ h1 (cut1 _ _ h2 (cut1 _ _ h3 (cut0 (hl.trans cO120)))))⟩
def S_api_Holding.W (x : S_api_Holding) : Prop := (InR .u32 x.f_Origin) ∧ (x.f_Token.length ≤ mxl) ∧ (x.f_Owner.length ≤ mxl) ∧ (InR .u64 x.f_Amount)
theorem S_api_Holding.wf {Φ : Pub} {cs : List Value} {x : S_api_Holding} (h : Lrel Φ cs (S_api_Holding.ck x)) : S_api_Holding.W x := by
  obtain ⟨⟨_, g0⟩, _, k0⟩ := wf_cut h
  obtain ⟨⟨_, g1⟩, _, k1⟩ := wf_cut k0
  obtain ⟨⟨_, g2⟩, _, k2⟩ := wf_cut k1
  obtain ⟨⟨_, g3⟩, _, k3⟩ := wf_cut k2
  exact ⟨wf_int _ _ _ g0, wf_str _ _ _ g1, wf_str _ _ _ g2, wf_int _ _ _ g3⟩
theorem S_api_Holding.wf' : ∀ (Φ : Pub) (cs : List Value) (x : S_api_Holding), Lrel Φ cs (S_api_Holding.ck x) → S_api_Holding.W x := fun _ _ _ h => S_api_Holding.wf h
theorem cO29 : Tryd.prog.cellsOf 29 = 1 := by kernel_rfl
theorem cO31 : Tryd.prog.cellsOf 31 = 2 := by kernel_rfl
theorem S_api_Purse.opens : Opens Tryd.prog 31 S_api_Purse.ck := by
  intro H enc w base sp held fuel cs r h
  obtain ⟨hl, hf⟩ := opens_fields Tryd.underlying31 h
  obtain ⟨x0, h0⟩ : ∃ x, Lrel (allPub w) ((cs.drop 0).take (Tryd.prog.cellsOf 28)) ((slC S_api_Token.ck) x) := hf 0 _ rfl (opens_slice Tryd.underlying28 S_api_Token.opens cO82 S_api_Token.lens (by decide))
  obtain ⟨x1, h1⟩ : ∃ x, Lrel (allPub w) ((cs.drop 1).take (Tryd.prog.cellsOf 29)) ((slC S_api_Holding.ck) x) := hf 1 _ rfl (opens_slice Tryd.underlying29 S_api_Holding.opens cO120 S_api_Holding.lens (by decide))
  rw [cO28] at h0
  rw [cO29] at h1
  exact ⟨⟨x0, x1⟩, cut1 0 _ h0 (cut1 _ _ h1 (cut0 (hl.trans cO31)))⟩
def S_api_Purse.W (x : S_api_Purse) : Prop := (x.f_Tokens.length ≤ mxl ∧ ∀ y ∈ x.f_Tokens, S_api_Token.W y) ∧ (x.f_Holdings.length ≤ mxl ∧ ∀ y ∈ x.f_Holdings, S_api_Holding.W y)
theorem S_api_Purse.wf {Φ : Pub} {cs : List Value} {x : S_api_Purse} (h : Lrel Φ cs (S_api_Purse.ck x)) : S_api_Purse.W x := by
  obtain ⟨⟨_, g0⟩, _, k0⟩ := wf_cut h
  obtain ⟨⟨_, g1⟩, _, k1⟩ := wf_cut k0
  exact ⟨(wf_slice S_api_Token.wf') _ _ _ g0, (wf_slice S_api_Holding.wf') _ _ _ g1⟩
theorem S_api_Purse.wf' : ∀ (Φ : Pub) (cs : List Value) (x : S_api_Purse), Lrel Φ cs (S_api_Purse.ck x) → S_api_Purse.W x := fun _ _ _ h => S_api_Purse.wf h
theorem cO34 : Tryd.prog.cellsOf 34 = 1024 := by kernel_rfl
theorem cO36 : Tryd.prog.cellsOf 36 = 1025 := by kernel_rfl
theorem S_api_Tree.opens : Opens Tryd.prog 36 S_api_Tree.ck := by
  intro H enc w base sp held fuel cs r h
  obtain ⟨hl, hf⟩ := opens_fields Tryd.underlying36 h
  obtain ⟨x0, h0⟩ : ∃ x, Lrel (allPub w) ((cs.drop 0).take (Tryd.prog.cellsOf 22)) ((iC .u32) x) := hf 0 _ rfl (opens_int Tryd.underlying22)
  obtain ⟨x1, h1⟩ : ∃ x, Lrel (allPub w) ((cs.drop 1).take (Tryd.prog.cellsOf 34)) ((fun l => [arrCk 32 32 (dC 32) (lens_dC 32) l]) x) := hf 1 _ rfl (opens_arr Tryd.underlying34 (opens_bytes Tryd.underlying33 Tryd.underlying5 cO5 cO33) cO33 (cO34.trans rfl))
  rw [cO22] at h0
  rw [cO34] at h1
  exact ⟨⟨x0, x1⟩, cut1 0 _ h0 (cut1 _ _ h1 (cut0 (hl.trans cO36)))⟩
def S_api_Tree.W (x : S_api_Tree) : Prop := (InR .u32 x.f_Count) ∧ (x.f_Branches.length = 32 ∧ ∀ y ∈ x.f_Branches, y.length = 32)
theorem S_api_Tree.wf {Φ : Pub} {cs : List Value} {x : S_api_Tree} (h : Lrel Φ cs (S_api_Tree.ck x)) : S_api_Tree.W x := by
  obtain ⟨⟨_, g0⟩, _, k0⟩ := wf_cut h
  obtain ⟨⟨_, g1⟩, _, k1⟩ := wf_cut k0
  exact ⟨wf_int _ _ _ g0, (wf_arr wf_bytes) _ _ _ g1⟩
theorem S_api_Tree.wf' : ∀ (Φ : Pub) (cs : List Value) (x : S_api_Tree), Lrel Φ cs (S_api_Tree.ck x) → S_api_Tree.W x := fun _ _ _ h => S_api_Tree.wf h
theorem cO37 : Tryd.prog.cellsOf 37 = 1 := by kernel_rfl
theorem cO173 : Tryd.prog.cellsOf 173 = 2 := by kernel_rfl
theorem S_api_Nonce.opens : Opens Tryd.prog 173 S_api_Nonce.ck := by
  intro H enc w base sp held fuel cs r h
  obtain ⟨hl, hf⟩ := opens_fields Tryd.underlying173 h
  obtain ⟨x0, h0⟩ : ∃ x, Lrel (allPub w) ((cs.drop 0).take (Tryd.prog.cellsOf 22)) ((iC .u32) x) := hf 0 _ rfl (opens_int Tryd.underlying22)
  obtain ⟨x1, h1⟩ : ∃ x, Lrel (allPub w) ((cs.drop 1).take (Tryd.prog.cellsOf 22)) ((iC .u32) x) := hf 1 _ rfl (opens_int Tryd.underlying22)
  rw [cO22] at h0
  rw [cO22] at h1
  exact ⟨⟨x0, x1⟩, cut1 0 _ h0 (cut1 _ _ h1 (cut0 (hl.trans cO173)))⟩
def S_api_Nonce.W (x : S_api_Nonce) : Prop := (InR .u32 x.f_To) ∧ (InR .u32 x.f_Next)
theorem S_api_Nonce.wf {Φ : Pub} {cs : List Value} {x : S_api_Nonce} (h : Lrel Φ cs (S_api_Nonce.ck x)) : S_api_Nonce.W x := by
  obtain ⟨⟨_, g0⟩, _, k0⟩ := wf_cut h
  obtain ⟨⟨_, g1⟩, _, k1⟩ := wf_cut k0
  exact ⟨wf_int _ _ _ g0, wf_int _ _ _ g1⟩
theorem S_api_Nonce.wf' : ∀ (Φ : Pub) (cs : List Value) (x : S_api_Nonce), Lrel Φ cs (S_api_Nonce.ck x) → S_api_Nonce.W x := fun _ _ _ h => S_api_Nonce.wf h
theorem cO38 : Tryd.prog.cellsOf 38 = 1 := by kernel_rfl
theorem cO4 : Tryd.prog.cellsOf 4 = 1 := by kernel_rfl
theorem cO40 : Tryd.prog.cellsOf 40 = 1095 := by kernel_rfl
theorem S_api_Home.opens : Opens Tryd.prog 40 S_api_Home.ck := by
  intro H enc w base sp held fuel cs r h
  obtain ⟨hl, hf⟩ := opens_fields Tryd.underlying40 h
  obtain ⟨x0, h0⟩ : ∃ x, Lrel (allPub w) ((cs.drop 0).take (Tryd.prog.cellsOf 22)) ((iC .u32) x) := hf 0 _ rfl (opens_int Tryd.underlying22)
  obtain ⟨x1, h1⟩ : ∃ x, Lrel (allPub w) ((cs.drop 1).take (Tryd.prog.cellsOf 33)) ((dC 32) x) := hf 1 _ rfl (opens_bytes Tryd.underlying33 Tryd.underlying5 cO5 cO33)
  obtain ⟨x2, h2⟩ : ∃ x, Lrel (allPub w) ((cs.drop 33).take (Tryd.prog.cellsOf 36)) (S_api_Tree.ck x) := hf 2 _ rfl S_api_Tree.opens
  obtain ⟨x3, h3⟩ : ∃ x, Lrel (allPub w) ((cs.drop 1058).take (Tryd.prog.cellsOf 37)) ((slC (dC 32)) x) := hf 3 _ rfl (opens_slice Tryd.underlying37 (opens_bytes Tryd.underlying33 Tryd.underlying5 cO5 cO33) cO33 (lens_dC 32) (by decide))
  obtain ⟨x4, h4⟩ : ∃ x, Lrel (allPub w) ((cs.drop 1059).take (Tryd.prog.cellsOf 37)) ((slC (dC 32)) x) := hf 4 _ rfl (opens_slice Tryd.underlying37 (opens_bytes Tryd.underlying33 Tryd.underlying5 cO5 cO33) cO33 (lens_dC 32) (by decide))
  obtain ⟨x5, h5⟩ : ∃ x, Lrel (allPub w) ((cs.drop 1060).take (Tryd.prog.cellsOf 33)) ((dC 32) x) := hf 5 _ rfl (opens_bytes Tryd.underlying33 Tryd.underlying5 cO5 cO33)
  obtain ⟨x6, h6⟩ : ∃ x, Lrel (allPub w) ((cs.drop 1092).take (Tryd.prog.cellsOf 38)) ((slC S_api_Nonce.ck) x) := hf 6 _ rfl (opens_slice Tryd.underlying38 S_api_Nonce.opens cO173 S_api_Nonce.lens (by decide))
  obtain ⟨x7, h7⟩ : ∃ x, Lrel (allPub w) ((cs.drop 1093).take (Tryd.prog.cellsOf 23)) ((iC .u64) x) := hf 7 _ rfl (opens_int Tryd.underlying23)
  obtain ⟨x8, h8⟩ : ∃ x, Lrel (allPub w) ((cs.drop 1094).take (Tryd.prog.cellsOf 4)) (boC x) := hf 8 _ rfl (opens_bool Tryd.underlying4)
  rw [cO22] at h0
  rw [cO33] at h1
  rw [cO36] at h2
  rw [cO37] at h3
  rw [cO37] at h4
  rw [cO33] at h5
  rw [cO38] at h6
  rw [cO23] at h7
  rw [cO4] at h8
  exact ⟨⟨x0, x1, x2, x3, x4, x5, x6, x7, x8⟩, cut1 0 _ h0 (cut1 _ _ h1 (cut1 _ _ h2 (cut1 _ _ h3 (cut1 _ _ h4 (cut1 _ _ h5 (cut1 _ _ h6 (cut1 _ _ h7 (cut1 _ _ h8 (cut0 (hl.trans cO40))))))))))⟩
def S_api_Home.W (x : S_api_Home) : Prop := (InR .u32 x.f_Chain) ∧ (x.f_Updater.length = 32) ∧ (S_api_Tree.W x.f_Tree) ∧ (x.f_Leaves.length ≤ mxl ∧ ∀ y ∈ x.f_Leaves, y.length = 32) ∧ (x.f_Queue.length ≤ mxl ∧ ∀ y ∈ x.f_Queue, y.length = 32) ∧ (x.f_Committed.length = 32) ∧ (x.f_Nonces.length ≤ mxl ∧ ∀ y ∈ x.f_Nonces, S_api_Nonce.W y) ∧ (InR .u64 x.f_Bond)
theorem S_api_Home.wf {Φ : Pub} {cs : List Value} {x : S_api_Home} (h : Lrel Φ cs (S_api_Home.ck x)) : S_api_Home.W x := by
  obtain ⟨⟨_, g0⟩, _, k0⟩ := wf_cut h
  obtain ⟨⟨_, g1⟩, _, k1⟩ := wf_cut k0
  obtain ⟨⟨_, g2⟩, _, k2⟩ := wf_cuts (K := S_api_Tree.ck x.f_Tree) k1
  obtain ⟨⟨_, g3⟩, _, k3⟩ := wf_cut k2
  obtain ⟨⟨_, g4⟩, _, k4⟩ := wf_cut k3
  obtain ⟨⟨_, g5⟩, _, k5⟩ := wf_cut k4
  obtain ⟨⟨_, g6⟩, _, k6⟩ := wf_cut k5
  obtain ⟨⟨_, g7⟩, _, k7⟩ := wf_cut k6
  obtain ⟨⟨_, g8⟩, _, k8⟩ := wf_cut k7
  exact ⟨wf_int _ _ _ g0, wf_bytes _ _ _ g1, S_api_Tree.wf' _ _ _ g2, (wf_slice wf_bytes) _ _ _ g3, (wf_slice wf_bytes) _ _ _ g4, wf_bytes _ _ _ g5, (wf_slice S_api_Nonce.wf') _ _ _ g6, wf_int _ _ _ g7⟩
theorem S_api_Home.wf' : ∀ (Φ : Pub) (cs : List Value) (x : S_api_Home), Lrel Φ cs (S_api_Home.ck x) → S_api_Home.W x := fun _ _ _ h => S_api_Home.wf h
theorem cO175 : Tryd.prog.cellsOf 175 = 33 := by kernel_rfl
theorem S_api_Timed.opens : Opens Tryd.prog 175 S_api_Timed.ck := by
  intro H enc w base sp held fuel cs r h
  obtain ⟨hl, hf⟩ := opens_fields Tryd.underlying175 h
  obtain ⟨x0, h0⟩ : ∃ x, Lrel (allPub w) ((cs.drop 0).take (Tryd.prog.cellsOf 33)) ((dC 32) x) := hf 0 _ rfl (opens_bytes Tryd.underlying33 Tryd.underlying5 cO5 cO33)
  obtain ⟨x1, h1⟩ : ∃ x, Lrel (allPub w) ((cs.drop 32).take (Tryd.prog.cellsOf 23)) ((iC .u64) x) := hf 1 _ rfl (opens_int Tryd.underlying23)
  rw [cO33] at h0
  rw [cO23] at h1
  exact ⟨⟨x0, x1⟩, cut1 0 _ h0 (cut1 _ _ h1 (cut0 (hl.trans cO175)))⟩
def S_api_Timed.W (x : S_api_Timed) : Prop := (x.f_Root.length = 32) ∧ (InR .u64 x.f_At)
theorem S_api_Timed.wf {Φ : Pub} {cs : List Value} {x : S_api_Timed} (h : Lrel Φ cs (S_api_Timed.ck x)) : S_api_Timed.W x := by
  obtain ⟨⟨_, g0⟩, _, k0⟩ := wf_cut h
  obtain ⟨⟨_, g1⟩, _, k1⟩ := wf_cut k0
  exact ⟨wf_bytes _ _ _ g0, wf_int _ _ _ g1⟩
theorem S_api_Timed.wf' : ∀ (Φ : Pub) (cs : List Value) (x : S_api_Timed), Lrel Φ cs (S_api_Timed.ck x) → S_api_Timed.W x := fun _ _ _ h => S_api_Timed.wf h
theorem cO41 : Tryd.prog.cellsOf 41 = 1 := by kernel_rfl
theorem cO130 : Tryd.prog.cellsOf 130 = 65 := by kernel_rfl
theorem S_api_State.opens : Opens Tryd.prog 130 S_api_State.ck := by
  intro H enc w base sp held fuel cs r h
  obtain ⟨hl, hf⟩ := opens_fields Tryd.underlying130 h
  obtain ⟨x0, h0⟩ : ∃ x, Lrel (allPub w) ((cs.drop 0).take (Tryd.prog.cellsOf 33)) ((dC 32) x) := hf 0 _ rfl (opens_bytes Tryd.underlying33 Tryd.underlying5 cO5 cO33)
  obtain ⟨x1, h1⟩ : ∃ x, Lrel (allPub w) ((cs.drop 32).take (Tryd.prog.cellsOf 3)) ((iC .i64) x) := hf 1 _ rfl (opens_int Tryd.underlying3)
  obtain ⟨x2, h2⟩ : ∃ x, Lrel (allPub w) ((cs.drop 33).take (Tryd.prog.cellsOf 33)) ((dC 32) x) := hf 2 _ rfl (opens_bytes Tryd.underlying33 Tryd.underlying5 cO5 cO33)
  rw [cO33] at h0
  rw [cO3] at h1
  rw [cO33] at h2
  exact ⟨⟨x0, x1, x2⟩, cut1 0 _ h0 (cut1 _ _ h1 (cut1 _ _ h2 (cut0 (hl.trans cO130))))⟩
def S_api_State.W (x : S_api_State) : Prop := (x.f_Leaf.length = 32) ∧ (InR .i64 x.f_Status) ∧ (x.f_Root.length = 32)
theorem S_api_State.wf {Φ : Pub} {cs : List Value} {x : S_api_State} (h : Lrel Φ cs (S_api_State.ck x)) : S_api_State.W x := by
  obtain ⟨⟨_, g0⟩, _, k0⟩ := wf_cut h
  obtain ⟨⟨_, g1⟩, _, k1⟩ := wf_cut k0
  obtain ⟨⟨_, g2⟩, _, k2⟩ := wf_cut k1
  exact ⟨wf_bytes _ _ _ g0, wf_int _ _ _ g1, wf_bytes _ _ _ g2⟩
theorem S_api_State.wf' : ∀ (Φ : Pub) (cs : List Value) (x : S_api_State), Lrel Φ cs (S_api_State.ck x) → S_api_State.W x := fun _ _ _ h => S_api_State.wf h
theorem cO42 : Tryd.prog.cellsOf 42 = 1 := by kernel_rfl
theorem cO44 : Tryd.prog.cellsOf 44 = 72 := by kernel_rfl
theorem S_api_Replica.opens : Opens Tryd.prog 44 S_api_Replica.ck := by
  intro H enc w base sp held fuel cs r h
  obtain ⟨hl, hf⟩ := opens_fields Tryd.underlying44 h
  obtain ⟨x0, h0⟩ : ∃ x, Lrel (allPub w) ((cs.drop 0).take (Tryd.prog.cellsOf 22)) ((iC .u32) x) := hf 0 _ rfl (opens_int Tryd.underlying22)
  obtain ⟨x1, h1⟩ : ∃ x, Lrel (allPub w) ((cs.drop 1).take (Tryd.prog.cellsOf 22)) ((iC .u32) x) := hf 1 _ rfl (opens_int Tryd.underlying22)
  obtain ⟨x2, h2⟩ : ∃ x, Lrel (allPub w) ((cs.drop 2).take (Tryd.prog.cellsOf 33)) ((dC 32) x) := hf 2 _ rfl (opens_bytes Tryd.underlying33 Tryd.underlying5 cO5 cO33)
  obtain ⟨x3, h3⟩ : ∃ x, Lrel (allPub w) ((cs.drop 34).take (Tryd.prog.cellsOf 37)) ((slC (dC 32)) x) := hf 3 _ rfl (opens_slice Tryd.underlying37 (opens_bytes Tryd.underlying33 Tryd.underlying5 cO5 cO33) cO33 (lens_dC 32) (by decide))
  obtain ⟨x4, h4⟩ : ∃ x, Lrel (allPub w) ((cs.drop 35).take (Tryd.prog.cellsOf 23)) ((iC .u64) x) := hf 4 _ rfl (opens_int Tryd.underlying23)
  obtain ⟨x5, h5⟩ : ∃ x, Lrel (allPub w) ((cs.drop 36).take (Tryd.prog.cellsOf 33)) ((dC 32) x) := hf 5 _ rfl (opens_bytes Tryd.underlying33 Tryd.underlying5 cO5 cO33)
  obtain ⟨x6, h6⟩ : ∃ x, Lrel (allPub w) ((cs.drop 68).take (Tryd.prog.cellsOf 41)) ((slC S_api_Timed.ck) x) := hf 6 _ rfl (opens_slice Tryd.underlying41 S_api_Timed.opens cO175 S_api_Timed.lens (by decide))
  obtain ⟨x7, h7⟩ : ∃ x, Lrel (allPub w) ((cs.drop 69).take (Tryd.prog.cellsOf 42)) ((slC S_api_State.ck) x) := hf 7 _ rfl (opens_slice Tryd.underlying42 S_api_State.opens cO130 S_api_State.lens (by decide))
  obtain ⟨x8, h8⟩ : ∃ x, Lrel (allPub w) ((cs.drop 70).take (Tryd.prog.cellsOf 4)) (boC x) := hf 8 _ rfl (opens_bool Tryd.underlying4)
  obtain ⟨x9, h9⟩ : ∃ x, Lrel (allPub w) ((cs.drop 71).take (Tryd.prog.cellsOf 4)) (boC x) := hf 9 _ rfl (opens_bool Tryd.underlying4)
  rw [cO22] at h0
  rw [cO22] at h1
  rw [cO33] at h2
  rw [cO37] at h3
  rw [cO23] at h4
  rw [cO33] at h5
  rw [cO41] at h6
  rw [cO42] at h7
  rw [cO4] at h8
  rw [cO4] at h9
  exact ⟨⟨x0, x1, x2, x3, x4, x5, x6, x7, x8, x9⟩, cut1 0 _ h0 (cut1 _ _ h1 (cut1 _ _ h2 (cut1 _ _ h3 (cut1 _ _ h4 (cut1 _ _ h5 (cut1 _ _ h6 (cut1 _ _ h7 (cut1 _ _ h8 (cut1 _ _ h9 (cut0 (hl.trans cO44)))))))))))⟩
def S_api_Replica.W (x : S_api_Replica) : Prop := (InR .u32 x.f_Chain) ∧ (InR .u32 x.f_Here) ∧ (x.f_Updater.length = 32) ∧ (x.f_Watchers.length ≤ mxl ∧ ∀ y ∈ x.f_Watchers, y.length = 32) ∧ (InR .u64 x.f_Window) ∧ (x.f_Committed.length = 32) ∧ (x.f_Roots.length ≤ mxl ∧ ∀ y ∈ x.f_Roots, S_api_Timed.W y) ∧ (x.f_States.length ≤ mxl ∧ ∀ y ∈ x.f_States, S_api_State.W y)
theorem S_api_Replica.wf {Φ : Pub} {cs : List Value} {x : S_api_Replica} (h : Lrel Φ cs (S_api_Replica.ck x)) : S_api_Replica.W x := by
  obtain ⟨⟨_, g0⟩, _, k0⟩ := wf_cut h
  obtain ⟨⟨_, g1⟩, _, k1⟩ := wf_cut k0
  obtain ⟨⟨_, g2⟩, _, k2⟩ := wf_cut k1
  obtain ⟨⟨_, g3⟩, _, k3⟩ := wf_cut k2
  obtain ⟨⟨_, g4⟩, _, k4⟩ := wf_cut k3
  obtain ⟨⟨_, g5⟩, _, k5⟩ := wf_cut k4
  obtain ⟨⟨_, g6⟩, _, k6⟩ := wf_cut k5
  obtain ⟨⟨_, g7⟩, _, k7⟩ := wf_cut k6
  obtain ⟨⟨_, g8⟩, _, k8⟩ := wf_cut k7
  obtain ⟨⟨_, g9⟩, _, k9⟩ := wf_cut k8
  exact ⟨wf_int _ _ _ g0, wf_int _ _ _ g1, wf_bytes _ _ _ g2, (wf_slice wf_bytes) _ _ _ g3, wf_int _ _ _ g4, wf_bytes _ _ _ g5, (wf_slice S_api_Timed.wf') _ _ _ g6, (wf_slice S_api_State.wf') _ _ _ g7⟩
theorem S_api_Replica.wf' : ∀ (Φ : Pub) (cs : List Value) (x : S_api_Replica), Lrel Φ cs (S_api_Replica.ck x) → S_api_Replica.W x := fun _ _ _ h => S_api_Replica.wf h
theorem cO46 : Tryd.prog.cellsOf 46 = 1176 := by kernel_rfl
theorem S_api_Chain.opens : Opens Tryd.prog 46 S_api_Chain.ck := by
  intro H enc w base sp held fuel cs r h
  obtain ⟨hl, hf⟩ := opens_fields Tryd.underlying46 h
  obtain ⟨x0, h0⟩ : ∃ x, Lrel (allPub w) ((cs.drop 0).take (Tryd.prog.cellsOf 22)) ((iC .u32) x) := hf 0 _ rfl (opens_int Tryd.underlying22)
  obtain ⟨x1, h1⟩ : ∃ x, Lrel (allPub w) ((cs.drop 1).take (Tryd.prog.cellsOf 27)) (S_api_Ledger.ck x) := hf 1 _ rfl S_api_Ledger.opens
  obtain ⟨x2, h2⟩ : ∃ x, Lrel (allPub w) ((cs.drop 6).take (Tryd.prog.cellsOf 31)) (S_api_Purse.ck x) := hf 2 _ rfl S_api_Purse.opens
  obtain ⟨x3, h3⟩ : ∃ x, Lrel (allPub w) ((cs.drop 8).take (Tryd.prog.cellsOf 40)) (S_api_Home.ck x) := hf 3 _ rfl S_api_Home.opens
  obtain ⟨x4, h4⟩ : ∃ x, Lrel (allPub w) ((cs.drop 1103).take (Tryd.prog.cellsOf 44)) (S_api_Replica.ck x) := hf 4 _ rfl S_api_Replica.opens
  obtain ⟨x5, h5⟩ : ∃ x, Lrel (allPub w) ((cs.drop 1175).take (Tryd.prog.cellsOf 9)) (strC x) := hf 5 _ rfl (opens_str Tryd.underlying9)
  rw [cO22] at h0
  rw [cO27] at h1
  rw [cO31] at h2
  rw [cO40] at h3
  rw [cO44] at h4
  rw [cO9] at h5
  exact ⟨⟨x0, x1, x2, x3, x4, x5⟩, cut1 0 _ h0 (cut1 _ _ h1 (cut1 _ _ h2 (cut1 _ _ h3 (cut1 _ _ h4 (cut1 _ _ h5 (cut0 (hl.trans cO46)))))))⟩
def S_api_Chain.W (x : S_api_Chain) : Prop := (InR .u32 x.f_ID) ∧ (S_api_Ledger.W x.f_Ledger) ∧ (S_api_Purse.W x.f_Purse) ∧ (S_api_Home.W x.f_Home) ∧ (S_api_Replica.W x.f_Replica) ∧ (x.f_Remote.length ≤ mxl)
theorem S_api_Chain.wf {Φ : Pub} {cs : List Value} {x : S_api_Chain} (h : Lrel Φ cs (S_api_Chain.ck x)) : S_api_Chain.W x := by
  obtain ⟨⟨_, g0⟩, _, k0⟩ := wf_cut h
  obtain ⟨⟨_, g1⟩, _, k1⟩ := wf_cuts (K := S_api_Ledger.ck x.f_Ledger) k0
  obtain ⟨⟨_, g2⟩, _, k2⟩ := wf_cuts (K := S_api_Purse.ck x.f_Purse) k1
  obtain ⟨⟨_, g3⟩, _, k3⟩ := wf_cuts (K := S_api_Home.ck x.f_Home) k2
  obtain ⟨⟨_, g4⟩, _, k4⟩ := wf_cuts (K := S_api_Replica.ck x.f_Replica) k3
  obtain ⟨⟨_, g5⟩, _, k5⟩ := wf_cut k4
  exact ⟨wf_int _ _ _ g0, S_api_Ledger.wf' _ _ _ g1, S_api_Purse.wf' _ _ _ g2, S_api_Home.wf' _ _ _ g3, S_api_Replica.wf' _ _ _ g4, wf_str _ _ _ g5⟩
theorem S_api_Chain.wf' : ∀ (Φ : Pub) (cs : List Value) (x : S_api_Chain), Lrel Φ cs (S_api_Chain.ck x) → S_api_Chain.W x := fun _ _ _ h => S_api_Chain.wf h
def plain_auditChains : Prop := ∀ (x0 : S_api_Chain) (x1 : S_api_Chain) (x2 : Int) (x3 : List UInt8), (S_api_Chain.W x0) → (S_api_Chain.W x1) → (InR .u32 x2) → (x3.length ≤ mxl) → law28_AuditChains x0 x1 x2 x3 = some true
theorem auditChains_lifted (plain : plain_auditChains) (os : Os) (started : os.Started) (H : Type) (enc : TypeId × Value → H) :
    ReturnsInHanded {} Tryd.checked os 3 .any (fun w args => (Rows.auditChainsSpec.pre enc Tryd.prog Tryd.f3 [] false w args ∧ laidMetH Tryd.prog laidL w) ∧ sizedMet enc Tryd.prog Tryd.f3 (OpenSpec.ofChange Rows.auditChainsSpec) false w args)
      (Rows.auditChainsSpec.post enc Tryd.prog Tryd.f3 false true false false) := by
  refine returnsInHanded_of_change_and (C := Tryd.checked) (X := fun w _ => laidMetH Tryd.prog laidL w) (fun _ _ _ hh h => h.of_heap hh) ownKn started (by kernel_rfl) Tryd.func3
    (witness_wide (enc := enc) (C := Tryd.checked) (os := os) (X := fun w _ => laidMetH Tryd.prog laidL w) false (laidWorld os) #[.agg Tryd.zeroCells46, .agg Tryd.zeroCells46, .int .u32 0, .string ⟨#[]⟩] 8 rfl (World.shaped_of_RefB (by kernel_rfl) (by kernel_rfl)) (fun base => okInput (by kernel_rfl) Tryd.func3 (by kernel_rfl) (by kernel_rfl) (by kernel_rfl) (by kernel_rfl) (fun j t v ht hv => by
      have ht : (#[46, 46, 22, 9] : Array TypeId)[j]? = some t := by rw [← Tryd.params3]; exact ht
      match j, ht, hv with
      | 0, ht, hv => obtain rfl := Option.some.inj ht; obtain rfl := Option.some.inj hv; exact okVal_of_Z Tryd.underlying46 (by kernel_rfl) (by kernel_rfl)
      | 1, ht, hv => obtain rfl := Option.some.inj ht; obtain rfl := Option.some.inj hv; exact okVal_of_Z Tryd.underlying46 (by kernel_rfl) (by kernel_rfl)
      | 2, ht, hv => obtain rfl := Option.some.inj ht; obtain rfl := Option.some.inj hv; exact Value.okWide_of_okWideB (by kernel_rfl)
      | 3, ht, hv => obtain rfl := Option.some.inj ht; obtain rfl := Option.some.inj hv; exact Value.okWide_of_okWideB (by kernel_rfl)
      | j + 4, ht, hv => simp at ht)) (by kernel_rfl) (by kernel_rfl) (door_met os _)) ?_
  intro W base args ds gs before hval0 hW _ _ hL _
  have hval : ∀ (j : Nat) t v, Tryd.f3.params[j]? = some t → args[j]? = some v → Value.okWide Tryd.prog W .any base t v := hval0
  have hW' := hW
  obtain ⟨p, q, hA0, hV, rfl, hfz, hnd⟩ := hW
  have hA : DataW.TrodAll enc Tryd.prog W 0 (fun _ => true) true Tryd.f3.params.toList args.toList ds p := hA0
  rw [Tryd.params3] at hA hval
  obtain ⟨v0, vs0, d0, ds0, p0, q0, hargs, rfl, rfl, h0, r0⟩ := trodAll_cons hA
  obtain ⟨v1, vs1, d1, ds1, p1, q1, rfl, rfl, rfl, h1, r1⟩ := trodAll_cons r0
  obtain ⟨v2, vs2, d2, ds2, p2, q2, rfl, rfl, rfl, h2, r2⟩ := trodAll_cons r1
  obtain ⟨v3, vs3, d3, ds3, p3, q3, rfl, rfl, rfl, h3, r3⟩ := trodAll_cons r2
  obtain ⟨rfl, rfl, rfl⟩ := trodAll_nil r3
  obtain rfl : args = #[v0, v1, v2, v3] := by cases args; simp_all
  obtain ⟨rfl, rfl⟩ := trodVars_none hV
  have lt0 : ∀ x ∈ p0, x.block < W.heap.size := by obtain ⟨m, hm⟩ := h0; exact DataW.trod_lt m _ _ _ hm
  have lt1 : ∀ x ∈ p1, x.block < W.heap.size := by obtain ⟨m, hm⟩ := h1; exact DataW.trod_lt m _ _ _ hm
  have lt2 : ∀ x ∈ p2, x.block < W.heap.size := by obtain ⟨m, hm⟩ := h2; exact DataW.trod_lt m _ _ _ hm
  have lt3 : ∀ x ∈ p3, x.block < W.heap.size := by obtain ⟨m, hm⟩ := h3; exact DataW.trod_lt m _ _ _ hm
  obtain ⟨x0, hx0⟩ := opens_val S_api_Chain.opens h0
  obtain ⟨x1, hx1⟩ := opens_val S_api_Chain.opens h1
  obtain ⟨x2, hx2⟩ := opens_val (opens_int Tryd.underlying22) h2
  obtain ⟨x3, hx3⟩ := opens_val (opens_str Tryd.underlying9) h3
  have a0 := agg_of (c := S_api_Chain.ck) (hval 0 46 v0 rfl rfl) (by rw [Tryd.underlying46]; trivial) hx0
  have w0 := S_api_Chain.wf' _ _ _ hx0
  have a1 := agg_of (c := S_api_Chain.ck) (hval 1 46 v1 rfl rfl) (by rw [Tryd.underlying46]; trivial) hx1
  have w1 := S_api_Chain.wf' _ _ _ hx1
  have a2 := val_int (hval 2 22 v2 rfl rfl) Tryd.underlying22 hx2
  have w2 := wf_int _ _ _ hx2
  have a3 := val_str (hval 3 9 v3 rfl rfl) Tryd.underlying9 hx3
  have w3 := wf_str _ _ _ hx3
  clear hA0 hval0
  refine (law_calls (law28_AuditChains_ok (plain x0 x1 x2 x3 w0 w1 w2 w3)) (KG_of hL) (args := [v0, v1, v2, v3]) ⟨a0, a1, a2, a3, trivial⟩).mono fun e W' ⟨he, bel⟩ => ?_
  subst he
  exact ⟨_, rfl, _, _, _, [], _, [], hW', trodAll_mk1 (shut_bool Tryd.underlying4 _), (trodAll_cons_mk (Below.trod laidOut (by kernel_rfl) (of_decide_eq_true (by kernel_rfl)) h0 bel lt0) (trodAll_cons_mk (Below.trod laidOut (by kernel_rfl) (of_decide_eq_true (by kernel_rfl)) h1 bel lt1) (trodAll_cons_mk (Below.trod laidOut (by kernel_rfl) (of_decide_eq_true (by kernel_rfl)) h2 bel lt2) (trodAll_cons_mk (Below.trod laidOut (by kernel_rfl) (of_decide_eq_true (by kernel_rfl)) h3 bel lt3) trodAll_mk0)))), rfl, bel.frame _, fun h => by cases h⟩
theorem auditChains_said (plain : plain_auditChains) : Rows.AuditChainsSaid :=
  OpenClaim.holds_of_wide 3 Tryd.f3 rfl rfl rfl rfl rfl rfl rfl ⟨rfl, rfl, rfl, rfl, rfl⟩ rfl rfl rfl rfl rfl (by kernel_rfl) Tryd.func3 (by kernel_rfl)
    (of_decide_eq_true (by kernel_rfl)) (by unfold Func.isWrapper; first | (rw [if_pos (by decide +kernel)]; kernel_rfl) | (rw [if_neg (by decide +kernel)]; exact ⟨rfl, rfl⟩))
    (fun os started H enc _ => auditChains_lifted plain os started H enc)
theorem auditChains_card : Rows.AuditChainsCardSaid :=
  Claim7.holds_tied_plain_at .later [] [.data, .pinned] true (true, "6dad6e51c60e63abba12e899c53a43883633897195db1631bcf12278c5ac691f") false
    (auditChains_said (fun x0 x1 x2 x3 w0 w1 _ _ => auditChains_true x0 x1 x2 x3 w0.2.1.2.2.2.1.1 w0.2.2.1.1.1 w0.2.2.1.2.1 w0.2.1.2.2.2.2.1 w1.2.1.2.2.2.1.1 w1.2.2.1.1.1 w1.2.2.1.2.1 (fun y hy => (w0.2.2.1.2.2 y hy).2.2.2) (fun y hy => (w0.2.1.2.2.2.1.2 y hy).2.2.2) w0.2.2.2.1.2.2.2.2.2.2.2)) (fun _ h => by cases h) (by kernel_rfl) (fun _ h => by cases h) auditChains_row_tie rfl ⟨rfl, rfl⟩ (by kernel_rfl) rfl
    (fun f fn hf hfn => by
      obtain rfl : f = 3 := Option.some.inj ((show Tryd.prog.funcNamed "pontoon/pontoonlaw28.AuditChains" = some 3 by kernel_rfl).symm.trans hf) |>.symm
      obtain rfl : fn = Tryd.f3 := (Option.some.inj (Tryd.func3.symm.trans hfn)).symm
      exact ⟨by kernel_rfl, fun j t ht => by
        rw [Tryd.params3] at ht
        have h3 : t ∈ ([46, 46, 22, 9] : List TypeId) := by
          have := List.mem_of_getElem? (by simpa using ht)
          simpa using this
        simp only [List.mem_cons, List.not_mem_nil, or_false] at h3
        rcases h3 with rfl | rfl | rfl | rfl
        · exact (show Tryd.prog.wantsStandIn 46 = false by kernel_rfl)
        · exact (show Tryd.prog.wantsStandIn 46 = false by kernel_rfl)
        · exact (show Tryd.prog.wantsStandIn 22 = false by kernel_rfl)
        · exact (show Tryd.prog.wantsStandIn 9 = false by kernel_rfl)⟩)
    (by kernel_rfl)
#print axioms auditChains_card
end Go.Proofs.YtafeolgdggncnaaDoor
